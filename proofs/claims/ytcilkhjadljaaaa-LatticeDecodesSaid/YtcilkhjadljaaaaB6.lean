import Derived.Test.YtcilkhjadljaaaaB5
import Derived.Test.YtcilkhjadljaaaaB4
import Derived.Test.YtcilkhjadljaaaaB2
section
/- The reading of a tree: contract. -/
set_option linter.unusedSimpArgs false
set_option linter.unusedVariables false
set_option maxRecDepth 8000
namespace Go.Proofs.Ytcilkhjadljaaaa
open Gx Go

/-- What stands behind the head: the local tree, at a block X; all that is written later lies above. -/
structure HdS (H : Heap) (b : Nat) (L : Bs) (g : Option Nat) (H' : Heap) (X : Nat) (k : Nat) (h : Hd) (vn : Value) (gn : Option Nat) : Prop where
  blk : Blk H' X 26 [.int .i64 k, .int .i64 h.lo, .int .i64 h.hi, vn, .slice none 0 0, .slice none 0 0]
  cell : Blk H' H.size 26 [.int .i64 0, .int .i64 0, .int .i64 0, .slice none 0 0, .slice none 0 0, .slice none 0 0]
  names : LsO H' (fun x => x ≤ X) 9 1 vn (h.names.map strD) gn
  above : ∀ y, gn = some y → X < y
  rd : RdO H' b L h.s g
  fr : Fr [b] H H'

theorem partsO_none (f : Pl → Lt × Pl) (k6 : Bool) (L : Bs) (n : Nat) : partsO f k6 L n none = ([], [], none) := by cases n <;> rfl
theorem partsO_zero (f : Pl → Lt × Pl) (k6 : Bool) (L : Bs) (s : Pl) : partsO f k6 L 0 s = ([], [], s) := by cases s <;> rfl
theorem partsO_six (f : Pl → Lt × Pl) (L : Bs) (n p : Nat) : partsO f true L (n + 1) (some p) =
    ((bytesO L (some p)).1 :: (partsO f true L n (f (bytesO L (some p)).2).2).1, (f (bytesO L (some p)).2).1 :: (partsO f true L n (f (bytesO L (some p)).2).2).2.1, (partsO f true L n (f (bytesO L (some p)).2).2).2.2) := by
  simp only [partsO, if_true]
theorem partsO_else (f : Pl → Lt × Pl) (L : Bs) (n p : Nat) : partsO f false L (n + 1) (some p) =
    ((partsO f false L n (f (some p)).2).1, (f (some p)).1 :: (partsO f false L n (f (some p)).2).2.1, (partsO f false L n (f (some p)).2).2.2) := by
  simp only [partsO, Bool.false_eq_true, if_false]
theorem headO_n (L : Bs) (k : Nat) (s : Pl) : (headO L k s).n ≤ L.length + 2 := by
  have := countO_le L s
  unfold headO
  repeat' split
  all_goals (simp only; omega)

/-- What holds at the head of each round over the parts. -/
structure PtS (H : Heap) (b : Nat) (L : Bs) (g : Option Nat) (f : Pl → Lt × Pl) (X k : Nat) (hd : Hd) (H' : Heap) (i : Nat) (nd : List Bs) (pd : List Lt) (vn : Value) (gn : Option Nat) (vp : Value) (gp : Option Nat) (s' : Pl) : Prop where
  le : i ≤ hd.n
  npd : pd.length = i
  nnd : nd.length ≤ i
  blk : Blk H' X 26 [.int .i64 k, .int .i64 hd.lo, .int .i64 hd.hi, vn, vp, .slice none 0 0]
  cell : Blk H' H.size 26 [.int .i64 0, .int .i64 0, .int .i64 0, .slice none 0 0, .slice none 0 0, .slice none 0 0]
  names : LsO H' (fun x => x ≤ X ∨ gp = some x) 9 1 vn ((hd.names ++ nd).map strD) gn
  parts : LsO H' (fun x => x ≤ X ∨ gn = some x) 26 6 vp (pd.map Lt.dat) gp
  an : ∀ y, gn = some y → X < y
  ap : ∀ y, gp = some y → X < y
  rd : RdO H' b L s' g
  fr : Fr [b] H H'
  eq : (nd ++ (partsO f (k == 6) L (hd.n - i) s').1, pd ++ (partsO f (k == 6) L (hd.n - i) s').2.1, (partsO f (k == 6) L (hd.n - i) s').2.2) = partsO f (k == 6) L hd.n hd.s

/-- What holds at the head of each round over the rules. -/
structure RuS (H : Heap) (b : Nat) (L : Bs) (g : Option Nat) (X k : Nat) (hd : Hd) (H7 : Heap) (n : Nat) (vn vp : Value) (H' : Heap) (i : Nat) (rd : List Rl) (vr : Value) (gr : Option Nat) (s' : Pl) (ns : List Bs) (ps : List Lt) : Prop where
  le : i ≤ n
  len : rd.length = i
  blk : Blk H' X 26 [.int .i64 k, .int .i64 hd.lo, .int .i64 hd.hi, vn, vp, vr]
  cell : Blk H' H.size 26 [.int .i64 0, .int .i64 0, .int .i64 0, .slice none 0 0, .slice none 0 0, .slice none 0 0]
  names : RepP H' (fun y => y ≤ X ∨ H7.size ≤ y) (strsD ns) [vn]
  parts : RepP H' (fun y => y ≤ X ∨ H7.size ≤ y) (partsD ps) [vp]
  rules : LsO H' (fun y => y ≤ X) 50 2 vr (rd.map ruleD) gr
  ar : ∀ y, gr = some y → H7.size ≤ y ∧ X < y
  rd : RdO H' b L s' g
  fr : Fr [b] H H'
  up : H7.size ≤ H'.size

set_option maxHeartbeats 8000000 in
theorem read_ok (L : Bs) : ∀ (lv : Nat) {H : Heap} {b : Nat} {s : Pl} {g : Option Nat}, lv ≤ 6 → RdO H b L s g →
    HCalls Try.prog 42 #[.pointer (some ⟨b, 0, none⟩), .int .i64 lv] H fun r H' => ∃ cs, r = .agg cs.toArray ∧ RepP H' (fun x => x < H.size) (rT L lv s).1.dat cs ∧ RdO H' b L (rT L lv s).2 g ∧ Fr [b] H H' := by
  intro lv
  induction lv with
  | zero =>
    intro H b s g hlv h
    have hbl := h.lt
    refine calls_of_vc (args := [_, _]) Try.func42 c42ok (Nat.le_of_ble_eq_true rfl) ?_
    simp (implicitDefEqProofs := false) only [go_sem, c42]
    refine NewP_intro fun H1 hn1 hf1 hs1 => ?_
    simp (implicitDefEqProofs := false) only [go_sem]
    refine (ruint_o (h.ext hf1)).mono ?_
    rintro r H2 ⟨rfl, hr2, hf2⟩
    have e0 : ((0 : Nat) : Int) = 0 := rfl
    simp (implicitDefEqProofs := false) only [go_sem, e0]
    refine (rfail_o hr2).mono ?_
    rintro r H3 ⟨rfl, hr3, hf3⟩
    have hn3 := (hn1.fr hf2 (by simp; omega)).fr hf3 (by simp; omega)
    have hF : Fr [b] H H3 := ((hf1.mono (by simp)).trans hf2).trans hf3
    simp (implicitDefEqProofs := false) only [go_sem]
    refine Sto_all hn3 rfl (by simp [Value.oneCell']) fun H4 hn4 hf4 hs4 => ?_
    have hc4 := hn4.cell
    simp (implicitDefEqProofs := false) only [go_sem, hc4]
    refine ⟨_, rfl, fun M _ => zeroA _ _, hr3.fr hf4 (by simp; omega) (fun k hk => by have := h.ltg hk; simp; omega), hF.trans' hf4 (by simp)⟩
  | succ lv ih =>
    intro H b s g hlv h
    have hbl := h.lt
    have hgl : ∀ k, g = some k → k < H.size := fun k hk => h.ltg hk
    have hL := h.len
    refine calls_of_vc (args := [_, _]) Try.func42 c42ok (Nat.le_of_ble_eq_true rfl) ?_
    simp (implicitDefEqProofs := false) only [go_sem, c42]
    refine NewP_intro fun H1 hn1 hf1 hs1 => ?_
    simp (implicitDefEqProofs := false) only [go_sem]
    refine (ruint_o (h.ext hf1)).mono ?_
    rintro r H2 ⟨rfl, hr2, hf2⟩
    have hn2 := hn1.fr hf2 (by simp; omega)
    have hF2 : Fr [b] H H2 := (hf1.mono (by simp)).trans hf2
    have e0 : ¬ (((lv + 1 : Nat) : Int) = 0) := by omega
    unfold rT
    obtain ⟨k, hk⟩ : ∃ k, k = (uintO L s).1 := ⟨_, rfl⟩
    obtain ⟨s1, hs1⟩ : ∃ s1, s1 = (uintO L s).2 := ⟨_, rfl⟩
    rw [← hs1] at hr2
    rw [← hk, ← hs1]
    by_cases hk10 : 10 < k
    · have hk10' : (10 : Int) < (k : Int) := by omega
      simp (implicitDefEqProofs := false) only [go_sem, e0, hk10']
      refine (rfail_o hr2).mono ?_
      rintro r H3 ⟨rfl, hr3, hf3⟩
      have hn3 := hn2.fr hf3 (by simp; omega)
      have hF : Fr [b] H H3 := hF2.trans hf3
      simp (implicitDefEqProofs := false) only [go_sem]
      refine Sto_all hn3 rfl (by simp [Value.oneCell']) fun H4 hn4 hf4 hs4 => ?_
      have hc4 := hn4.cell
      simp (implicitDefEqProofs := false) only [go_sem, hc4]
      rw [if_pos hk10]
      refine ⟨_, rfl, fun M _ => zeroA _ _, hr3.fr hf4 (by simp; omega) (fun k hk => by have := h.ltg hk; simp; omega), hF.trans' hf4 (by simp)⟩
    have hk10' : ¬ (10 : Int) < (k : Int) := by omega
    have hwk : IntKind.i64.wrap (k : Int) = (k : Int) := wrap_i64_id _ (by omega) (by omega)
    rw [if_neg hk10]
    simp (implicitDefEqProofs := false) only [go_sem, e0, hk10', hwk]
    refine NewP_intro fun H3 hn3 hf3 hs3 => ?_
    simp (implicitDefEqProofs := false) only [go_sem]
    refine Sto_all hn3 rfl (by simp [Value.oneCell']) fun H4 hn4 hf4 hs4 => ?_
    have hc4 := hn4.cell
    have hfn := new_fr hf3 hf4
    have hr4 := hr2.ext hfn
    have hcl4 := hn2.ext hfn
    have hF4 : Fr [b] H H4 := hF2.trans (hfn.mono (by simp))
    have hX : H.size < H2.size := by have := hF2.size; have := hcl4.lt; have := hn2.lt; omega
    simp (implicitDefEqProofs := false) only [go_sem, hc4]
    refine vc_mid (fun σ H' => ∃ x10 x11 x12 x13 x14 vn gn, σ = [some (.pointer (some ⟨b, 0, none⟩)), some (.int .i64 (lv + 1 : Nat)), some (.pointer (some ⟨H.size, 0, none⟩)), some (.int .u64 k), some (.pointer (some ⟨H2.size, 0, none⟩)), some (.int .i64 (headO L k s1).n), some undef, some undef, some (.bool false), some (.int .i64 k), x10, x11, x12, x13, x14, some undef, some undef, some undef, some undef, some undef, some undef, some undef] ∧
      HdS H b L g H' H2.size k (headO L k s1) vn gn) ?_ ?_
    · intro K hK
      have hk11 : k = 0 ∨ k = 1 ∨ k = 2 ∨ k = 3 ∨ k = 4 ∨ k = 5 ∨ k = 6 ∨ k = 7 ∨ k = 8 ∨ k = 9 ∨ k = 10 := by omega
      clear hk hwk hk10 hk10'
      rcases hk11 with rfl | rfl | rfl | rfl | rfl | rfl | rfl | rfl | rfl | rfl | rfl
      · -- k = 0
        simp (implicitDefEqProofs := false) only [go_sem, c42s40eq]
        exact hK _ _ ⟨_, _, _, _, _, _, none, rfl, ⟨hn4, hcl4, LsO.nil, by simp, hr4, hF4⟩⟩
      · -- k = 1
        simp (implicitDefEqProofs := false) only [go_sem, c42s40eq]
        exact hK _ _ ⟨_, _, _, _, _, _, none, rfl, ⟨hn4, hcl4, LsO.nil, by simp, hr4, hF4⟩⟩
      · -- k = 2
        simp (implicitDefEqProofs := false) only [go_sem, c42s40eq]
        refine (rint_o hr4).mono ?_
        rintro r H5 ⟨rfl, hr5, hf5⟩
        have hb5 := hn4.fr hf5 (by simp; omega)
        have hc5 := hcl4.fr hf5 (by simp; omega)
        simp (implicitDefEqProofs := false) only [go_sem]
        refine Sto_one hb5 (by simp) rfl fun H6 hb6 hf6 hs6 => ?_
        have hr6 := hr5.fr hf6 (by simp; omega) (fun y hy => by have := hgl y hy; simp; omega)
        have hc6 := hc5.fr hf6 (by simp; omega)
        have hF6 := (hF4.trans hf5).trans' hf6 (by simp; omega)
        simp (implicitDefEqProofs := false) only [go_sem]
        refine (rint_o hr6).mono ?_
        rintro r H7 ⟨rfl, hr7, hf7⟩
        have hb7 := hb6.fr hf7 (by simp; omega)
        have hc7 := hc6.fr hf7 (by simp; omega)
        simp (implicitDefEqProofs := false) only [go_sem]
        refine Sto_one hb7 (by simp) rfl fun H8 hb8 hf8 hs8 => ?_
        have hr8 := hr7.fr hf8 (by simp; omega) (fun y hy => by have := hgl y hy; simp; omega)
        have hc8 := hc7.fr hf8 (by simp; omega)
        have hF8 := (hF6.trans hf7).trans' hf8 (by simp; omega)
        simp (implicitDefEqProofs := false) only [go_sem]
        exact hK _ _ ⟨_, _, _, _, _, _, none, rfl, ⟨by simpa [headO] using hb8, hc8, LsO.nil, by simp, hr8, hF8⟩⟩
      · -- k = 3
        simp (implicitDefEqProofs := false) only [go_sem, c42s40eq]
        refine (rint_o hr4).mono ?_
        rintro r H5 ⟨rfl, hr5, hf5⟩
        have hb5 := hn4.fr hf5 (by simp; omega)
        have hc5 := hcl4.fr hf5 (by simp; omega)
        simp (implicitDefEqProofs := false) only [go_sem]
        refine Sto_one hb5 (by simp) rfl fun H6 hb6 hf6 hs6 => ?_
        have hr6 := hr5.fr hf6 (by simp; omega) (fun y hy => by have := hgl y hy; simp; omega)
        have hc6 := hc5.fr hf6 (by simp; omega)
        have hF6 := (hF4.trans hf5).trans' hf6 (by simp; omega)
        simp (implicitDefEqProofs := false) only [go_sem]
        refine (rint_o hr6).mono ?_
        rintro r H7 ⟨rfl, hr7, hf7⟩
        have hb7 := hb6.fr hf7 (by simp; omega)
        have hc7 := hc6.fr hf7 (by simp; omega)
        simp (implicitDefEqProofs := false) only [go_sem]
        refine Sto_one hb7 (by simp) rfl fun H8 hb8 hf8 hs8 => ?_
        have hr8 := hr7.fr hf8 (by simp; omega) (fun y hy => by have := hgl y hy; simp; omega)
        have hc8 := hc7.fr hf8 (by simp; omega)
        have hF8 := (hF6.trans hf7).trans' hf8 (by simp; omega)
        simp (implicitDefEqProofs := false) only [go_sem]
        exact hK _ _ ⟨_, _, _, _, _, _, none, rfl, ⟨by simpa [headO] using hb8, hc8, LsO.nil, by simp, hr8, hF8⟩⟩
      · -- k = 4
        simp (implicitDefEqProofs := false) only [go_sem, c42s40eq]
        refine (readList_ok hr4).mono ?_
        rintro r H5 ⟨gn, hl5, hg5, hr5, hf5⟩
        have hs4' := hn4.lt
        have hb5 := hn4.fr hf5 (by simp; omega)
        have hc5 := hcl4.fr hf5 (by simp; omega)
        have hone := hl5.one
        obtain ⟨ra, rc, rfl, _, _⟩ := hl5.slice
        simp (implicitDefEqProofs := false) only [go_sem]
        refine Sto_one hb5 (by simp) hone fun H6 hb6 hf6 hs6 => ?_
        have hr6 := hr5.fr hf6 (by simp; omega) (fun y hy => by have := hgl y hy; simp; omega)
        have hc6 := hc5.fr hf6 (by simp; omega)
        have hF6 := (hF4.trans hf5).trans' hf6 (by simp; omega)
        have hl6 := hl5.fr (B' := fun y => y ≤ H2.size) hf6 (by simp; omega) (fun y hy => by have := hg5 y hy; simp; omega) (fun y hy => .inl (by omega))
        simp (implicitDefEqProofs := false) only [go_sem]
        exact hK _ _ ⟨_, _, _, _, _, _, gn, rfl, ⟨by simpa [headO] using hb6, hc6, hl6, fun y hy => by have := hg5 y hy; omega, hr6, hF6⟩⟩
      · -- k = 5
        simp (implicitDefEqProofs := false) only [go_sem, c42s40eq]
        refine (readList_ok hr4).mono ?_
        rintro r H5 ⟨gn, hl5, hg5, hr5, hf5⟩
        have hs4' := hn4.lt
        have hb5 := hn4.fr hf5 (by simp; omega)
        have hc5 := hcl4.fr hf5 (by simp; omega)
        have hone := hl5.one
        obtain ⟨ra, rc, rfl, _, _⟩ := hl5.slice
        simp (implicitDefEqProofs := false) only [go_sem]
        refine Sto_one hb5 (by simp) hone fun H6 hb6 hf6 hs6 => ?_
        have hr6 := hr5.fr hf6 (by simp; omega) (fun y hy => by have := hgl y hy; simp; omega)
        have hc6 := hc5.fr hf6 (by simp; omega)
        have hF6 := (hF4.trans hf5).trans' hf6 (by simp; omega)
        have hl6 := hl5.fr (B' := fun y => y ≤ H2.size) hf6 (by simp; omega) (fun y hy => by have := hg5 y hy; simp; omega) (fun y hy => .inl (by omega))
        simp (implicitDefEqProofs := false) only [go_sem]
        exact hK _ _ ⟨_, _, _, _, _, _, gn, rfl, ⟨by simpa [headO] using hb6, hc6, hl6, fun y hy => by have := hg5 y hy; omega, hr6, hF6⟩⟩
      · -- k = 6
        simp (implicitDefEqProofs := false) only [go_sem, c42s40eq]
        refine (rcount_o hr4).mono ?_
        rintro r H5 ⟨rfl, hr5, hf5⟩
        have hb5 := hn4.fr hf5 (by simp; omega)
        have hc5 := hcl4.fr hf5 (by simp; omega)
        simp (implicitDefEqProofs := false) only [go_sem]
        exact hK _ _ ⟨_, _, _, _, _, _, none, rfl, ⟨hb5, hc5, LsO.nil, by simp, hr5, hF4.trans hf5⟩⟩
      · -- k = 7
        simp (implicitDefEqProofs := false) only [go_sem, c42s40eq]
        exact hK _ _ ⟨_, _, _, _, _, _, none, rfl, ⟨hn4, hcl4, LsO.nil, by simp, hr4, hF4⟩⟩
      · -- k = 8
        simp (implicitDefEqProofs := false) only [go_sem, c42s40eq]
        refine (readList_ok hr4).mono ?_
        rintro r H5 ⟨gn, hl5, hg5, hr5, hf5⟩
        have hs4' := hn4.lt
        have hb5 := hn4.fr hf5 (by simp; omega)
        have hc5 := hcl4.fr hf5 (by simp; omega)
        have hone := hl5.one
        obtain ⟨ra, rc, rfl, _, _⟩ := hl5.slice
        simp (implicitDefEqProofs := false) only [go_sem]
        refine Sto_one hb5 (by simp) hone fun H6 hb6 hf6 hs6 => ?_
        have hr6 := hr5.fr hf6 (by simp; omega) (fun y hy => by have := hgl y hy; simp; omega)
        have hc6 := hc5.fr hf6 (by simp; omega)
        have hF6 := (hF4.trans hf5).trans' hf6 (by simp; omega)
        have hl6 := hl5.fr (B' := fun y => y ≤ H2.size) hf6 (by simp; omega) (fun y hy => by have := hg5 y hy; simp; omega) (fun y hy => .inl (by omega))
        simp (implicitDefEqProofs := false) only [go_sem]
        exact hK _ _ ⟨_, _, _, _, _, _, gn, rfl, ⟨by simpa [headO] using hb6, hc6, hl6, fun y hy => by have := hg5 y hy; omega, hr6, hF6⟩⟩
      · -- k = 9
        simp (implicitDefEqProofs := false) only [go_sem, c42s40eq]
        exact hK _ _ ⟨_, _, _, _, _, _, none, rfl, ⟨hn4, hcl4, LsO.nil, by simp, hr4, hF4⟩⟩
      · -- k = 10
        simp (implicitDefEqProofs := false) only [go_sem, c42s40eq]
        refine (readList_ok hr4).mono ?_
        rintro r H5 ⟨gn, hl5, hg5, hr5, hf5⟩
        have hs4' := hn4.lt
        have hb5 := hn4.fr hf5 (by simp; omega)
        have hc5 := hcl4.fr hf5 (by simp; omega)
        have hone := hl5.one
        obtain ⟨ra, rc, rfl, _, _⟩ := hl5.slice
        simp (implicitDefEqProofs := false) only [go_sem]
        refine Sto_one hb5 (by simp) hone fun H6 hb6 hf6 hs6 => ?_
        have hr6 := hr5.fr hf6 (by simp; omega) (fun y hy => by have := hgl y hy; simp; omega)
        have hc6 := hc5.fr hf6 (by simp; omega)
        have hF6 := (hF4.trans hf5).trans' hf6 (by simp; omega)
        have hl6 := hl5.fr (B' := fun y => y ≤ H2.size) hf6 (by simp; omega) (fun y hy => by have := hg5 y hy; simp; omega) (fun y hy => .inl (by omega))
        simp (implicitDefEqProofs := false) only [go_sem]
        exact hK _ _ ⟨_, _, _, _, _, _, gn, rfl, ⟨by simpa [headO] using hb6, hc6, hl6, fun y hy => by have := hg5 y hy; omega, hr6, hF6⟩⟩
    · rintro σ H5 ⟨x10, x11, x12, x13, x14, vn, gn, rfl, hS⟩
      clear hc4 hfn hr4 hcl4 hF4 hn4 hf4 hn3 hf3 hs3 hs4 hr2 hn2 hF2 hf2 hn1 hf1
      have hnb := headO_n L k s1
      have hd6 : k = 6 → (headO L k s1).names = [] := by rintro rfl; rfl
      obtain ⟨X, hXe⟩ : ∃ X, X = H2.size := ⟨_, rfl⟩
      rw [← hXe] at hX hS ⊢
      unfold nodeO
      obtain ⟨hd, hhd⟩ : ∃ hd, hd = headO L k s1 := ⟨_, rfl⟩
      rw [← hhd] at hnb hd6 hS ⊢
      have hXb : ¬ X ≤ b ∧ X ≠ b := by omega
      simp only
      simp (implicitDefEqProofs := false) only [go_sem]
      refine vc_mid (fun σ H' => ∃ a1 a3 a5 a6 a7 a8 a9 a10 a11 a12 a13 a14 a15 a16 a17 a18 a19 a20 a21, σ = [some (.pointer (some ⟨b, 0, none⟩)), a1, some (.pointer (some ⟨H.size, 0, none⟩)), a3, some (.pointer (some ⟨X, 0, none⟩)), a5, a6, a7, a8, a9, a10, a11, a12, a13, a14, a15, a16, a17, a18, a19, a20, a21] ∧ ∃ i nd pd vn gn vp gp s', PtS H b L g (rT L lv) X k hd H' i nd pd vn gn vp gp s' ∧ (nd, pd, s') = partsO (rT L lv) (k == 6) L hd.n hd.s) ?_ ?_
      · intro K hK
        simp (implicitDefEqProofs := false) only [go_sem, c42s53eq]
        refine vc_loop (fun (x : Nat × List Bs × List Lt × Value × Option Nat × Value × Option Nat × Pl) H' => PtS H b L g (rT L lv) X k hd H' x.1 x.2.1 x.2.2.1 x.2.2.2.1 x.2.2.2.2.1 x.2.2.2.2.2.1 x.2.2.2.2.2.2.1 x.2.2.2.2.2.2.2)
          (fun x => [(0, .pointer (some ⟨b, 0, none⟩)), (1, .int .i64 (lv + 1 : Nat)), (4, .pointer (some ⟨H.size, 0, none⟩)), (6, .pointer (some ⟨X, 0, none⟩)), (7, .int .i64 hd.n), (8, .int .i64 x.1)]) (fun x => hd.n - x.1) (0, [], [], vn, gn, .slice none 0 0, none, hd.s) ?_ ?_ ?_
        · exact ⟨Nat.zero_le _, rfl, Nat.le_refl _, hS.blk, hS.cell, by simpa using hS.names.ext (Fr.refl _ _) (B' := fun x => x ≤ X ∨ (none : Option Nat) = some x) (fun y hy => .inl (by simpa using hy)), LsO.nil, hS.above, by simp, hS.rd, hS.fr, by simp⟩
        · simp (implicitDefEqProofs := false) only [go_sem]
        · rintro ⟨i, nd, pd, vn, gn, vp, gp, s'⟩ H' hP
          simp only at hP ⊢
          have hbX := hP.blk.lt
          have hHs := hP.fr.size
          have hx := hP.blk.cell
          rcases Nat.lt_or_ge i hd.n with hlt | hge
          · have hlt' : (i : Int) < (hd.n : Int) := by omega
            have hw := succ_i64 i hd.n hlt (by unfold maxLen; omega)
            have hwl : IntKind.i64.wrap (((lv + 1 : Nat) : Int) - 1) = (lv : Int) := by rw [wrap_i64_id _ (by omega) (by omega)]; omega
            simp (implicitDefEqProofs := false) only [go_sem, hlt']
            refine (rerr_o hP.rd).mono ?_
            rintro r H6 ⟨rfl, hEq⟩
            obtain rfl := hEq.symm
            cases s' with
            | none =>
              have hq := hP.eq
              rw [partsO_none] at hq
              simp only [List.append_nil] at hq
              simp (implicitDefEqProofs := false) only [go_sem]
              exact hK _ _ ⟨_, _, _, _, _, _, _, _, _, _, _, _, _, _, _, _, _, _, _, rfl, i, nd, pd, vn, gn, vp, gp, none, hP, hq⟩
            | some p =>
              have e1 : hd.n - i = (hd.n - (i + 1)) + 1 := by omega
              have hEq := hP.eq
              rw [e1] at hEq
              by_cases k6 : k = 6
              · have k6' : (k : Int) = 6 := by omega
                have kb : (k == 6) = true := by simp [k6]
                have hn0 := hd6 k6
                rw [kb, partsO_six] at hEq
                have hnl : (hd.names ++ nd).length ≤ i := by rw [hn0]; exact hP.nnd
                simp (implicitDefEqProofs := false) only [go_sem, hx, k6']
                refine (rtext_o hP.rd).mono ?_
                rintro r H7 ⟨rfl, hr7, hf7⟩
                have hb7 := hP.blk.fr hf7 (by simp; omega)
                have hc7 := hP.cell.fr hf7 (by simp; omega)
                have hN7 := hP.names.fr (B' := fun x => x ≤ X ∨ gp = some x) hf7 (by simp; omega) (fun y hy => by have := hP.an y hy; simp; omega) (fun y hy => .inl hy)
                have hP7 := hP.parts.fr (B' := fun x => x ≤ X ∨ gn = some x) hf7 (by simp; omega) (fun y hy => by have := hP.ap y hy; simp; omega) (fun y hy => .inl hy)
                simp (implicitDefEqProofs := false) only [go_sem, hb7.cell]
                refine NewS_intro fun H8 hn8 hf8 hs8 => ?_
                have hb8 := hb7.ext hf8
                have hc8 := hc7.ext hf8
                have hN8 := hN7.ext (B' := fun x => x ≤ X ∨ gp = some x) hf8 (fun y hy => .inl hy)
                have hP8 := hP7.ext (B' := fun x => x ≤ X ∨ gn = some x) hf8 (fun y hy => .inl hy)
                simp (implicitDefEqProofs := false) only [go_sem, hb8.cell]
                refine App_ls ES hN8 Try.underlying22 hn8 rfl (by simp [Value.oneCell']) (RepP.v _) rfl (by rw [List.length_map]; unfold maxLen; omega) (by rw [List.length_map]; omega) fun a c H9 gn9 hN9 hf9 hg9 => ?_
                have hgN : ∀ x ∈ gn.toList, X < x := fun x hx => hP.an x (by simpa using hx)
                have hb9 := hb8.fr hf9 (fun hm => by have := hgN X hm; omega)
                have hc9 := hc8.fr hf9 (fun hm => by have := hgN H.size hm; omega)
                have hP9 := hP8.fr (B' := fun x => x ≤ X ∨ gn9 = some x) hf9 (fun y hy => .inl (.inr (by simpa using hy))) (fun y hy hm => lsO_disj hP8 hN8 (by decide) y hy (by simpa using hm)) (fun y hy => by
                  rcases hy with hy | hy
                  · exact .inl (.inl hy)
                  · exact (hg9 y hy).imp .inr id)
                simp (implicitDefEqProofs := false) only [go_sem]
                refine Sto_one hb9 (by simp) rfl fun H10 hb10 hf10 hs10 => ?_
                have han : ∀ y, gn9 = some y → X < y := fun y hy => by
                  have := hf7.size; have := hf8.size
                  rcases hg9 y hy with q | q
                  · exact hP.an y q
                  · omega
                have hc10 := hc9.fr hf10 (by simp; omega)
                have hN10 := hN9.fr (B' := fun x => x ≤ X ∨ gp = some x) hf10 (by simp) (fun y hy => by have := han y hy; simp; omega) (fun y hy => .inl hy)
                have hP10 := hP9.fr (B' := fun x => x ≤ X ∨ gn9 = some x) hf10 (by simp) (fun y hy => by have := hP.ap y hy; simp; omega) (fun y hy => .inl hy)
                have hr10 := ((hr7.ext hf8).fr hf9 (fun hm => by have := hgN b hm; omega) (fun y hy hm => by have := hgN y hm; have := hgl y hy; omega)).fr hf10 (by simp; omega) (fun y hy => by have := hgl y hy; simp; omega)
                have hF10 := (((hP.fr.trans hf7).trans (hf8.mono (by simp))).trans' hf9 (fun x hx => .inr (by have := hgN x hx; omega))).trans' hf10 (by simp; omega)
                have hN10' : LsO H10 (fun x => x ≤ X ∨ gp = some x) 9 1 (.slice a ((List.map strD (hd.names ++ nd)).length + 1) c) ((hd.names ++ (nd ++ [(bytesO L (some p)).1])).map strD) gn9 := by
                  have e : (hd.names ++ (nd ++ [(bytesO L (some p)).1])).map strD = (hd.names ++ nd).map strD ++ [strD (bytesO L (some p)).1] := by simp
                  rw [e]; exact hN10
                have hb10' : Blk H10 X 26 [.int .i64 k, .int .i64 hd.lo, .int .i64 hd.hi, .slice a ((List.map strD (hd.names ++ nd)).length + 1) c, vp, .slice none 0 0] := by simpa using hb10
                simp (implicitDefEqProofs := false) only [go_sem, hb10'.cell, hwl]
                refine (ih (by omega) hr10).mono ?_
                rintro r HB ⟨cs, rfl, hd1, hrB, hfB⟩
                obtain ⟨wn, wp, wr, rfl, _, _, _⟩ := LtA.open hd1.rep
                have hsA := hF10.size
                have hXA := hb10'.lt
                have hbB := hb10'.fr hfB (by simp; omega)
                have hcB := hc10.fr hfB (by simp; omega)
                have hNB := hN10'.fr (B' := fun x => x ≤ X ∨ gp = some x) hfB (by simp; omega) (fun y hy => by have := han y hy; simp; omega) (fun y hy => .inl hy)
                have hPB := hP10.fr (B' := fun x => x ≤ X ∨ gn9 = some x) hfB (by simp; omega) (fun y hy => by have := hP.ap y hy; simp; omega) (fun y hy => .inl hy)
                simp (implicitDefEqProofs := false) only [go_sem, hbB.cell]
                refine NewS_intro fun HC hnC hfC hsC => ?_
                have hbC := hbB.ext hfC
                have hcC := hcB.ext hfC
                have hNC := hNB.ext (B' := fun x => x ≤ X ∨ gp = some x) hfC (fun y hy => .inl hy)
                have hPC := hPB.ext (B' := fun x => x ≤ X ∨ gn9 = some x) hfC (fun y hy => .inl hy)
                have hdC : RepP HC (fun y => (y ≤ X ∨ gn9 = some y) ∨ gp = some y) (rT L lv (bytesO L (some p)).2).1.dat [.int .i64 (rT L lv (bytesO L (some p)).2).1.kind, .int .i64 (rT L lv (bytesO L (some p)).2).1.lo, .int .i64 (rT L lv (bytesO L (some p)).2).1.hi, wn, wp, wr] := hd1.ext hfC (by
                  rintro y ((hy | hy) | hy)
                  · exact .inl (by omega)
                  · exact .inl (hN10'.lt hy)
                  · exact .inl (hP10.lt hy))
                have hpl : (pd.map Lt.dat).length = i := by simpa using hP.npd
                simp (implicitDefEqProofs := false) only [go_sem, hbC.cell]
                refine App_ls EL hPC Try.underlying23 hnC rfl (LtA.one6 hd1.rep) hdC rfl (by unfold maxLen; omega) (by omega) fun a1 c1 HD gpD hPD hfD hgD => ?_
                have hbD := hbC.fr hfD (fun hm => by have := hP.ap X (by simpa using hm); omega)
                have hcD := hcC.fr hfD (fun hm => by have := hP.ap H.size (by simpa using hm); omega)
                have hND := hNC.fr (B' := fun x => x ≤ X ∨ gpD = some x) hfD (fun y hy => .inl (.inr (by simpa using hy))) (fun y hy hm => lsO_disj hNC hPC (by decide) y hy (by simpa using hm)) (fun y hy => by
                  rcases hy with hy | hy
                  · exact .inl (.inl hy)
                  · exact (hgD y hy).imp .inr id)
                simp (implicitDefEqProofs := false) only [go_sem]
                refine Sto_one hbD (by simp) rfl fun HE hbE hfE hsE => ?_
                have hcE := hcD.fr hfE (by simp; omega)
                have hNE := hND.fr (B' := fun x => x ≤ X ∨ gpD = some x) hfE (by simp) (fun y hy => by have := han y hy; simp; omega) (fun y hy => .inl hy)
                have hapD : ∀ y, gpD = some y → X < y := fun y hy => by
                  have := hfB.size; have := hfC.size
                  rcases hgD y hy with q | q
                  · exact hP.ap y q
                  · omega
                have hPE := hPD.fr (B' := fun x => x ≤ X ∨ gn9 = some x) hfE (by simp) (fun y hy => by have := hapD y hy; simp; omega) (fun y hy => .inl hy)
                have hgX : ∀ x ∈ gp.toList, X < x := fun x hx => hP.ap x (by simpa using hx)
                have hrE := ((hrB.ext hfC).fr hfD (fun hm => by have := hgX b hm; omega) (fun y hy hm => by have := hgX y hm; have := hgl y hy; omega)).fr hfE (by simp; omega) (fun y hy => by have := hgl y hy; simp; omega)
                have hFE := ((((hF10).trans hfB).trans (hfC.mono (by simp))).trans' hfD (fun x hx => .inr (by have := hgX x hx; omega))).trans' hfE (by simp; omega)
                simp (implicitDefEqProofs := false) only [go_sem]
                refine loopK_intro (i + 1, nd ++ [(bytesO L (some p)).1], pd ++ [(rT L lv (bytesO L (some p)).2).1], .slice a ((List.map strD (hd.names ++ nd)).length + 1) c, gn9, .slice a1 ((pd.map Lt.dat).length + 1) c1, gpD, (rT L lv (bytesO L (some p)).2).2) (by show hd.n - (i + 1) < hd.n - i; omega) ?_ ⟨hlt, by simp [hP.npd], by have := hP.nnd; simp; omega, by simpa using hbE, hcE, hNE, by simpa using hPE, han, hapD, hrE, hFE, ?_⟩
                · simp (implicitDefEqProofs := false) only [go_sem, hw]
                · simp only [kb]; rw [← hEq]; simp
              · have k6' : ¬ (k : Int) = 6 := by omega
                have kb : (k == 6) = false := by simp [k6]
                rw [kb, partsO_else] at hEq
                simp (implicitDefEqProofs := false) only [go_sem, hP.blk.cell, hwl, k6']
                refine (ih (by omega) hP.rd).mono ?_
                rintro r HB ⟨cs, rfl, hd1, hrB, hfB⟩
                obtain ⟨wn, wp, wr, rfl, _, _, _⟩ := LtA.open hd1.rep
                have hsA := hP.fr.size
                have hXA := hP.blk.lt
                have hbB := hP.blk.fr hfB (by simp; omega)
                have hcB := hP.cell.fr hfB (by simp; omega)
                have hNB := hP.names.fr (B' := fun x => x ≤ X ∨ gp = some x) hfB (by simp; omega) (fun y hy => by have := hP.an y hy; simp; omega) (fun y hy => .inl hy)
                have hPB := hP.parts.fr (B' := fun x => x ≤ X ∨ gn = some x) hfB (by simp; omega) (fun y hy => by have := hP.ap y hy; simp; omega) (fun y hy => .inl hy)
                simp (implicitDefEqProofs := false) only [go_sem, hbB.cell]
                refine NewS_intro fun HC hnC hfC hsC => ?_
                have hbC := hbB.ext hfC
                have hcC := hcB.ext hfC
                have hNC := hNB.ext (B' := fun x => x ≤ X ∨ gp = some x) hfC (fun y hy => .inl hy)
                have hPC := hPB.ext (B' := fun x => x ≤ X ∨ gn = some x) hfC (fun y hy => .inl hy)
                have hdC : RepP HC (fun y => (y ≤ X ∨ gn = some y) ∨ gp = some y) (rT L lv (some p)).1.dat [.int .i64 (rT L lv (some p)).1.kind, .int .i64 (rT L lv (some p)).1.lo, .int .i64 (rT L lv (some p)).1.hi, wn, wp, wr] := hd1.ext hfC (by
                  rintro y ((hy | hy) | hy)
                  · exact .inl (by omega)
                  · exact .inl (hP.names.lt hy)
                  · exact .inl (hP.parts.lt hy))
                have hpl : (pd.map Lt.dat).length = i := by simpa using hP.npd
                simp (implicitDefEqProofs := false) only [go_sem, hbC.cell]
                refine App_ls EL hPC Try.underlying23 hnC rfl (LtA.one6 hd1.rep) hdC rfl (by unfold maxLen; omega) (by omega) fun a1 c1 HD gpD hPD hfD hgD => ?_
                have hbD := hbC.fr hfD (fun hm => by have := hP.ap X (by simpa using hm); omega)
                have hcD := hcC.fr hfD (fun hm => by have := hP.ap H.size (by simpa using hm); omega)
                have hND := hNC.fr (B' := fun x => x ≤ X ∨ gpD = some x) hfD (fun y hy => .inl (.inr (by simpa using hy))) (fun y hy hm => lsO_disj hNC hPC (by decide) y hy (by simpa using hm)) (fun y hy => by
                  rcases hy with hy | hy
                  · exact .inl (.inl hy)
                  · exact (hgD y hy).imp .inr id)
                simp (implicitDefEqProofs := false) only [go_sem]
                refine Sto_one hbD (by simp) rfl fun HE hbE hfE hsE => ?_
                have hcE := hcD.fr hfE (by simp; omega)
                have hNE := hND.fr (B' := fun x => x ≤ X ∨ gpD = some x) hfE (by simp) (fun y hy => by have := hP.an y hy; simp; omega) (fun y hy => .inl hy)
                have hapD : ∀ y, gpD = some y → X < y := fun y hy => by
                  have := hfB.size; have := hfC.size
                  rcases hgD y hy with q | q
                  · exact hP.ap y q
                  · omega
                have hPE := hPD.fr (B' := fun x => x ≤ X ∨ gn = some x) hfE (by simp) (fun y hy => by have := hapD y hy; simp; omega) (fun y hy => .inl hy)
                have hgX : ∀ x ∈ gp.toList, X < x := fun x hx => hP.ap x (by simpa using hx)
                have hrE := ((hrB.ext hfC).fr hfD (fun hm => by have := hgX b hm; omega) (fun y hy hm => by have := hgX y hm; have := hgl y hy; omega)).fr hfE (by simp; omega) (fun y hy => by have := hgl y hy; simp; omega)
                have hFE := ((((hP.fr).trans hfB).trans (hfC.mono (by simp))).trans' hfD (fun x hx => .inr (by have := hgX x hx; omega))).trans' hfE (by simp; omega)
                simp (implicitDefEqProofs := false) only [go_sem]
                refine loopK_intro (i + 1, nd, pd ++ [(rT L lv (some p)).1], vn, gn, .slice a1 ((pd.map Lt.dat).length + 1) c1, gpD, (rT L lv (some p)).2) (by show hd.n - (i + 1) < hd.n - i; omega) ?_ ⟨hlt, by simp [hP.npd], by have := hP.nnd; show nd.length ≤ i + 1; omega, by simpa using hbE, hcE, hNE, by simpa using hPE, hP.an, hapD, hrE, hFE, ?_⟩
                · simp (implicitDefEqProofs := false) only [go_sem, hw]
                · simp only [kb]; rw [← hEq]; simp
          · have hge' : ¬ (i : Int) < (hd.n : Int) := by omega
            have hq := hP.eq
            rw [show hd.n - i = 0 by omega, partsO_zero] at hq
            simp only [List.append_nil] at hq
            simp (implicitDefEqProofs := false) only [go_sem, hge']
            exact hK _ _ ⟨_, _, _, _, _, _, _, _, _, _, _, _, _, _, _, _, _, _, _, rfl, i, nd, pd, vn, gn, vp, gp, s', hP, hq⟩
      · rintro σ H6 ⟨a1, a3, a5, a6, a7, a8, a9, a10, a11, a12, a13, a14, a15, a16, a17, a18, a19, a20, a21, rfl, i, nd, pd, vn, gn, vp, gp, s', hP, hE⟩
        rw [← hE]
        have hx := hP.blk.cell
        have hXs := hP.blk.lt
        have hN : LsO H6 (fun x => x ≤ X) 9 1 vn ((hd.names ++ nd).map strD) gn := hP.names.ext (Fr.refl _ _) (fun y hy => .inl (.inl hy))
        have hP' : LsO H6 (fun x => x ≤ X) 26 6 vp (pd.map Lt.dat) gp := hP.parts.ext (Fr.refl _ _) (fun y hy => .inl (.inl hy))
        have rN := hN.rep (fun y hy => by have := hP.an y hy; omega)
        have rP := hP'.rep (fun y hy => by have := hP.ap y hy; omega)
        have oN := hN.one
        have oP := hP'.one
        by_cases k10 : k = 10
        case neg =>
          have k10' : ¬ (k : Int) = 10 := by omega
          rw [if_neg k10]
          simp (implicitDefEqProofs := false) only [go_sem, hx, k10']
          refine Sto_all hP.cell rfl (one6 oN oP rfl) fun H7 hn7 hf7 hs7 => ?_
          have hc7 := hn7.cell
          simp (implicitDefEqProofs := false) only [go_sem, hc7]
          exact ⟨_, rfl, lt_repP (rN.fr hf7 (by simp; omega) (fun y hy => .inl (by omega))) (rP.fr hf7 (by simp; omega) (fun y hy => .inl (by omega))) (RepP.nil 2), hP.rd.fr hf7 (by simp; omega) (fun y hy => by have := hgl y hy; simp; omega), hP.fr.trans' hf7 (by simp)⟩
        have k10' : (k : Int) = 10 := by omega
        rw [if_pos k10]
        simp (implicitDefEqProofs := false) only [go_sem, hx, k10']
        refine (rcount_o hP.rd).mono ?_
        rintro r H7 ⟨rfl, hr7, hf7⟩
        have hn := countO_le L s'
        obtain ⟨n, hnn⟩ : ∃ n, n = (countO L s').1 := ⟨_, rfl⟩
        obtain ⟨s2, hs2⟩ : ∃ s2, s2 = (countO L s').2 := ⟨_, rfl⟩
        rw [← hnn] at hn ⊢
        rw [← hs2] at hr7 ⊢
        have hb7 := hP.blk.fr hf7 (by simp; omega)
        have hc7 := hP.cell.fr hf7 (by simp; omega)
        have hsz7 := hf7.size
        have hrN7 := rN.fr (B' := fun y => y ≤ X ∨ H7.size ≤ y) hf7 (by simp; omega) (fun y hy => hy.imp id (by omega))
        have hrP7 := rP.fr (B' := fun y => y ≤ X ∨ H7.size ≤ y) hf7 (by simp; omega) (fun y hy => hy.imp id (by omega))
        have hF7 := hP.fr.trans hf7
        simp (implicitDefEqProofs := false) only [go_sem]
        refine vc_mid (fun σ H' => ∃ a1 a3 a5 a6 a7 a8 a9 a10 a11 a12 a13 a14 a15 a16 a17 a18 a19 a20 a21, σ = [some (.pointer (some ⟨b, 0, none⟩)), a1, some (.pointer (some ⟨H.size, 0, none⟩)), a3, some (.pointer (some ⟨X, 0, none⟩)), a5, a6, a7, a8, a9, a10, a11, a12, a13, a14, a15, a16, a17, a18, a19, a20, a21] ∧ ∃ i rd vr gr s', RuS H b L g X k hd H7 n vn vp H' i rd vr gr s' (hd.names ++ nd) pd ∧ (rd, s') = rulesO L n s2) ?_ ?_
        · intro K hK
          simp (implicitDefEqProofs := false) only [go_sem, c42s73eq]
          refine vc_loop (fun (x : Nat × List Rl × Value × Option Nat × Pl) H' => RuS H b L g X k hd H7 n vn vp H' x.1 x.2.1 x.2.2.1 x.2.2.2.1 x.2.2.2.2 (hd.names ++ nd) pd ∧ (x.2.1 ++ (rulesO L (n - x.1) x.2.2.2.2).1, (rulesO L (n - x.1) x.2.2.2.2).2) = rulesO L n s2)
            (fun x => [(0, .pointer (some ⟨b, 0, none⟩)), (4, .pointer (some ⟨H.size, 0, none⟩)), (6, .pointer (some ⟨X, 0, none⟩)), (87, .int .i64 n), (88, .int .i64 x.1)]) (fun x => n - x.1) (0, [], .slice none 0 0, none, s2) ?_ ?_ ?_
          · exact ⟨⟨Nat.zero_le _, rfl, hb7, hc7, hrN7, hrP7, LsO.nil, by simp, hr7, hF7, Nat.le_refl _⟩, by simp⟩
          · simp (implicitDefEqProofs := false) only [go_sem]
          · rintro ⟨i, rd, vr, gr, s'⟩ H' ⟨hR, hE'⟩
            simp only at hR hE' ⊢
            have hbX := hR.blk.lt
            have hHs := hR.fr.size
            have hx := hR.blk.cell
            have hS7 := hR.up
            rcases Nat.lt_or_ge i n with hlt | hge
            · have hlt' : (i : Int) < (n : Int) := by omega
              have hw := succ_i64 i n hlt (by unfold maxLen; omega)
              have e1 : n - i = (n - (i + 1)) + 1 := by omega
              rw [e1] at hE'
              simp (implicitDefEqProofs := false) only [go_sem, hlt']
              refine (readList_ok hR.rd).mono ?_
              rintro r H8 ⟨gi, hl8, hg8, hr8, hf8⟩
              obtain ⟨ia, ic, rfl, _, _⟩ := hl8.slice
              have hs8 := hf8.size
              have rI := hl8.rep (fun y hy => by have := hg8 y hy; omega)
              have hb8 := hR.blk.fr hf8 (by simp; omega)
              have hc8 := hR.cell.fr hf8 (by simp; omega)
              have hN8 := hR.names.fr (B' := fun y => y ≤ X ∨ H7.size ≤ y) hf8 (by simp; omega) (fun y hy => .inl hy)
              have hP8 := hR.parts.fr (B' := fun y => y ≤ X ∨ H7.size ≤ y) hf8 (by simp; omega) (fun y hy => .inl hy)
              have hL8 := hR.rules.fr (B' := fun y => y ≤ X) hf8 (by simp; omega) (fun y hy => by have := hR.ar y hy; simp; omega) (fun y hy => .inl hy)
              simp (implicitDefEqProofs := false) only [go_sem]
              refine NewP_intro fun H9 hn9 hf9 hs9 => ?_
              simp (implicitDefEqProofs := false) only [go_sem]
              refine Sto_all hn9 rfl (one2 rfl rfl) fun H10 hn10 hf10 hs10 => ?_
              have hf910 := new_fr hf9 hf10
              have hr10 := hr8.ext hf910
              obtain ⟨tx, s3, hbx⟩ : ∃ tx s3, bytesO L (listO L s').2 = (tx, s3) := ⟨_, _, rfl⟩
              simp (implicitDefEqProofs := false) only [go_sem]
              refine (rtext_o hr10).mono ?_
              rw [hbx]
              rintro r H11 ⟨rfl, hr11, hf11⟩
              simp only at hr11
              have hs910 := hf910.size
              have hn10l := hn10.lt
              have hn11 := hn10.fr hf11 (by simp; omega)
              simp (implicitDefEqProofs := false) only [go_sem]
              refine Sto_one hn11 (by simp) rfl fun H12 hn12 hf12 hs12 => ?_
              have hs11 := hf11.size
              have hr12 := hr11.fr hf12 (by simp; omega) (fun y hy => by have := hgl y hy; simp; omega)
              have hb12 := ((hb8.ext hf910).fr hf11 (by simp; omega)).fr hf12 (by simp; omega)
              have hc12 := ((hc8.ext hf910).fr hf11 (by simp; omega)).fr hf12 (by simp; omega)
              have hN12 := ((hN8.ext (B' := fun y => y ≤ X ∨ H7.size ≤ y) hf910 (fun y hy => .inl hy)).fr (B' := fun y => y ≤ X ∨ H7.size ≤ y) hf11 (by simp; omega) (fun y hy => .inl hy)).fr (B' := fun y => y ≤ X ∨ H7.size ≤ y) hf12 (by simp; omega) (fun y hy => .inl hy)
              have hP12 := ((hP8.ext (B' := fun y => y ≤ X ∨ H7.size ≤ y) hf910 (fun y hy => .inl hy)).fr (B' := fun y => y ≤ X ∨ H7.size ≤ y) hf11 (by simp; omega) (fun y hy => .inl hy)).fr (B' := fun y => y ≤ X ∨ H7.size ≤ y) hf12 (by simp; omega) (fun y hy => .inl hy)
              have hL12 := ((hL8.ext (B' := fun y => y ≤ X ∨ y = H8.size) hf910 (fun y hy => hy.imp id (by omega))).fr (B' := fun y => y ≤ X ∨ y = H8.size) hf11 (by simp; omega) (fun y hy => by have := hR.ar y hy; simp; omega) (fun y hy => .inl hy)).fr (B' := fun y => y ≤ X) hf12 (by simp) (fun y hy hm => by have := hL8.lt hy; simp at hm; omega) (fun y hy => .inl (.inl hy))
              have hI12 := ((rI.ext (B' := fun y => y < H'.size ∨ y = H8.size) hf910 (fun y hy => hy.imp id (by omega))).fr (B' := fun y => y < H'.size ∨ y = H8.size) hf11 (by simp; omega) (fun y hy => .inl hy)).fr (B' := fun y => y < H'.size) hf12 (by simp) (fun y hy => .inl (.inl hy))
              have hF12 := (((hR.fr.trans hf8).trans (hf910.mono (by simp))).trans hf11).trans' hf12 (by simp; omega)
              have hsz12 := hf12.size
              simp (implicitDefEqProofs := false) only [go_sem, hb12.cell, hn12.cell]
              refine NewS_intro fun H13 hn13 hf13 hs13 => ?_
              have hb13 := hb12.ext hf13
              have hL13 := hL12.ext (B' := fun y => y ≤ X) hf13 (fun y hy => .inl hy)
              have hI13 : RepP H13 (fun y => y ≤ X ∨ gr = some y) (strsD (listO L s').1) [.slice ia ((listO L s').1.map strD).length ic] := hI12.ext hf13 (by
                rintro y (hy | hy)
                · exact .inl (by omega)
                · exact .inl (hR.rules.lt hy))
              have hd13 : RepP H13 (fun y => y ≤ X ∨ gr = some y) (ruleD ⟨(listO L s').1, tx⟩) [.slice ia ((listO L s').1.map strD).length ic, .string ⟨⟨tx⟩⟩] := RepP.agg (RepsP.cons hI13 (RepsP.cons (RepP.v _) RepsP.nil)) rfl
              have hpl : (rd.map ruleD).length = i := by simpa using hR.len
              simp (implicitDefEqProofs := false) only [go_sem]
              refine App_ls ER hL13 Try.underlying24 hn13 rfl (one2 rfl rfl) hd13 rfl (by unfold maxLen; omega) (by omega) fun a1 c1 H14 gr14 hL14 hf14 hg14 => ?_
              have hgR : ∀ x ∈ gr.toList, H7.size ≤ x ∧ X < x := fun x hx => hR.ar x (by simpa using hx)
              have hb14 := hb13.fr hf14 (fun hm => by have := hgR X hm; omega)
              simp (implicitDefEqProofs := false) only [go_sem]
              refine Sto_one hb14 (by simp) rfl fun H15 hb15 hf15 hs15 => ?_
              have har : ∀ y, gr14 = some y → H7.size ≤ y ∧ X < y := fun y hy => by
                have := hf13.size
                rcases hg14 y hy with q | q
                · exact hR.ar y q
                · omega
              have hs14 := hf14.size
              have hs13' := hf13.size
              have hr15 := ((hr12.ext hf13).fr hf14 (fun hm => by have := hgR b hm; omega) (fun y hy hm => by have := hgR y hm; have := hgl y hy; omega)).fr hf15 (by simp; omega) (fun y hy => by have := hgl y hy; simp; omega)
              have hS : RuS H b L g X k hd H7 n vn vp H15 (i + 1) (rd ++ [⟨(listO L s').1, tx⟩]) (.slice a1 ((rd.map ruleD).length + 1) c1) gr14 s3 (hd.names ++ nd) pd := by
                refine ⟨hlt, by simp [hR.len], by simpa using hb15, ?_, ?_, ?_, ?_, har, hr15, ?_, by omega⟩
                · exact (((hc12.ext hf13).fr hf14 (fun hm => by have := hgR H.size hm; omega)).fr hf15 (by simp; omega))
                · exact ((hN12.ext (B' := fun y => y ≤ X ∨ H7.size ≤ y) hf13 (fun y hy => .inl hy)).fr (B' := fun y => y ≤ X ∨ H7.size ≤ y) hf14 (fun x hx => .inl (.inr (hgR x hx).1)) (fun y hy => .inl hy)).fr hf15 (by simp) (fun y hy => .inl hy)
                · exact ((hP12.ext (B' := fun y => y ≤ X ∨ H7.size ≤ y) hf13 (fun y hy => .inl hy)).fr (B' := fun y => y ≤ X ∨ H7.size ≤ y) hf14 (fun x hx => .inl (.inr (hgR x hx).1)) (fun y hy => .inl hy)).fr hf15 (by simp) (fun y hy => .inl hy)
                · have := hL14.fr (B' := fun y => y ≤ X) hf15 (by simp) (fun y hy => by have := har y hy; simp; omega) (fun y hy => .inl hy)
                  simpa using this
                · exact ((hF12.trans (hf13.mono (by simp))).trans' hf14 (fun x hx => .inr (by have := hgR x hx; omega))).trans' hf15 (by simp; omega)
              simp (implicitDefEqProofs := false) only [go_sem]
              refine (rerr_o hr15).mono ?_
              rintro r H16 ⟨rfl, hEq⟩
              obtain rfl := hEq.symm
              simp only [rulesO, hbx] at hE'
              cases s3 with
              | none =>
                simp only at hE'
                simp (implicitDefEqProofs := false) only [go_sem]
                exact hK _ _ ⟨_, _, _, _, _, _, _, _, _, _, _, _, _, _, _, _, _, _, _, rfl, _, _, _, _, _, hS, by simpa using hE'⟩
              | some p =>
                simp only at hE'
                simp (implicitDefEqProofs := false) only [go_sem]
                refine loopK_intro (i + 1, rd ++ [⟨(listO L s').1, tx⟩], .slice a1 ((rd.map ruleD).length + 1) c1, gr14, some p) (by show n - (i + 1) < n - i; omega) ?_ ⟨hS, by simpa using hE'⟩
                simp (implicitDefEqProofs := false) only [go_sem, hw]
            · have hge' : ¬ (i : Int) < (n : Int) := by omega
              rw [show n - i = 0 by omega] at hE'
              simp only [rulesO, List.append_nil] at hE'
              simp (implicitDefEqProofs := false) only [go_sem, hge']
              exact hK _ _ ⟨_, _, _, _, _, _, _, _, _, _, _, _, _, _, _, _, _, _, _, rfl, i, rd, vr, gr, s', hR, hE'⟩
        · rintro σ H8 ⟨a1, a3, a5, a6, a7, a8, a9, a10, a11, a12, a13, a14, a15, a16, a17, a18, a19, a20, a21, rfl, i, rd, vr, gr, s', hR, hE'⟩
          rw [← hE']
          have hx := hR.blk.cell
          have oR := hR.rules.one
          have hXs := hR.blk.lt
          have rR := hR.rules.rep (fun y hy => by have := hR.ar y hy; have := hR.up; omega)
          have hS7 := hR.up
          simp (implicitDefEqProofs := false) only [go_sem, hx]
          refine Sto_all hR.cell rfl (one6 oN oP oR) fun H9 hn9 hf9 hs9 => ?_
          have hc9 := hn9.cell
          simp (implicitDefEqProofs := false) only [go_sem, hc9]
          exact ⟨_, rfl, by rw [← k10']; exact lt_repP (hR.names.fr (B' := fun y => y < H.size) hf9 (by simp; omega) (fun y hy => .inl (.inl (by omega)))) (hR.parts.fr (B' := fun y => y < H.size) hf9 (by simp; omega) (fun y hy => .inl (.inl (by omega)))) (rR.fr (B' := fun y => y < H.size) hf9 (by simp; omega) (fun y hy => .inl (by omega))), hR.rd.fr hf9 (by simp; omega) (fun y hy => by have := hgl y hy; simp; omega), hR.fr.trans' hf9 (by simp)⟩
end Go.Proofs.Ytcilkhjadljaaaa
end
section
/- The reader of the reference of package wire: contracts. -/
set_option linter.unusedSimpArgs false
set_option linter.unusedVariables false
set_option maxRecDepth 8000
namespace Go.Proofs.Ytcilkhjadljaaaa
open Gx Go

theorem raw_step (x : UInt8) (i n : Nat) (hi : i ≤ 9) (hn : n < 2^(7*i)) (h9 : i = 9 → x.toNat ≤ 1) :
    IntKind.u64.wrap ((n : Int) + shlI .u64 (IntKind.u64.wrap ((x.toNat : Int).tmod 128)) (IntKind.u64.wrap (7 * IntKind.u64.wrap (i : Int)))) = ((n + (x.toNat % 128) * 2^(7*i) : Nat) : Int) := by
  have hb : x.toNat % 128 < 128 := Nat.mod_lt _ (by decide)
  have hlt : (x.toNat % 128) * 2^(7*i) < 2^64 ∧ n + (x.toNat % 128) * 2^(7*i) < 2^64 := by
    have hpow : n + (x.toNat % 128) * 2^(7*i) < 2^(7*(i+1)) := by
      have e : 2^(7*(i+1)) = 128 * 2^(7*i) := by rw [Nat.mul_add, Nat.pow_add, Nat.mul_comm]
      rw [e]
      have : (x.toNat % 128) * 2^(7*i) ≤ 127 * 2^(7*i) := Nat.mul_le_mul_right _ (by omega)
      omega
    rcases Nat.lt_or_ge i 9 with h' | h'
    · have : 2^(7*(i+1)) ≤ 2^64 := Nat.pow_le_pow_right (by decide) (by omega)
      omega
    · have : i = 9 := by omega
      subst this
      have := h9 rfl
      have : (x.toNat % 128) * 2^(7*9) ≤ 1 * 2^(7*9) := Nat.mul_le_mul_right _ (by omega)
      have e2 : (2:Nat)^(7*9) + 2^(7*9) = 2^64 := by decide
      omega
  rw [Int.tmod_eq_emod_of_nonneg (by omega), wrap_u64_id (i : Int) (by omega) (by omega), wrap_u64_id (7 * (i : Int)) (by omega) (by omega), wrap_u64_id ((x.toNat : Int) % 128) (by omega) (by omega)]
  have e2 : shlI .u64 ((x.toNat : Int) % 128) (7 * (i : Int)) = (((x.toNat % 128) * 2^(7*i) : Nat) : Int) := by
    rw [show (7 * (i : Int)) = ((7 * i : Nat) : Int) by omega, shlI_eq _ _ (by show 7 * i ≤ 64; omega)]
    rw [show (x.toNat : Int) % 128 = ((x.toNat % 128 : Nat) : Int) by omega]
    rw [show ((x.toNat % 128 : Nat) : Int) * 2 ^ (7 * i) = (((x.toNat % 128) * 2^(7*i) : Nat) : Int) by simp]
    exact wrap_u64_id _ (by omega) (by omega)
  rw [e2, wrap_u64_id _ (by omega) (by omega)]
  omega

theorem raw_ok {H : Heap} {a : Option Addr} {c at_ : Nat} {l : List UInt8} (hb : BsR H a l) (hl : l.length < 2^40) (hat : at_ ≤ l.length) :
    HCalls Try.prog 87 #[.slice a l.length c, .int .i64 at_] H fun v H' => H' = H ∧ v = match num (l.drop at_) with
      | some (n, k) => .tuple #[.int .u64 n, .int .i64 (at_ + k : Nat), .bool true]
      | none => .tuple #[.int .u64 0, .int .i64 at_, .bool false] := by
  refine calls_of_vc (args := [_, _]) Try.func87 c87ok (Nat.le_of_ble_eq_true rfl) ?_
  simp (implicitDefEqProofs := false) only [go_sem, c87]
  refine vc_loop (fun ((n, i) : Nat × Nat) H' => H' = H ∧ i ≤ 10 ∧ n < 2^(7*i) ∧ at_ + i ≤ l.length ∧ numG i n (l.drop (at_ + i)) = num (l.drop at_))
    (fun (n, i) => [(0, .slice a l.length c), (1, .int .i64 at_), (4, .int .u64 n), (7, .int .i64 i)]) (fun (_, i) => 10 - i) (0, 0) ?_ ?_ ?_
  · exact ⟨rfl, by decide, by decide, by omega, rfl⟩
  · simp (implicitDefEqProofs := false) only [go_sem]
  · rintro ⟨n, i⟩ H' ⟨rfl, hi, hn, hai, hnum⟩
    rcases Nat.lt_or_ge i 10 with hlt | hge
    · have hlt' : (i : Int) < 10 := by omega
      have hw : IntKind.i64.wrap ((at_ : Int) + (i : Int)) = ((at_ + i : Nat) : Int) := by rw [wrap_i64_id _ (by omega) (by omega)]; omega
      have hw1 : IntKind.i64.wrap ((i : Int) + 1) = ((i + 1 : Nat) : Int) := by rw [wrap_i64_id _ (by omega) (by omega)]; omega
      have hw2 : IntKind.i64.wrap (((at_ + i : Nat) : Int) + 1) = ((at_ + (i + 1) : Nat) : Int) := by rw [wrap_i64_id _ (by omega) (by omega)]; omega
      rcases Nat.lt_or_ge (at_ + i) l.length with hin | hout
      · obtain ⟨b', o, rfl, hcl⟩ := hb.resolve_left (by rintro rfl; simp at hin)
        have hin' : ((at_ + i : Nat) : Int) < (l.length : Int) := by omega
        have h0' : (0 : Int) ≤ ((at_ + i : Nat) : Int) := by omega
        have hcj := hcl (at_ + i) hin
        have hdrop : l.drop (at_ + i) = l[at_ + i] :: l.drop (at_ + (i + 1)) := by rw [List.drop_eq_getElem_cons hin]; rfl
        rw [hdrop, numG, if_neg (by omega)] at hnum
        generalize l[at_ + i] = x at *
        by_cases h9 : i = 9 ∧ 1 < x.toNat
        · rw [if_pos h9] at hnum
          have q2 : (1 : Int) < (x.toNat : Int) := by omega
          obtain rfl := h9.1
          have hw9 : IntKind.i64.wrap ((at_ : Int) + 9) = ((at_ + 9 : Nat) : Int) := hw
          simp (implicitDefEqProofs := false) only [go_sem, hw9, hin', h0', hcj, bv, q2]
          rw [← hnum]
        rw [if_neg h9] at hnum
        have h9' : i = 9 → x.toNat ≤ 1 := fun q => by rcases Nat.lt_or_ge 1 x.toNat with h | h; exact absurd ⟨q, h⟩ h9; exact h
        have hst := raw_step x i n (by omega) hn h9'
        have hg : (if ((i : Int) = 9) then (decide ((1 : Int) < (x.toNat : Int))) else false) = false := by
          split
          · exact decide_eq_false (by have := h9' (by omega); omega)
          · rfl
        have hw2' : IntKind.i64.wrap (((at_ + i : Nat) : Int) + 1) = ((at_ + (i + 1) : Nat) : Int) := hw2
        have tail : ∀ (q : Prop) [Decidable q], True := fun _ _ => trivial
        by_cases hx : x.toNat < 128
        · have hx' : (x.toNat : Int) < 128 := by omega
          rw [if_pos hx] at hnum
          by_cases hz : x.toNat ≠ 0 ∨ i = 0
          · rw [if_pos hz] at hnum
            rcases Nat.lt_or_ge i 9 with hi9 | hi9
            · have q1 : ¬ (i : Int) = 9 := by omega
              by_cases z : x.toNat = 0
              · have z' : (x.toNat : Int) = 0 := by omega
                have i0 : ¬ (0 : Int) < (i : Int) := by omega
                rw [z] at hst
                have e0 : ((0 : Nat) : Int) = 0 := rfl
                rw [e0] at hst
                simp (implicitDefEqProofs := false) only [go_sem, hlt', hw, hin', h0', hcj, bv, q1, hx', z', i0, hst, hw2]
                rw [← hnum, z]
                try exact ⟨rfl, rfl⟩
              · have z' : ¬ (x.toNat : Int) = 0 := by omega
                simp (implicitDefEqProofs := false) only [go_sem, hlt', hw, hin', h0', hcj, bv, q1, hx', z', hst, hw2]
                rw [← hnum]
                try exact ⟨rfl, rfl⟩
            · have q1 : (i : Int) = 9 := by omega
              have q2 : ¬ (1 : Int) < (x.toNat : Int) := by have := h9' (by omega); omega
              have z' : ¬ (x.toNat : Int) = 0 := by omega
              have e9 : i = 9 := by omega
              subst e9
              have hw9 : IntKind.i64.wrap ((at_ : Int) + 9) = ((at_ + 9 : Nat) : Int) := hw
              have hst9 : IntKind.u64.wrap ((n : Int) + shlI .u64 (IntKind.u64.wrap ((x.toNat : Int).tmod 128)) (IntKind.u64.wrap (7 * IntKind.u64.wrap 9))) = ((n + (x.toNat % 128) * 2^(7*9) : Nat) : Int) := hst
              simp (implicitDefEqProofs := false) only [go_sem, hw9, hin', h0', hcj, bv, q2, hx', z', hst9, hw2]
              rw [← hnum]
              try exact ⟨rfl, rfl⟩
          · rw [if_neg hz] at hnum
            have z' : (x.toNat : Int) = 0 := by omega
            have i0 : (0 : Int) < (i : Int) := by omega
            have q2 : ¬ (1 : Int) < (x.toNat : Int) := by omega
            by_cases q1 : (i : Int) = 9
            · have e9 : i = 9 := by omega
              subst e9
              have hw9 : IntKind.i64.wrap ((at_ : Int) + 9) = ((at_ + 9 : Nat) : Int) := hw
              simp (implicitDefEqProofs := false) only [go_sem, hw9, hin', h0', hcj, bv, q2, hx', z', i0]
              rw [← hnum]
            · simp (implicitDefEqProofs := false) only [go_sem, hlt', hw, hin', h0', hcj, bv, q1, hx', z', i0]
              rw [← hnum]
        · have hx' : ¬ (x.toNat : Int) < 128 := by omega
          rw [if_neg hx] at hnum
          have q1 : ¬ (i : Int) = 9 := by intro q; have := h9' (by omega); omega
          have hpow : n + (x.toNat % 128) * 2^(7*i) < 2^(7*(i+1)) := by
            have hb' : x.toNat % 128 < 128 := Nat.mod_lt _ (by decide)
            have e : 2^(7*(i+1)) = 128 * 2^(7*i) := by rw [Nat.mul_add, Nat.pow_add, Nat.mul_comm]
            rw [e]
            have : (x.toNat % 128) * 2^(7*i) ≤ 127 * 2^(7*i) := Nat.mul_le_mul_right _ (by omega)
            omega
          simp (implicitDefEqProofs := false) only [go_sem, hlt', hw, hin', h0', hcj, bv, q1, hx', hst]
          refine loopK_intro (n + (x.toNat % 128) * 2^(7*i), i + 1) (by show 10 - (i + 1) < 10 - i; omega) ?_ ⟨rfl, by show i + 1 ≤ 10; omega, hpow, by show at_ + (i + 1) ≤ _; omega, hnum⟩
          simp (implicitDefEqProofs := false) only [go_sem, hw1]
      · have hout' : ¬ ((at_ + i : Nat) : Int) < (l.length : Int) := by omega
        rw [List.drop_eq_nil_of_le hout, numG] at hnum
        simp (implicitDefEqProofs := false) only [go_sem, hlt', hw, hout']
        rw [← hnum]
    · have hge' : ¬ (i : Int) < 10 := by omega
      have : i = 10 := by omega
      subst this
      have hnn : num (l.drop at_) = none := by
        rw [← hnum]; cases l.drop (at_ + 10) <;> simp [numG]
      simp (implicitDefEqProofs := false) only [go_sem, hge', hnn]

theorem bsR_fr0 {M : List Nat} {H H' : Heap} {a : Option Addr} {L : List UInt8} (h : BsR H a L) (hf : Fr M H H') (hM : ∀ b o, a = some ⟨b, o, none⟩ → L ≠ [] → b ∉ M) : BsR H' a L := by
  by_cases h0 : L = []
  · exact .inl h0
  · exact h.fr hf fun b o e => hM b o e h0

/-- A reference reader at a block; its bytes lie below N. -/
def InB (H : Heap) (N b : Nat) (L : List UInt8) (at_ last : Nat) (bad : Bool) : Prop :=
  ∃ a c, Blk H b 71 [.slice a L.length c, .int .i64 at_, .int .i64 last, .bool bad] ∧ BsR H a L ∧ (∀ b' o, a = some ⟨b', o, none⟩ → L ≠ [] → b' ≠ b ∧ b' < N) ∧ at_ ≤ L.length ∧ last ≤ L.length ∧ L.length < 2^40 ∧ L.length ≤ c
def InO (H : Heap) (N b : Nat) (L : List UInt8) (s : Pl) : Prop :=
  match s with
  | some p => ∃ last, InB H N b L p last false
  | none => ∃ p last, InB H N b L p last true

theorem InB.fr {M : List Nat} {H H' : Heap} {N b : Nat} {L : List UInt8} {p last : Nat} {bad : Bool} (h : InB H N b L p last bad) (hf : Fr M H H') (hb : b ∉ M) (hM : ∀ x ∈ M, N ≤ x) : InB H' N b L p last bad := by
  obtain ⟨a, c, h1, h2, h3, h4⟩ := h
  refine ⟨a, c, h1.fr hf hb, ?_, h3, h4⟩
  by_cases h0 : L = []
  · exact .inl h0
  · exact h2.fr hf fun b' o e hm => by
      have := (h3 b' o e h0).2
      have := hM b' hm
      omega
theorem InO.fr {M : List Nat} {H H' : Heap} {N b : Nat} {L : List UInt8} {s : Pl} (h : InO H N b L s) (hf : Fr M H H') (hb : b ∉ M) (hM : ∀ x ∈ M, N ≤ x) : InO H' N b L s := by
  cases s with
  | some p => obtain ⟨l, h⟩ := h; exact ⟨l, h.fr hf hb hM⟩
  | none => obtain ⟨p, l, h⟩ := h; exact ⟨p, l, h.fr hf hb hM⟩
theorem InO.ext {H H' : Heap} {N b : Nat} {L : List UInt8} {s : Pl} (h : InO H N b L s) (hf : Fr [] H H') : InO H' N b L s := h.fr hf (by simp) (by simp)
theorem InO.lt {H : Heap} {N b : Nat} {L : List UInt8} {s : Pl} (h : InO H N b L s) : b < H.size := by
  cases s with
  | some p => obtain ⟨l, a, c, h, _⟩ := h; exact h.lt
  | none => obtain ⟨p, l, a, c, h, _⟩ := h; exact h.lt
theorem InO.len {H : Heap} {N b : Nat} {L : List UInt8} {s : Pl} (h : InO H N b L s) : L.length < 2^40 := by
  cases s with
  | some p => obtain ⟨l, a, c, _, _, _, _, _, h, _⟩ := h; exact h
  | none => obtain ⟨p, l, a, c, _, _, _, _, _, h, _⟩ := h; exact h
/-- Whether a read has failed. -/
theorem InO.bad {H : Heap} {N b : Nat} {L : List UInt8} {s : Pl} (h : InO H N b L s) : cellB H b 3 = some (.bool s.isNone) := by
  cases s with
  | some p => obtain ⟨l, a, c, h, _⟩ := h; rw [h.cell]; rfl
  | none => obtain ⟨p, l, a, c, h, _⟩ := h; rw [h.cell]; rfl
theorem InB.upd {H H' : Heap} {N b : Nat} {L : List UInt8} {p' last' : Nat} {bad' : Bool} {a : Option Addr} {c : Nat} (h2 : BsR H a L) (h3 : ∀ b' o, a = some ⟨b', o, none⟩ → L ≠ [] → b' ≠ b ∧ b' < N) (hl : L.length < 2^40) (hc : L.length ≤ c)
    (hb' : Blk H' b 71 [.slice a L.length c, .int .i64 p', .int .i64 last', .bool bad']) (hf : Fr [b] H H') (hp : p' ≤ L.length) (hq : last' ≤ L.length) : InB H' N b L p' last' bad' :=
  ⟨a, c, hb', bsR_fr0 h2 hf (fun b1 o e hn => by have := (h3 b1 o e hn).1; simpa using this), h3, hp, hq, hl, hc⟩

theorem count_in {n k at_ : Nat} {L : List UInt8} (hl : L.length < 2^40) (h1 : n < 2^64) (h2 : at_ + k ≤ L.length) :
    (IntKind.u64.wrap (IntKind.i64.wrap ((L.length : Int) - ((at_ + k : Nat) : Int))) < (n : Int)) ↔ ¬ at_ + k + n ≤ L.length := by
  rw [wrap_i64_id _ (by omega) (by omega), wrap_u64_id _ (by omega) (by omega)]; omega

section
variable {H : Heap} {N b : Nat} {L : List UInt8} {s : Pl}

theorem iuint_o (h : InO H N b L s) : HCalls Try.prog 70 #[.pointer (some ⟨b, 0, none⟩)] H fun v H' => v = .int .u64 (uintO L s).1 ∧ InO H' N b L (uintO L s).2 ∧ Fr [b] H H' := by
  refine calls_of_vc (args := [_]) Try.func70 c70ok (Nat.le_of_ble_eq_true rfl) ?_
  cases s with
  | none =>
    obtain ⟨p, l, a, c, hb, h2, h3, h4, h5, h6, h7⟩ := h
    have hc := hb.cell
    simp (implicitDefEqProofs := false) only [go_sem, c70, hc]
    exact ⟨rfl, ⟨p, l, a, c, hb, h2, h3, h4, h5, h6, h7⟩, Fr.refl _ _⟩
  | some p =>
    obtain ⟨l, a, c, hb, h2, h3, h4, h5, h6, h7⟩ := h
    have hc := hb.cell
    simp (implicitDefEqProofs := false) only [go_sem, c70, hc]
    refine Sto_one hb (by simp) rfl fun H1 hb1 hf1 hs1 => ?_
    have hc1 := hb1.cell
    have h21 := bsR_fr0 h2 hf1 (fun b1 o e hn => by have := (h3 b1 o e hn).1; simpa using this)
    simp (implicitDefEqProofs := false) only [go_sem, hc1]
    refine (raw_ok h21 h6 h4).mono ?_
    rintro r H2 ⟨hEq, rfl⟩
    obtain rfl := hEq.symm
    unfold uintO
    rcases hnum : num (L.drop p) with _ | ⟨n, k⟩
    · simp (implicitDefEqProofs := false) only [go_sem, hc1]
      refine Sto_one hb1 (by simp) rfl fun H3 hb3 hf3 hs3 => ?_
      simp (implicitDefEqProofs := false) only [go_sem, hnum]
      first | exact ⟨⟨p, p, InB.upd h21 h3 h6 h7 hb3 hf3 h4 h4⟩, hf1.trans hf3⟩ | exact ⟨rfl, ⟨p, p, InB.upd h21 h3 h6 h7 hb3 hf3 h4 h4⟩, hf1.trans hf3⟩
    · have hbd := num_bound hnum
      simp only [List.length_drop] at hbd
      simp (implicitDefEqProofs := false) only [go_sem, hc1]
      refine Sto_one hb1 (by simp) rfl fun H3 hb3 hf3 hs3 => ?_
      simp (implicitDefEqProofs := false) only [go_sem, hnum]
      first | exact ⟨⟨p, InB.upd h21 h3 h6 h7 hb3 hf3 (by omega) h4⟩, hf1.trans hf3⟩ | exact ⟨rfl, ⟨p, InB.upd h21 h3 h6 h7 hb3 hf3 (by omega) h4⟩, hf1.trans hf3⟩

theorem zag_half (n : Nat) (h : n < 2^64) : zag n = if ((n : Int).tmod 2 = 0) then IntKind.i64.wrap ((n : Int).tdiv 2) else IntKind.i64.wrap (IntKind.i64.wrap (0 - IntKind.i64.wrap ((n : Int).tdiv 2)) - 1) := by
  rw [Int.tmod_eq_emod_of_nonneg (by omega), Int.tdiv_eq_ediv_of_nonneg (by omega)]
  unfold zag
  by_cases e : n % 2 = 0
  · rw [if_pos e, if_pos (by omega), wrap_i64_id _ (by omega) (by omega)]; omega
  · rw [if_neg e, if_neg (by omega), wrap_i64_id ((n : Int) / 2) (by omega) (by omega), wrap_i64_id (0 - _) (by omega) (by omega), wrap_i64_id _ (by omega) (by omega)]; omega

theorem iint_o (h : InO H N b L s) : HCalls Try.prog 72 #[.pointer (some ⟨b, 0, none⟩)] H fun v H' => v = .int .i64 (zag (uintO L s).1) ∧ InO H' N b L (uintO L s).2 ∧ Fr [b] H H' := by
  refine calls_of_vc (args := [_]) Try.func72 c72ok (Nat.le_of_ble_eq_true rfl) ?_
  simp (implicitDefEqProofs := false) only [go_sem, c72]
  refine (iuint_o h).mono ?_
  rintro r H1 ⟨rfl, h1, hf1⟩
  have hlt := uintO_lt L s
  have hz := zag_half _ hlt
  have hw : IntKind.u64.wrap (((uintO L s).1 : Int).tdiv 2) = ((uintO L s).1 : Int).tdiv 2 := wrap_u64_id _ (by rw [Int.tdiv_eq_ediv_of_nonneg (by omega)]; omega) (by rw [Int.tdiv_eq_ediv_of_nonneg (by omega)]; omega)
  by_cases e : ((uintO L s).1 : Int).tmod 2 = 0
  · rw [if_pos e] at hz
    rw [hz]
    simp (implicitDefEqProofs := false) only [go_sem, e, hw]
    exact ⟨h1, hf1⟩
  · rw [if_neg e] at hz
    rw [hz]
    simp (implicitDefEqProofs := false) only [go_sem, e, hw]
    exact ⟨h1, hf1⟩

theorem icount_o (h : InO H N b L s) : HCalls Try.prog 74 #[.pointer (some ⟨b, 0, none⟩)] H fun v H' => v = .int .i64 (countO L s).1 ∧ InO H' N b L (countO L s).2 ∧ Fr [b] H H' := by
  refine calls_of_vc (args := [_]) Try.func74 c74ok (Nat.le_of_ble_eq_true rfl) ?_
  cases s with
  | none =>
    obtain ⟨p, l, a, c, hb, h2, h3, h4, h5, h6, h7⟩ := h
    have hc := hb.cell
    simp (implicitDefEqProofs := false) only [go_sem, c74, hc]
    exact ⟨rfl, ⟨p, l, a, c, hb, h2, h3, h4, h5, h6, h7⟩, Fr.refl _ _⟩
  | some p =>
    obtain ⟨l, a, c, hb, h2, h3, h4, h5, h6, h7⟩ := h
    have hc := hb.cell
    simp (implicitDefEqProofs := false) only [go_sem, c74, hc]
    refine Sto_one hb (by simp) rfl fun H1 hb1 hf1 hs1 => ?_
    have hc1 := hb1.cell
    have h21 := bsR_fr0 h2 hf1 (fun b1 o e hn => by have := (h3 b1 o e hn).1; simpa using this)
    simp (implicitDefEqProofs := false) only [go_sem, hc1]
    refine (raw_ok h21 h6 h4).mono ?_
    rintro r H2 ⟨hEq, rfl⟩
    obtain rfl := hEq.symm
    unfold countO
    rcases hnum : num (L.drop p) with _ | ⟨n, k⟩
    · simp (implicitDefEqProofs := false) only [go_sem, hc1]
      refine Sto_one hb1 (by simp) rfl fun H3 hb3 hf3 hs3 => ?_
      simp (implicitDefEqProofs := false) only [go_sem, hnum]
      first | exact ⟨⟨p, p, InB.upd h21 h3 h6 h7 hb3 hf3 h4 h4⟩, hf1.trans hf3⟩ | exact ⟨rfl, ⟨p, p, InB.upd h21 h3 h6 h7 hb3 hf3 h4 h4⟩, hf1.trans hf3⟩
    · have hbd := num_bound hnum
      simp only [List.length_drop] at hbd
      have hcn := count_in (n := n) (k := k) (at_ := p) h6 hbd.1 (by omega)
      by_cases hle : p + k + n ≤ L.length
      · have hcn' : ¬ (IntKind.u64.wrap (IntKind.i64.wrap ((L.length : Int) - ((p + k : Nat) : Int))) < (n : Int)) := fun q => (hcn.1 q) hle
        have hw : IntKind.i64.wrap (n : Int) = (n : Int) := wrap_i64_id _ (by omega) (by omega)
        simp (implicitDefEqProofs := false) only [go_sem, hc1, hcn', hw]
        refine Sto_one hb1 (by simp) rfl fun H3 hb3 hf3 hs3 => ?_
        simp (implicitDefEqProofs := false) only [go_sem, hnum, hle, hw]
        exact ⟨⟨p, InB.upd h21 h3 h6 h7 hb3 hf3 (by omega) h4⟩, hf1.trans hf3⟩
      · have hcn' := hcn.2 hle
        simp (implicitDefEqProofs := false) only [go_sem, hc1, hcn']
        refine Sto_one hb1 (by simp) rfl fun H3 hb3 hf3 hs3 => ?_
        simp (implicitDefEqProofs := false) only [go_sem, hnum, hle]
        first | exact ⟨⟨p, p, InB.upd h21 h3 h6 h7 hb3 hf3 h4 h4⟩, hf1.trans hf3⟩ | exact ⟨rfl, ⟨p, p, InB.upd h21 h3 h6 h7 hb3 hf3 h4 h4⟩, hf1.trans hf3⟩

theorem ibytes_o (h : InO H N b L s) : HCalls Try.prog 88 #[.pointer (some ⟨b, 0, none⟩)] H fun v H' => ∃ a c g', v = .slice a (bytesO L s).1.length c ∧ Own H' 5 1 v (bytesO L s).1.length ((bytesO L s).1.map bv) g' ∧ (∀ k, g' = some k → H.size ≤ k) ∧ InO H' N b L (bytesO L s).2 ∧ Fr [b] H H' := by
  refine calls_of_vc (args := [_]) Try.func88 c88ok (Nat.le_of_ble_eq_true rfl) ?_
  cases s with
  | none =>
    obtain ⟨p, l, a, c, hb, h2, h3, h4, h5, h6, h7⟩ := h
    have hc := hb.cell
    simp (implicitDefEqProofs := false) only [go_sem, c88, hc]
    exact ⟨none, 0, none, rfl, Own.nil _ _ _, by simp, ⟨p, l, a, c, hb, h2, h3, h4, h5, h6, h7⟩, Fr.refl _ _⟩
  | some p =>
    obtain ⟨l, a, c, hb, h2, h3, h4, h5, h6, h7⟩ := h
    have hc := hb.cell
    simp (implicitDefEqProofs := false) only [go_sem, c88, hc]
    refine Sto_one hb (by simp) rfl fun H1 hb1 hf1 hs1 => ?_
    have hc1 := hb1.cell
    have h21 := bsR_fr0 h2 hf1 (fun b1 o e hn => by have := (h3 b1 o e hn).1; simpa using this)
    simp (implicitDefEqProofs := false) only [go_sem, hc1]
    refine (raw_ok h21 h6 h4).mono ?_
    rintro r H2 ⟨hEq, rfl⟩
    obtain rfl := hEq.symm
    unfold bytesO
    rcases hnum : num (L.drop p) with _ | ⟨n, k⟩
    · simp (implicitDefEqProofs := false) only [go_sem, hc1]
      refine Sto_one hb1 (by simp) rfl fun H3 hb3 hf3 hs3 => ?_
      simp (implicitDefEqProofs := false) only [go_sem, hnum]
      exact ⟨none, 0, none, rfl, Own.nil _ _ _, by simp, ⟨p, p, InB.upd h21 h3 h6 h7 hb3 hf3 h4 h4⟩, hf1.trans hf3⟩
    · have hbd := num_bound hnum
      simp only [List.length_drop] at hbd
      have hcn := count_in (n := n) (k := k) (at_ := p) h6 hbd.1 (by omega)
      by_cases hle : p + k + n ≤ L.length
      · have hcn' : ¬ (IntKind.u64.wrap (IntKind.i64.wrap ((L.length : Int) - ((p + k : Nat) : Int))) < (n : Int)) := fun q => (hcn.1 q) hle
        have hw : IntKind.i64.wrap (n : Int) = (n : Int) := wrap_i64_id _ (by omega) (by omega)
        have hw2 : IntKind.i64.wrap (((p + k : Nat) : Int) + (n : Int)) = ((p + k + n : Nat) : Int) := by rw [wrap_i64_id _ (by omega) (by omega)]; omega
        have z0 : (0 : Int) ≤ ((p + k : Nat) : Int) := by omega
        have z1 : (0 : Int) ≤ ((p + k + n : Nat) : Int) := by omega
        have z2 : ((p + k + n : Nat) : Int) ≤ (c : Int) := by omega
        have z3 : ((p + k : Nat) : Int) ≤ ((p + k + n : Nat) : Int) := by omega
        simp (implicitDefEqProofs := false) only [go_sem, hc1, hcn', hw, hw2]
        refine Sto_one hb1 (by simp) rfl fun H3 hb3 hf3 hs3 => ?_
        have hin := InB.upd h21 h3 h6 h7 hb3 hf3 hle h4
        have h23 := bsR_fr0 h21 hf3 (fun b1 o e hn => by have := (h3 b1 o e hn).1; simpa using this)
        have hc3 := hb3.cell
        simp (implicitDefEqProofs := false) only [go_sem, hc3, z0, z1, z2, z3]
        refine NewS_intro fun H5 hn5 hf5 hs5 => ?_
        have hc5 := (hb3.ext hf5).cell
        simp (implicitDefEqProofs := false) only [go_sem, hc5]
        have hlen : p + k + n - (p + k) = ((L.drop (p + k)).take n).length := by simp; omega
        have hsub : BsR H5 (if c = p + k then a else Option.map (fun x => x.add (p + k)) a) ((L.drop (p + k)).take n) := by
          have := (h23.ext hf5).sub c (lo := p + k) (hi := p + k + n) (by omega)
          rwa [show p + k + n - (p + k) = n by omega] at this
        rw [hlen]
        refine App_own EB (Own.of_blk hn5 (by simp) (by decide)) (hsub.src Try.underlying36) (by unfold maxLen; omega) (by omega) fun a2 c2 H6 g2 ho6 hf6 hg6 => ?_
        have hfr : Fr [] H3 H6 := hf5.trans' hf6 (by simp)
        simp (implicitDefEqProofs := false) only [go_sem, hnum, hle]
        refine ⟨a2, c2, g2, by simp, by simpa using ho6, ?_, ?_, (hf1.trans hf3).trans (hfr.mono (by simp))⟩
        · intro j hj
          have h3 := hf1.size
          have h4 := hf3.size
          rcases hg6 j hj with h | h
          · simp at h; omega
          · have := hf5.size; omega
        · exact ⟨p, hin.fr hfr (by simp) (by simp)⟩
      · have hcn' := hcn.2 hle
        simp (implicitDefEqProofs := false) only [go_sem, hc1, hcn']
        refine Sto_one hb1 (by simp) rfl fun H3 hb3 hf3 hs3 => ?_
        simp (implicitDefEqProofs := false) only [go_sem, hnum, hle]
        exact ⟨none, 0, none, rfl, Own.nil _ _ _, by simp, ⟨p, p, InB.upd h21 h3 h6 h7 hb3 hf3 h4 h4⟩, hf1.trans hf3⟩

theorem itext_o (h : InO H N b L s) : HCalls Try.prog 75 #[.pointer (some ⟨b, 0, none⟩)] H fun v H' => v = .string ⟨⟨(bytesO L s).1⟩⟩ ∧ InO H' N b L (bytesO L s).2 ∧ Fr [b] H H' := by
  refine calls_of_vc (args := [_]) Try.func75 c75ok (Nat.le_of_ble_eq_true rfl) ?_
  simp (implicitDefEqProofs := false) only [go_sem, c75]
  refine (ibytes_o h).mono ?_
  rintro v H1 ⟨a, c, g', rfl, ho, hg, h1, hf1⟩
  simp (implicitDefEqProofs := false) only [go_sem, ho.bsR.b2s c]
  exact ⟨h1, hf1⟩

theorem ifail_o (h : InO H N b L s) : HCalls Try.prog 71 #[.pointer (some ⟨b, 0, none⟩)] H fun v H' => v = .tuple #[] ∧ InO H' N b L none ∧ Fr [b] H H' := by
  refine calls_of_vc (args := [_]) Try.func71 c71ok (Nat.le_of_ble_eq_true rfl) ?_
  cases s with
  | none =>
    obtain ⟨p, l, a, c, hb, h2, h3, h4, h5, h6, h7⟩ := h
    have hc := hb.cell
    simp (implicitDefEqProofs := false) only [go_sem, c71, hc]
    exact ⟨⟨p, l, a, c, hb, h2, h3, h4, h5, h6, h7⟩, Fr.refl _ _⟩
  | some p =>
    obtain ⟨l, a, c, hb, h2, h3, h4, h5, h6, h7⟩ := h
    have hc := hb.cell
    simp (implicitDefEqProofs := false) only [go_sem, c71, hc]
    refine Sto_one hb (by simp) rfl fun H1 hb1 hf1 hs1 => ?_
    have hc1 := hb1.cell
    have h21 := bsR_fr0 h2 hf1 (fun b1 o e hn => by have := (h3 b1 o e hn).1; simpa using this)
    simp (implicitDefEqProofs := false) only [go_sem, hc1]
    refine Sto_one hb1 (by simp) rfl fun H3 hb3 hf3 hs3 => ?_
    simp (implicitDefEqProofs := false) only [go_sem]
    exact ⟨⟨l, l, InB.upd h21 h3 h6 h7 hb3 hf3 h5 h5⟩, hf1.trans hf3⟩

theorem iend_o (h : InO H N b L s) : HCalls Try.prog 49 #[.pointer (some ⟨b, 0, none⟩)] H fun v H' => v = .bool (decide (s = some L.length)) ∧ H' = H := by
  refine calls_of_vc (args := [_]) Try.func49 c49ok (Nat.le_of_ble_eq_true rfl) ?_
  cases s with
  | none =>
    obtain ⟨p, l, a, c, hb, h2, h3, h4, h5, h6, h7⟩ := h
    have hc := hb.cell
    simp (implicitDefEqProofs := false) only [go_sem, c49, hc]
  | some p =>
    obtain ⟨l, a, c, hb, h2, h3, h4, h5, h6, h7⟩ := h
    have hc := hb.cell
    by_cases e : p = L.length
    · subst e
      simp (implicitDefEqProofs := false) only [go_sem, c49, hc]
    · have e' : ¬ (p : Int) = (L.length : Int) := by omega
      simp (implicitDefEqProofs := false) only [go_sem, c49, hc, e', e]
end
end Go.Proofs.Ytcilkhjadljaaaa
end
section
/- The reference's reading: contracts. -/
set_option linter.unusedSimpArgs false
set_option linter.unusedVariables false
set_option maxRecDepth 8000
namespace Go.Proofs.Ytcilkhjadljaaaa
open Gx Go

set_option maxHeartbeats 2000000 in
theorem flist_ok {H : Heap} {N b : Nat} {L : Bs} {s : Pl} (hN : N ≤ H.size) (h : InO H N b L s) :
    HCalls Try.prog 73 #[.pointer (some ⟨b, 0, none⟩)] H fun r H' => ∃ g', LsO H' (fun x => x < H.size) 9 1 r ((listF L s).1.map strD) g' ∧ (∀ k, g' = some k → H.size ≤ k) ∧ InO H' N b L (listF L s).2 ∧ Fr [b] H H' := by
  refine calls_of_vc (args := [_]) Try.func73 c73ok (Nat.le_of_ble_eq_true rfl) ?_
  have hn := countO_le L s
  have hL := h.len
  have hb := h.lt
  unfold listF
  obtain ⟨n, hnn⟩ : ∃ n, n = (countO L s).1 := ⟨_, rfl⟩
  obtain ⟨s1, hs1⟩ : ∃ s1, s1 = (countO L s).2 := ⟨_, rfl⟩
  simp (implicitDefEqProofs := false) only [go_sem, c73]
  refine NewS_intro fun H0 hn0 hf0 hs0 => ?_
  simp (implicitDefEqProofs := false) only [go_sem]
  refine (icount_o (h.ext hf0)).mono ?_
  rw [← hnn] at hn
  rw [← hnn, ← hs1]
  rintro r H1 ⟨rfl, h1, hf1⟩
  have hF1 : Fr [b] H H1 := (hf0.mono (by simp)).trans hf1
  have hl1 : LsO H1 (fun y => y < H.size) 9 1 (.slice (some ⟨H.size, 0, none⟩) 0 0) ([] : List Dat) (some H.size) := ⟨[], (Own.of_blk (hn0.fr hf1 (by simp; omega)) rfl (by decide)), by simp, RepsP.nil⟩
  simp (implicitDefEqProofs := false) only [go_sem]
  refine vc_loop (fun (x : Nat × List Bs × Pl × Value × Option Nat) H' => x.1 ≤ n ∧ x.2.1.length = x.1 ∧ LsO H' (fun y => y < H.size) 9 1 x.2.2.2.1 (x.2.1.map strD) x.2.2.2.2 ∧ (∀ k, x.2.2.2.2 = some k → H.size ≤ k) ∧ InO H' N b L x.2.2.1 ∧ Fr [b] H H' ∧
      (x.2.1 ++ (textsF L (n - x.1) x.2.2.1).1, (textsF L (n - x.1) x.2.2.1).2) = textsF L n s1)
    (fun x => [(0, .pointer (some ⟨b, 0, none⟩)), (3, x.2.2.2.1), (4, .int .i64 n), (5, .int .i64 x.1)]) (fun x => n - x.1) (0, [], s1, .slice (some ⟨H.size, 0, none⟩) 0 0, some H.size) ?_ ?_ ?_
  · exact ⟨Nat.zero_le _, rfl, hl1, by simp, h1, hF1, by simp⟩
  · simp (implicitDefEqProofs := false) only [go_sem]
  · rintro ⟨i, done, s', v, g'⟩ H' ⟨hi, hd, hl, hg, hr, hF, he⟩
    simp only at hi hd hl hg hr hF he ⊢
    have hsz := hF.size
    have hbad := hr.bad
    rcases Nat.lt_or_ge i n with hlt | hge
    · have hlt' : (i : Int) < (n : Int) := by omega
      have hw := succ_i64 i n hlt (by unfold maxLen; omega)
      cases s' with
      | none =>
        rw [textsF_none, List.append_nil] at he
        simp (implicitDefEqProofs := false) only [go_sem, hlt', hbad]
        rw [← he]
        exact ⟨g', hl, hg, hr, hF⟩
      | some p =>
      simp (implicitDefEqProofs := false) only [go_sem, hlt', hbad]
      refine (itext_o hr).mono ?_
      rintro r H2 ⟨rfl, hr2, hf2⟩
      have hl2 := hl.fr (B' := fun y => y < H.size) hf2 (by simp; omega) (fun k hk => by have := hg k hk; simp; omega) (fun x hx => .inl hx)
      simp (implicitDefEqProofs := false) only [go_sem]
      refine NewS_intro fun H3 hn3 hf3 hs3 => ?_
      have hl3 := hl2.ext (B' := fun y => y < H.size) hf3 (fun x hx => .inl hx)
      have hdm : (done.map strD).length = i := by simpa using hd
      simp (implicitDefEqProofs := false) only [go_sem]
      refine App_ls ES hl3 Try.underlying22 hn3 rfl (by simp [Value.oneCell']) (RepP.v _) rfl (by unfold maxLen; omega) (by omega) fun a c H4 g4 hl4 hf4 hg4 => ?_
      simp (implicitDefEqProofs := false) only [go_sem]
      have hnew : ∀ x ∈ g'.toList, H.size ≤ x := fun x hx => hg x (by simpa using hx)
      refine loopK_intro (i + 1, done ++ [(bytesO L (some p)).1], (bytesO L (some p)).2, .slice a ((done.map strD).length + 1) c, g4) (by show n - (i + 1) < n - i; omega) ?_ ⟨hlt, by simp [hd], ?_, ?_, ?_, ?_, ?_⟩
      · simp (implicitDefEqProofs := false) only [go_sem, hw]
      · simpa [strD, sv] using hl4
      · intro k hk
        rcases hg4 k hk with q | q
        · exact hg k q
        · have := hf2.size; have := hf3.size; omega
      · exact (hr2.ext hf3).fr hf4 (fun hm => by have := hnew b hm; omega) (fun x hx => by have := hnew x hx; omega)
      · exact ((hF.trans hf2).trans (hf3.mono (by simp))).trans' hf4 fun x hx => .inr (hnew x hx)
      · rw [← he, show n - i = (n - (i + 1)) + 1 by omega]
        simp [textsF]
    · have hge' : ¬ (i : Int) < (n : Int) := by omega
      have hbad := hr.bad
      simp (implicitDefEqProofs := false) only [go_sem, hge', hbad]
      have e : n - i = 0 := by omega
      rw [e, textsF_zero] at he
      simp only [List.append_nil] at he
      rw [← he]
      exact ⟨g', hl, hg, hr, hF⟩

theorem headF_n (L : Bs) (k : Nat) (s : Pl) : (headF L k s).n ≤ L.length + 2 := by
  have := countO_le L s
  unfold headF
  repeat' split
  all_goals (simp only; omega)

/-- What stands behind the head: the local tree, at a block X; all that is written later lies above. -/
structure FdS (H : Heap) (b : Nat) (L : Bs) (N : Nat) (H' : Heap) (X : Nat) (k : Nat) (h : Hd) (vn : Value) (gn : Option Nat) : Prop where
  blk : Blk H' X 26 [.int .i64 k, .int .i64 h.lo, .int .i64 h.hi, vn, .slice none 0 0, .slice none 0 0]
  cell : Blk H' H.size 26 [.int .i64 0, .int .i64 0, .int .i64 0, .slice none 0 0, .slice none 0 0, .slice none 0 0]
  names : LsO H' (fun x => x ≤ X) 9 1 vn (h.names.map strD) gn
  above : ∀ y, gn = some y → X < y
  rd : InO H' N b L h.s
  fr : Fr [b] H H'

/-- What holds at the head of each round over the parts. -/
structure FtS (H : Heap) (b : Nat) (L : Bs) (N : Nat) (f : Pl → Lt × Pl) (X k : Nat) (hd : Hd) (H' : Heap) (i : Nat) (nd : List Bs) (pd : List Lt) (vn : Value) (gn : Option Nat) (vp : Value) (gp : Option Nat) (s' : Pl) : Prop where
  le : i ≤ hd.n
  npd : pd.length = i
  nnd : nd.length ≤ i
  blk : Blk H' X 26 [.int .i64 k, .int .i64 hd.lo, .int .i64 hd.hi, vn, vp, .slice none 0 0]
  cell : Blk H' H.size 26 [.int .i64 0, .int .i64 0, .int .i64 0, .slice none 0 0, .slice none 0 0, .slice none 0 0]
  names : LsO H' (fun x => x ≤ X ∨ gp = some x) 9 1 vn ((hd.names ++ nd).map strD) gn
  parts : LsO H' (fun x => x ≤ X ∨ gn = some x) 26 6 vp (pd.map Lt.dat) gp
  an : ∀ y, gn = some y → X < y
  ap : ∀ y, gp = some y → X < y
  rd : InO H' N b L s'
  fr : Fr [b] H H'
  eq : (nd ++ (partsO f (k == 6) L (hd.n - i) s').1, pd ++ (partsO f (k == 6) L (hd.n - i) s').2.1, (partsO f (k == 6) L (hd.n - i) s').2.2) = partsO f (k == 6) L hd.n hd.s

/-- What holds at the head of each round over the rules. -/
structure FuS (H : Heap) (b : Nat) (L : Bs) (N : Nat) (X k : Nat) (hd : Hd) (H7 : Heap) (n : Nat) (vn vp : Value) (H' : Heap) (i : Nat) (rd : List Rl) (vr : Value) (gr : Option Nat) (s' : Pl) (ns : List Bs) (ps : List Lt) : Prop where
  le : i ≤ n
  len : rd.length = i
  blk : Blk H' X 26 [.int .i64 k, .int .i64 hd.lo, .int .i64 hd.hi, vn, vp, vr]
  cell : Blk H' H.size 26 [.int .i64 0, .int .i64 0, .int .i64 0, .slice none 0 0, .slice none 0 0, .slice none 0 0]
  names : RepP H' (fun y => y ≤ X ∨ H7.size ≤ y) (strsD ns) [vn]
  parts : RepP H' (fun y => y ≤ X ∨ H7.size ≤ y) (partsD ps) [vp]
  rules : LsO H' (fun y => y ≤ X) 50 2 vr (rd.map ruleD) gr
  ar : ∀ y, gr = some y → H7.size ≤ y ∧ X < y
  rd : InO H' N b L s'
  fr : Fr [b] H H'
  up : H7.size ≤ H'.size


set_option maxHeartbeats 8000000 in
theorem fread_ok (L : Bs) : ∀ (lv : Nat) {H : Heap} {N b : Nat} {s : Pl}, lv ≤ 6 → N ≤ H.size → InO H N b L s →
    HCalls Try.prog 48 #[.pointer (some ⟨b, 0, none⟩), .int .i64 lv] H fun r H' => ∃ cs, r = .agg cs.toArray ∧ RepP H' (fun x => x < H.size) (fT L lv s).1.dat cs ∧ InO H' N b L (fT L lv s).2 ∧ Fr [b] H H' := by
  intro lv
  induction lv with
  | zero =>
    intro H N b s hlv hN h
    have hbl := h.lt
    refine calls_of_vc (args := [_, _]) Try.func48 c48ok (Nat.le_of_ble_eq_true rfl) ?_
    simp (implicitDefEqProofs := false) only [go_sem, c48]
    refine NewP_intro fun H1 hn1 hf1 hs1 => ?_
    simp (implicitDefEqProofs := false) only [go_sem]
    refine NewP_intro fun H2 hn2 hf2 hs2 => ?_
    simp (implicitDefEqProofs := false) only [go_sem]
    refine Sto_all hn2 rfl (by simp [Value.oneCell']) fun H3 hn3 hf3 hs3 => ?_
    have hfa := new_fr hf2 hf3
    simp (implicitDefEqProofs := false) only [go_sem]
    refine (iuint_o ((h.ext hf1).ext hfa)).mono ?_
    rintro r H4 ⟨rfl, hr4, hf4⟩
    have hn4 := hn3.fr hf4 (by simp; omega)
    have hc4 := hn4.cell
    have hcl4 := (hn1.ext hfa).fr hf4 (by simp; omega)
    have e0 : ((0 : Nat) : Int) < 1 := by omega
    have hbad := hr4.bad
    have hF4 : Fr [b] H H4 := ((hf1.mono (by simp)).trans (hfa.mono (by simp))).trans hf4
    cases hq : (uintO L s).2.isNone
    all_goals
      rw [hq] at hbad
      simp (implicitDefEqProofs := false) only [go_sem, hbad, e0]
      refine (ifail_o hr4).mono ?_
      rintro r H5 ⟨rfl, hr5, hf5⟩
      have hn5 := hn4.fr hf5 (by simp; omega)
      have hc5 := hn5.cell
      have hcl5 := hcl4.fr hf5 (by simp; omega)
      simp (implicitDefEqProofs := false) only [go_sem, hc5]
      refine Sto_all hcl5 rfl (by simp [Value.oneCell']) fun H6 hn6 hf6 hs6 => ?_
      have hc6 := hn6.cell
      simp (implicitDefEqProofs := false) only [go_sem, hc6]
      exact ⟨_, rfl, fun M _ => zeroA _ _, hr5.fr hf6 (by simp; omega) (by simp; omega), (hF4.trans hf5).trans' hf6 (by simp)⟩
  | succ lv ih =>
    intro H N b s hlv hN h
    have hbl := h.lt
    have hL := h.len
    refine calls_of_vc (args := [_, _]) Try.func48 c48ok (Nat.le_of_ble_eq_true rfl) ?_
    simp (implicitDefEqProofs := false) only [go_sem, c48]
    refine NewP_intro fun H1 hn1 hf1 hs1 => ?_
    simp (implicitDefEqProofs := false) only [go_sem]
    refine NewP_intro fun H2 hn2 hf2 hs2 => ?_
    simp (implicitDefEqProofs := false) only [go_sem]
    refine Sto_all hn2 rfl (by simp [Value.oneCell']) fun H3 hn3 hf3 hs3 => ?_
    have hfa := new_fr hf2 hf3
    simp (implicitDefEqProofs := false) only [go_sem]
    refine (iuint_o ((h.ext hf1).ext hfa)).mono ?_
    rintro r H4 ⟨rfl, hr4, hf4⟩
    have hn4 := hn3.fr hf4 (by simp; omega)
    have hc4 := hn4.cell
    have hcl4 := (hn1.ext hfa).fr hf4 (by simp; omega)
    have e0 : ¬ (((lv + 1 : Nat) : Int) < 1) := by omega
    have hbad := hr4.bad
    have hF4 : Fr [b] H H4 := ((hf1.mono (by simp)).trans (hfa.mono (by simp))).trans hf4
    have hX : H.size < H1.size := by omega
    unfold fT
    obtain ⟨k, hk⟩ : ∃ k, k = (uintO L s).1 := ⟨_, rfl⟩
    obtain ⟨s1, hs1'⟩ : ∃ s1, s1 = (uintO L s).2 := ⟨_, rfl⟩
    rw [← hs1'] at hr4 hbad
    rw [← hk, ← hs1']
    by_cases hc : s1 = none ∨ k < 1 ∨ 10 < k
    · rw [if_pos hc]
      cases hq : s1.isNone
      · have hs1n : s1 ≠ none := by rintro rfl; cases hq
        have hc' : k < 1 ∨ 10 < k := by
          rcases hc with h | h
          · exact absurd h hs1n
          · exact h
        rw [hq] at hbad
        by_cases k0 : k < 1
        · have k0' : (k : Int) < 1 := by omega
          simp (implicitDefEqProofs := false) only [go_sem, hbad, e0, k0']
          refine (ifail_o hr4).mono ?_
          rintro r H5 ⟨rfl, hr5, hf5⟩
          have hn5 := hn4.fr hf5 (by simp; omega)
          have hc5 := hn5.cell
          have hcl5 := hcl4.fr hf5 (by simp; omega)
          simp (implicitDefEqProofs := false) only [go_sem, hc5]
          refine Sto_all hcl5 rfl (by simp [Value.oneCell']) fun H6 hn6 hf6 hs6 => ?_
          have hc6 := hn6.cell
          simp (implicitDefEqProofs := false) only [go_sem, hc6]
          exact ⟨_, rfl, fun M _ => zeroA _ _, hr5.fr hf6 (by simp; omega) (by simp; omega), (hF4.trans hf5).trans' hf6 (by simp)⟩
        · have k0' : ¬ (k : Int) < 1 := by omega
          have k1' : (10 : Int) < (k : Int) := by omega
          simp (implicitDefEqProofs := false) only [go_sem, hbad, e0, k0', k1']
          refine (ifail_o hr4).mono ?_
          rintro r H5 ⟨rfl, hr5, hf5⟩
          have hn5 := hn4.fr hf5 (by simp; omega)
          have hc5 := hn5.cell
          have hcl5 := hcl4.fr hf5 (by simp; omega)
          simp (implicitDefEqProofs := false) only [go_sem, hc5]
          refine Sto_all hcl5 rfl (by simp [Value.oneCell']) fun H6 hn6 hf6 hs6 => ?_
          have hc6 := hn6.cell
          simp (implicitDefEqProofs := false) only [go_sem, hc6]
          exact ⟨_, rfl, fun M _ => zeroA _ _, hr5.fr hf6 (by simp; omega) (by simp; omega), (hF4.trans hf5).trans' hf6 (by simp)⟩
      · rw [hq] at hbad
        simp (implicitDefEqProofs := false) only [go_sem, hbad, e0]
        refine (ifail_o hr4).mono ?_
        rintro r H5 ⟨rfl, hr5, hf5⟩
        have hn5 := hn4.fr hf5 (by simp; omega)
        have hc5 := hn5.cell
        have hcl5 := hcl4.fr hf5 (by simp; omega)
        simp (implicitDefEqProofs := false) only [go_sem, hc5]
        refine Sto_all hcl5 rfl (by simp [Value.oneCell']) fun H6 hn6 hf6 hs6 => ?_
        have hc6 := hn6.cell
        simp (implicitDefEqProofs := false) only [go_sem, hc6]
        exact ⟨_, rfl, fun M _ => zeroA _ _, hr5.fr hf6 (by simp; omega) (by simp; omega), (hF4.trans hf5).trans' hf6 (by simp)⟩
    rw [if_neg hc]
    obtain ⟨p1, rfl⟩ : ∃ p1, s1 = some p1 := by
      cases s1 with
      | none => exact absurd (.inl rfl) hc
      | some p1 => exact ⟨p1, rfl⟩
    have hk1 : 1 ≤ k ∧ k ≤ 10 := by omega
    have k0' : ¬ (k : Int) < 1 := by omega
    have k1' : ¬ (10 : Int) < (k : Int) := by omega
    have hwk : IntKind.i64.wrap (k : Int) = (k : Int) := wrap_i64_id _ (by omega) (by omega)
    have hb0 : cellB H4 b 3 = some (.bool false) := hbad
    simp (implicitDefEqProofs := false) only [go_sem, hb0, e0, k0', k1', hwk]
    refine Sto_one hn4 (by simp) rfl fun H5 hn5 hf5 hs5 => ?_
    have hr5 := hr4.fr hf5 (by simp; omega) (by simp; omega)
    have hcl5 := hcl4.fr hf5 (by simp; omega)
    have hc5 := hn5.cell
    have hF5 := hF4.trans' hf5 (by simp; omega)
    simp (implicitDefEqProofs := false) only [go_sem, hc5]
    refine vc_mid (fun σ H' => ∃ x12 x13 x14 x15 x16 x17 vn gn, σ = [some (.pointer (some ⟨b, 0, none⟩)), some (.int .i64 (lv + 1 : Nat)), some (.pointer (some ⟨H.size, 0, none⟩)), some (.pointer (some ⟨H1.size, 0, none⟩)), some (.int .u64 k), some (.int .i64 (headF L k (some p1)).n), some undef, some undef, some undef, some undef, some (.bool false), some (.int .i64 k), x12, x13, x14, x15, x16, x17, some undef, some undef, some undef, some undef] ∧
      FdS H b L N H' H1.size k (headF L k (some p1)) vn gn) ?_ ?_
    · intro K hK
      have hk11 : k = 1 ∨ k = 2 ∨ k = 3 ∨ k = 4 ∨ k = 5 ∨ k = 6 ∨ k = 7 ∨ k = 8 ∨ k = 9 ∨ k = 10 := by omega
      clear hk hwk hk1 k0' k1' hc
      rcases hk11 with rfl | rfl | rfl | rfl | rfl | rfl | rfl | rfl | rfl | rfl
      · -- 1
        simp (implicitDefEqProofs := false) only [go_sem, c48s49eq]
        exact hK _ _ ⟨_, _, _, _, _, _, _, none, rfl, ⟨hn5, hcl5, LsO.nil, by simp, hr5, hF5⟩⟩
      · -- 2
        simp (implicitDefEqProofs := false) only [go_sem, c48s49eq]
        refine (iint_o hr5).mono ?_
        rintro r H6 ⟨rfl, hr6, hf6⟩
        have hb6 := hn5.fr hf6 (by simp; omega)
        have hc6 := hcl5.fr hf6 (by simp; omega)
        simp (implicitDefEqProofs := false) only [go_sem]
        refine Sto_one hb6 (by simp) rfl fun H7 hb7 hf7 hs7 => ?_
        have hr7 := hr6.fr hf7 (by simp; omega) (by simp; omega)
        have hc7 := hc6.fr hf7 (by simp; omega)
        have hF7 := (hF5.trans hf6).trans' hf7 (by simp; omega)
        simp (implicitDefEqProofs := false) only [go_sem]
        refine (iint_o hr7).mono ?_
        rintro r H8 ⟨rfl, hr8, hf8⟩
        have hb8 := hb7.fr hf8 (by simp; omega)
        have hc8 := hc7.fr hf8 (by simp; omega)
        simp (implicitDefEqProofs := false) only [go_sem]
        refine Sto_one hb8 (by simp) rfl fun H9 hb9 hf9 hs9 => ?_
        have hr9 := hr8.fr hf9 (by simp; omega) (by simp; omega)
        have hc9 := hc8.fr hf9 (by simp; omega)
        have hF9 := (hF7.trans hf8).trans' hf9 (by simp; omega)
        simp (implicitDefEqProofs := false) only [go_sem]
        exact hK _ _ ⟨_, _, _, _, _, _, _, none, rfl, ⟨by simpa [headF] using hb9, hc9, LsO.nil, by simp, hr9, hF9⟩⟩
      · -- 3
        simp (implicitDefEqProofs := false) only [go_sem, c48s49eq]
        refine (iint_o hr5).mono ?_
        rintro r H6 ⟨rfl, hr6, hf6⟩
        have hb6 := hn5.fr hf6 (by simp; omega)
        have hc6 := hcl5.fr hf6 (by simp; omega)
        simp (implicitDefEqProofs := false) only [go_sem]
        refine Sto_one hb6 (by simp) rfl fun H7 hb7 hf7 hs7 => ?_
        have hr7 := hr6.fr hf7 (by simp; omega) (by simp; omega)
        have hc7 := hc6.fr hf7 (by simp; omega)
        have hF7 := (hF5.trans hf6).trans' hf7 (by simp; omega)
        simp (implicitDefEqProofs := false) only [go_sem]
        refine (iint_o hr7).mono ?_
        rintro r H8 ⟨rfl, hr8, hf8⟩
        have hb8 := hb7.fr hf8 (by simp; omega)
        have hc8 := hc7.fr hf8 (by simp; omega)
        simp (implicitDefEqProofs := false) only [go_sem]
        refine Sto_one hb8 (by simp) rfl fun H9 hb9 hf9 hs9 => ?_
        have hr9 := hr8.fr hf9 (by simp; omega) (by simp; omega)
        have hc9 := hc8.fr hf9 (by simp; omega)
        have hF9 := (hF7.trans hf8).trans' hf9 (by simp; omega)
        simp (implicitDefEqProofs := false) only [go_sem]
        exact hK _ _ ⟨_, _, _, _, _, _, _, none, rfl, ⟨by simpa [headF] using hb9, hc9, LsO.nil, by simp, hr9, hF9⟩⟩
      · -- 4
        simp (implicitDefEqProofs := false) only [go_sem, c48s49eq]
        refine (flist_ok (by have := hF5.size; omega) hr5).mono ?_
        rintro r H6 ⟨gn, hl6, hg6, hr6, hf6⟩
        have hs5' := hn5.lt
        have hb6 := hn5.fr hf6 (by simp; omega)
        have hc6 := hcl5.fr hf6 (by simp; omega)
        have hone := hl6.one
        obtain ⟨ra, rc, rfl, _, _⟩ := hl6.slice
        simp (implicitDefEqProofs := false) only [go_sem]
        refine Sto_one hb6 (by simp) hone fun H7 hb7 hf7 hs7 => ?_
        have hr7 := hr6.fr hf7 (by simp; omega) (by simp; omega)
        have hc7 := hc6.fr hf7 (by simp; omega)
        have hF7 := (hF5.trans hf6).trans' hf7 (by simp; omega)
        have hl7 := hl6.fr (B' := fun y => y ≤ H1.size) hf7 (by simp; omega) (fun y hy => by have := hg6 y hy; simp; omega) (fun y hy => .inl (by omega))
        simp (implicitDefEqProofs := false) only [go_sem]
        exact hK _ _ ⟨_, _, _, _, _, _, _, gn, rfl, ⟨by simpa [headF] using hb7, hc7, hl7, fun y hy => by have := hg6 y hy; omega, hr7, hF7⟩⟩
      · -- 5
        simp (implicitDefEqProofs := false) only [go_sem, c48s49eq]
        refine (flist_ok (by have := hF5.size; omega) hr5).mono ?_
        rintro r H6 ⟨gn, hl6, hg6, hr6, hf6⟩
        have hs5' := hn5.lt
        have hb6 := hn5.fr hf6 (by simp; omega)
        have hc6 := hcl5.fr hf6 (by simp; omega)
        have hone := hl6.one
        obtain ⟨ra, rc, rfl, _, _⟩ := hl6.slice
        simp (implicitDefEqProofs := false) only [go_sem]
        refine Sto_one hb6 (by simp) hone fun H7 hb7 hf7 hs7 => ?_
        have hr7 := hr6.fr hf7 (by simp; omega) (by simp; omega)
        have hc7 := hc6.fr hf7 (by simp; omega)
        have hF7 := (hF5.trans hf6).trans' hf7 (by simp; omega)
        have hl7 := hl6.fr (B' := fun y => y ≤ H1.size) hf7 (by simp; omega) (fun y hy => by have := hg6 y hy; simp; omega) (fun y hy => .inl (by omega))
        simp (implicitDefEqProofs := false) only [go_sem]
        exact hK _ _ ⟨_, _, _, _, _, _, _, gn, rfl, ⟨by simpa [headF] using hb7, hc7, hl7, fun y hy => by have := hg6 y hy; omega, hr7, hF7⟩⟩
      · -- 6
        simp (implicitDefEqProofs := false) only [go_sem, c48s49eq]
        refine (icount_o hr5).mono ?_
        rintro r H6 ⟨rfl, hr6, hf6⟩
        have hb6 := hn5.fr hf6 (by simp; omega)
        have hc6 := hcl5.fr hf6 (by simp; omega)
        by_cases h8 : 8 < (countO L (some p1)).1
        · have h8' : (8 : Int) < ((countO L (some p1)).1 : Int) := by omega
          have e : headF L 6 (some p1) = ⟨0, 0, [], (countO L (some p1)).1, none⟩ := by unfold headF; simp [h8]
          simp (implicitDefEqProofs := false) only [go_sem, h8']
          refine (ifail_o hr6).mono ?_
          rintro r H7 ⟨rfl, hr7, hf7⟩
          have hb7 := hb6.fr hf7 (by simp; omega)
          have hc7 := hc6.fr hf7 (by simp; omega)
          simp (implicitDefEqProofs := false) only [go_sem]
          rw [e] at hK
          exact hK _ _ ⟨_, _, _, _, _, _, _, none, rfl, ⟨hb7, hc7, LsO.nil, by simp, hr7, (hF5.trans hf6).trans hf7⟩⟩
        · have h8' : ¬ (8 : Int) < ((countO L (some p1)).1 : Int) := by omega
          have e : headF L 6 (some p1) = ⟨0, 0, [], (countO L (some p1)).1, (countO L (some p1)).2⟩ := by unfold headF; simp [h8]
          simp (implicitDefEqProofs := false) only [go_sem, h8']
          rw [e] at hK
          exact hK _ _ ⟨_, _, _, _, _, _, _, none, rfl, ⟨hb6, hc6, LsO.nil, by simp, hr6, hF5.trans hf6⟩⟩
      · -- 7
        simp (implicitDefEqProofs := false) only [go_sem, c48s49eq]
        exact hK _ _ ⟨_, _, _, _, _, _, _, none, rfl, ⟨hn5, hcl5, LsO.nil, by simp, hr5, hF5⟩⟩
      · -- 8
        simp (implicitDefEqProofs := false) only [go_sem, c48s49eq]
        refine (flist_ok (by have := hF5.size; omega) hr5).mono ?_
        rintro r H6 ⟨gn, hl6, hg6, hr6, hf6⟩
        have hs5' := hn5.lt
        have hb6 := hn5.fr hf6 (by simp; omega)
        have hc6 := hcl5.fr hf6 (by simp; omega)
        have hone := hl6.one
        obtain ⟨ra, rc, rfl, _, _⟩ := hl6.slice
        simp (implicitDefEqProofs := false) only [go_sem]
        refine Sto_one hb6 (by simp) hone fun H7 hb7 hf7 hs7 => ?_
        have hr7 := hr6.fr hf7 (by simp; omega) (by simp; omega)
        have hc7 := hc6.fr hf7 (by simp; omega)
        have hF7 := (hF5.trans hf6).trans' hf7 (by simp; omega)
        have hl7 := hl6.fr (B' := fun y => y ≤ H1.size) hf7 (by simp; omega) (fun y hy => by have := hg6 y hy; simp; omega) (fun y hy => .inl (by omega))
        simp (implicitDefEqProofs := false) only [go_sem]
        exact hK _ _ ⟨_, _, _, _, _, _, _, gn, rfl, ⟨by simpa [headF] using hb7, hc7, hl7, fun y hy => by have := hg6 y hy; omega, hr7, hF7⟩⟩
      · -- 9
        simp (implicitDefEqProofs := false) only [go_sem, c48s49eq]
        exact hK _ _ ⟨_, _, _, _, _, _, _, none, rfl, ⟨hn5, hcl5, LsO.nil, by simp, hr5, hF5⟩⟩
      · -- 10
        simp (implicitDefEqProofs := false) only [go_sem, c48s49eq]
        refine (flist_ok (by have := hF5.size; omega) hr5).mono ?_
        rintro r H6 ⟨gn, hl6, hg6, hr6, hf6⟩
        have hs5' := hn5.lt
        have hb6 := hn5.fr hf6 (by simp; omega)
        have hc6 := hcl5.fr hf6 (by simp; omega)
        have hone := hl6.one
        obtain ⟨ra, rc, rfl, _, _⟩ := hl6.slice
        simp (implicitDefEqProofs := false) only [go_sem]
        refine Sto_one hb6 (by simp) hone fun H7 hb7 hf7 hs7 => ?_
        have hr7 := hr6.fr hf7 (by simp; omega) (by simp; omega)
        have hc7 := hc6.fr hf7 (by simp; omega)
        have hF7 := (hF5.trans hf6).trans' hf7 (by simp; omega)
        have hl7 := hl6.fr (B' := fun y => y ≤ H1.size) hf7 (by simp; omega) (fun y hy => by have := hg6 y hy; simp; omega) (fun y hy => .inl (by omega))
        simp (implicitDefEqProofs := false) only [go_sem]
        exact hK _ _ ⟨_, _, _, _, _, _, _, gn, rfl, ⟨by simpa [headF] using hb7, hc7, hl7, fun y hy => by have := hg6 y hy; omega, hr7, hF7⟩⟩
    · rintro σ H5' ⟨x12, x13, x14, x15, x16, x17, vn, gn, rfl, hS⟩
      clear hc5 hr5 hcl5 hF5 hn5 hf5 hs5 hc4 hfa hr4 hcl4 hF4 hn4 hf4 hn3 hf3 hs3 hn2 hf2 hs2 hn1 hf1 hbad hb0
      have hnb := headF_n L k (some p1)
      have hd6 : k = 6 → (headF L k (some p1)).names = [] := by rintro rfl; rfl
      obtain ⟨X, hXe⟩ : ∃ X, X = H1.size := ⟨_, rfl⟩
      rw [← hXe] at hX hS ⊢
      unfold nodeF
      obtain ⟨hd, hhd⟩ : ∃ hd, hd = headF L k (some p1) := ⟨_, rfl⟩
      rw [← hhd] at hnb hd6 hS ⊢
      have hXb : ¬ X ≤ b ∧ X ≠ b := by omega
      simp only
      simp (implicitDefEqProofs := false) only [go_sem]
      refine vc_mid (fun σ H' => ∃ a1 a4 a5 a6 a7 a8 a9 a10 a11 a12 a13 a14 a15 a16 a17 a18 a19 a20 a21, σ = [some (.pointer (some ⟨b, 0, none⟩)), a1, some (.pointer (some ⟨H.size, 0, none⟩)), some (.pointer (some ⟨X, 0, none⟩)), a4, a5, a6, a7, a8, a9, a10, a11, a12, a13, a14, a15, a16, a17, a18, a19, a20, a21] ∧ ∃ i nd pd vn gn vp gp s', FtS H b L N (fT L lv) X k hd H' i nd pd vn gn vp gp s' ∧ (nd, pd, s') = partsO (fT L lv) (k == 6) L hd.n hd.s) ?_ ?_
      · intro K hK
        simp (implicitDefEqProofs := false) only [go_sem, c48s62eq]
        refine vc_loop (fun (x : Nat × List Bs × List Lt × Value × Option Nat × Value × Option Nat × Pl) H' => FtS H b L N (fT L lv) X k hd H' x.1 x.2.1 x.2.2.1 x.2.2.2.1 x.2.2.2.2.1 x.2.2.2.2.2.1 x.2.2.2.2.2.2.1 x.2.2.2.2.2.2.2)
          (fun x => [(0, .pointer (some ⟨b, 0, none⟩)), (1, .int .i64 (lv + 1 : Nat)), (4, .pointer (some ⟨H.size, 0, none⟩)), (5, .pointer (some ⟨X, 0, none⟩)), (7, .int .i64 hd.n), (8, .int .i64 x.1)]) (fun x => hd.n - x.1) (0, [], [], vn, gn, .slice none 0 0, none, hd.s) ?_ ?_ ?_
        · exact ⟨Nat.zero_le _, rfl, Nat.le_refl _, hS.blk, hS.cell, by simpa using hS.names.ext (Fr.refl _ _) (B' := fun x => x ≤ X ∨ (none : Option Nat) = some x) (fun y hy => .inl (by simpa using hy)), LsO.nil, hS.above, by simp, hS.rd, hS.fr, by simp⟩
        · simp (implicitDefEqProofs := false) only [go_sem]
        · rintro ⟨i, nd, pd, vn, gn, vp, gp, s'⟩ H' hP
          simp only at hP ⊢
          have hbX := hP.blk.lt
          have hHs := hP.fr.size
          have hx := hP.blk.cell
          rcases Nat.lt_or_ge i hd.n with hlt | hge
          · have hlt' : (i : Int) < (hd.n : Int) := by omega
            have hw := succ_i64 i hd.n hlt (by unfold maxLen; omega)
            have hwl : IntKind.i64.wrap (((lv + 1 : Nat) : Int) - 1) = (lv : Int) := by rw [wrap_i64_id _ (by omega) (by omega)]; omega
            have hbad := hP.rd.bad
            cases s' with
            | none =>
              have hq := hP.eq
              rw [partsO_none] at hq
              simp only [List.append_nil] at hq
              simp (implicitDefEqProofs := false) only [go_sem, hlt', hbad]
              exact hK _ _ ⟨_, _, _, _, _, _, _, _, _, _, _, _, _, _, _, _, _, _, _, rfl, i, nd, pd, vn, gn, vp, gp, none, hP, hq⟩
            | some p =>
              have e1 : hd.n - i = (hd.n - (i + 1)) + 1 := by omega
              have hEq := hP.eq
              rw [e1] at hEq
              by_cases k6 : k = 6
              · have k6' : (k : Int) = 6 := by omega
                have kb : (k == 6) = true := by simp [k6]
                have hn0 := hd6 k6
                rw [kb, partsO_six] at hEq
                have hnl : (hd.names ++ nd).length ≤ i := by rw [hn0]; exact hP.nnd
                simp (implicitDefEqProofs := false) only [go_sem, hlt', hbad, hx, k6']
                refine (itext_o hP.rd).mono ?_
                rintro r H7 ⟨rfl, hr7, hf7⟩
                have hb7 := hP.blk.fr hf7 (by simp; omega)
                have hc7 := hP.cell.fr hf7 (by simp; omega)
                have hN7 := hP.names.fr (B' := fun x => x ≤ X ∨ gp = some x) hf7 (by simp; omega) (fun y hy => by have := hP.an y hy; simp; omega) (fun y hy => .inl hy)
                have hP7 := hP.parts.fr (B' := fun x => x ≤ X ∨ gn = some x) hf7 (by simp; omega) (fun y hy => by have := hP.ap y hy; simp; omega) (fun y hy => .inl hy)
                simp (implicitDefEqProofs := false) only [go_sem, hb7.cell]
                refine NewS_intro fun H8 hn8 hf8 hs8 => ?_
                have hb8 := hb7.ext hf8
                have hc8 := hc7.ext hf8
                have hN8 := hN7.ext (B' := fun x => x ≤ X ∨ gp = some x) hf8 (fun y hy => .inl hy)
                have hP8 := hP7.ext (B' := fun x => x ≤ X ∨ gn = some x) hf8 (fun y hy => .inl hy)
                simp (implicitDefEqProofs := false) only [go_sem, hb8.cell]
                refine App_ls ES hN8 Try.underlying22 hn8 rfl (by simp [Value.oneCell']) (RepP.v _) rfl (by rw [List.length_map]; unfold maxLen; omega) (by rw [List.length_map]; omega) fun a c H9 gn9 hN9 hf9 hg9 => ?_
                have hgN : ∀ x ∈ gn.toList, X < x := fun x hx => hP.an x (by simpa using hx)
                have hb9 := hb8.fr hf9 (fun hm => by have := hgN X hm; omega)
                have hc9 := hc8.fr hf9 (fun hm => by have := hgN H.size hm; omega)
                have hP9 := hP8.fr (B' := fun x => x ≤ X ∨ gn9 = some x) hf9 (fun y hy => .inl (.inr (by simpa using hy))) (fun y hy hm => lsO_disj hP8 hN8 (by decide) y hy (by simpa using hm)) (fun y hy => by
                  rcases hy with hy | hy
                  · exact .inl (.inl hy)
                  · exact (hg9 y hy).imp .inr id)
                simp (implicitDefEqProofs := false) only [go_sem]
                refine Sto_one hb9 (by simp) rfl fun H10 hb10 hf10 hs10 => ?_
                have han : ∀ y, gn9 = some y → X < y := fun y hy => by
                  have := hf7.size; have := hf8.size
                  rcases hg9 y hy with q | q
                  · exact hP.an y q
                  · omega
                have hc10 := hc9.fr hf10 (by simp; omega)
                have hN10 := hN9.fr (B' := fun x => x ≤ X ∨ gp = some x) hf10 (by simp) (fun y hy => by have := han y hy; simp; omega) (fun y hy => .inl hy)
                have hP10 := hP9.fr (B' := fun x => x ≤ X ∨ gn9 = some x) hf10 (by simp) (fun y hy => by have := hP.ap y hy; simp; omega) (fun y hy => .inl hy)
                have hr10 := ((hr7.ext hf8).fr hf9 (fun hm => by have := hgN b hm; omega) (fun x hx => by have := hgN x hx; omega)).fr hf10 (by simp; omega) (by simp; omega)
                have hF10 := (((hP.fr.trans hf7).trans (hf8.mono (by simp))).trans' hf9 (fun x hx => .inr (by have := hgN x hx; omega))).trans' hf10 (by simp; omega)
                have hN10' : LsO H10 (fun x => x ≤ X ∨ gp = some x) 9 1 (.slice a ((List.map strD (hd.names ++ nd)).length + 1) c) ((hd.names ++ (nd ++ [(bytesO L (some p)).1])).map strD) gn9 := by
                  have e : (hd.names ++ (nd ++ [(bytesO L (some p)).1])).map strD = (hd.names ++ nd).map strD ++ [strD (bytesO L (some p)).1] := by simp
                  rw [e]; exact hN10
                have hb10' : Blk H10 X 26 [.int .i64 k, .int .i64 hd.lo, .int .i64 hd.hi, .slice a ((List.map strD (hd.names ++ nd)).length + 1) c, vp, .slice none 0 0] := by simpa using hb10
                simp (implicitDefEqProofs := false) only [go_sem, hb10'.cell, hwl]
                refine (ih (by omega) (by have := hF10.size; omega) hr10).mono ?_
                rintro r HB ⟨cs, rfl, hd1, hrB, hfB⟩
                obtain ⟨wn, wp, wr, rfl, _, _, _⟩ := LtA.open hd1.rep
                have hsA := hF10.size
                have hXA := hb10'.lt
                have hbB := hb10'.fr hfB (by simp; omega)
                have hcB := hc10.fr hfB (by simp; omega)
                have hNB := hN10'.fr (B' := fun x => x ≤ X ∨ gp = some x) hfB (by simp; omega) (fun y hy => by have := han y hy; simp; omega) (fun y hy => .inl hy)
                have hPB := hP10.fr (B' := fun x => x ≤ X ∨ gn9 = some x) hfB (by simp; omega) (fun y hy => by have := hP.ap y hy; simp; omega) (fun y hy => .inl hy)
                simp (implicitDefEqProofs := false) only [go_sem, hbB.cell]
                refine NewS_intro fun HC hnC hfC hsC => ?_
                have hbC := hbB.ext hfC
                have hcC := hcB.ext hfC
                have hNC := hNB.ext (B' := fun x => x ≤ X ∨ gp = some x) hfC (fun y hy => .inl hy)
                have hPC := hPB.ext (B' := fun x => x ≤ X ∨ gn9 = some x) hfC (fun y hy => .inl hy)
                have hdC : RepP HC (fun y => (y ≤ X ∨ gn9 = some y) ∨ gp = some y) (fT L lv (bytesO L (some p)).2).1.dat [.int .i64 (fT L lv (bytesO L (some p)).2).1.kind, .int .i64 (fT L lv (bytesO L (some p)).2).1.lo, .int .i64 (fT L lv (bytesO L (some p)).2).1.hi, wn, wp, wr] := hd1.ext hfC (by
                  rintro y ((hy | hy) | hy)
                  · exact .inl (by omega)
                  · exact .inl (hN10'.lt hy)
                  · exact .inl (hP10.lt hy))
                have hpl : (pd.map Lt.dat).length = i := by simpa using hP.npd
                simp (implicitDefEqProofs := false) only [go_sem, hbC.cell]
                refine App_ls EL hPC Try.underlying23 hnC rfl (LtA.one6 hd1.rep) hdC rfl (by unfold maxLen; omega) (by omega) fun a1 c1 HD gpD hPD hfD hgD => ?_
                have hbD := hbC.fr hfD (fun hm => by have := hP.ap X (by simpa using hm); omega)
                have hcD := hcC.fr hfD (fun hm => by have := hP.ap H.size (by simpa using hm); omega)
                have hND := hNC.fr (B' := fun x => x ≤ X ∨ gpD = some x) hfD (fun y hy => .inl (.inr (by simpa using hy))) (fun y hy hm => lsO_disj hNC hPC (by decide) y hy (by simpa using hm)) (fun y hy => by
                  rcases hy with hy | hy
                  · exact .inl (.inl hy)
                  · exact (hgD y hy).imp .inr id)
                simp (implicitDefEqProofs := false) only [go_sem]
                refine Sto_one hbD (by simp) rfl fun HE hbE hfE hsE => ?_
                have hcE := hcD.fr hfE (by simp; omega)
                have hNE := hND.fr (B' := fun x => x ≤ X ∨ gpD = some x) hfE (by simp) (fun y hy => by have := han y hy; simp; omega) (fun y hy => .inl hy)
                have hapD : ∀ y, gpD = some y → X < y := fun y hy => by
                  have := hfB.size; have := hfC.size
                  rcases hgD y hy with q | q
                  · exact hP.ap y q
                  · omega
                have hPE := hPD.fr (B' := fun x => x ≤ X ∨ gn9 = some x) hfE (by simp) (fun y hy => by have := hapD y hy; simp; omega) (fun y hy => .inl hy)
                have hgX : ∀ x ∈ gp.toList, X < x := fun x hx => hP.ap x (by simpa using hx)
                have hrE := ((hrB.ext hfC).fr hfD (fun hm => by have := hgX b hm; omega) (fun x hx => by have := hgX x hx; omega)).fr hfE (by simp; omega) (by simp; omega)
                have hFE := ((((hF10).trans hfB).trans (hfC.mono (by simp))).trans' hfD (fun x hx => .inr (by have := hgX x hx; omega))).trans' hfE (by simp; omega)
                simp (implicitDefEqProofs := false) only [go_sem]
                refine loopK_intro (i + 1, nd ++ [(bytesO L (some p)).1], pd ++ [(fT L lv (bytesO L (some p)).2).1], .slice a ((List.map strD (hd.names ++ nd)).length + 1) c, gn9, .slice a1 ((pd.map Lt.dat).length + 1) c1, gpD, (fT L lv (bytesO L (some p)).2).2) (by show hd.n - (i + 1) < hd.n - i; omega) ?_ ⟨hlt, by simp [hP.npd], by have := hP.nnd; simp; omega, by simpa using hbE, hcE, hNE, by simpa using hPE, han, hapD, hrE, hFE, ?_⟩
                · simp (implicitDefEqProofs := false) only [go_sem, hw]
                · simp only [kb]; rw [← hEq]; simp
              · have k6' : ¬ (k : Int) = 6 := by omega
                have kb : (k == 6) = false := by simp [k6]
                rw [kb, partsO_else] at hEq
                simp (implicitDefEqProofs := false) only [go_sem, hP.blk.cell, hwl, k6', hlt', hbad]
                refine (ih (by omega) (by have := hP.fr.size; omega) hP.rd).mono ?_
                rintro r HB ⟨cs, rfl, hd1, hrB, hfB⟩
                obtain ⟨wn, wp, wr, rfl, _, _, _⟩ := LtA.open hd1.rep
                have hsA := hP.fr.size
                have hXA := hP.blk.lt
                have hbB := hP.blk.fr hfB (by simp; omega)
                have hcB := hP.cell.fr hfB (by simp; omega)
                have hNB := hP.names.fr (B' := fun x => x ≤ X ∨ gp = some x) hfB (by simp; omega) (fun y hy => by have := hP.an y hy; simp; omega) (fun y hy => .inl hy)
                have hPB := hP.parts.fr (B' := fun x => x ≤ X ∨ gn = some x) hfB (by simp; omega) (fun y hy => by have := hP.ap y hy; simp; omega) (fun y hy => .inl hy)
                simp (implicitDefEqProofs := false) only [go_sem, hbB.cell]
                refine NewS_intro fun HC hnC hfC hsC => ?_
                have hbC := hbB.ext hfC
                have hcC := hcB.ext hfC
                have hNC := hNB.ext (B' := fun x => x ≤ X ∨ gp = some x) hfC (fun y hy => .inl hy)
                have hPC := hPB.ext (B' := fun x => x ≤ X ∨ gn = some x) hfC (fun y hy => .inl hy)
                have hdC : RepP HC (fun y => (y ≤ X ∨ gn = some y) ∨ gp = some y) (fT L lv (some p)).1.dat [.int .i64 (fT L lv (some p)).1.kind, .int .i64 (fT L lv (some p)).1.lo, .int .i64 (fT L lv (some p)).1.hi, wn, wp, wr] := hd1.ext hfC (by
                  rintro y ((hy | hy) | hy)
                  · exact .inl (by omega)
                  · exact .inl (hP.names.lt hy)
                  · exact .inl (hP.parts.lt hy))
                have hpl : (pd.map Lt.dat).length = i := by simpa using hP.npd
                simp (implicitDefEqProofs := false) only [go_sem, hbC.cell]
                refine App_ls EL hPC Try.underlying23 hnC rfl (LtA.one6 hd1.rep) hdC rfl (by unfold maxLen; omega) (by omega) fun a1 c1 HD gpD hPD hfD hgD => ?_
                have hbD := hbC.fr hfD (fun hm => by have := hP.ap X (by simpa using hm); omega)
                have hcD := hcC.fr hfD (fun hm => by have := hP.ap H.size (by simpa using hm); omega)
                have hND := hNC.fr (B' := fun x => x ≤ X ∨ gpD = some x) hfD (fun y hy => .inl (.inr (by simpa using hy))) (fun y hy hm => lsO_disj hNC hPC (by decide) y hy (by simpa using hm)) (fun y hy => by
                  rcases hy with hy | hy
                  · exact .inl (.inl hy)
                  · exact (hgD y hy).imp .inr id)
                simp (implicitDefEqProofs := false) only [go_sem]
                refine Sto_one hbD (by simp) rfl fun HE hbE hfE hsE => ?_
                have hcE := hcD.fr hfE (by simp; omega)
                have hNE := hND.fr (B' := fun x => x ≤ X ∨ gpD = some x) hfE (by simp) (fun y hy => by have := hP.an y hy; simp; omega) (fun y hy => .inl hy)
                have hapD : ∀ y, gpD = some y → X < y := fun y hy => by
                  have := hfB.size; have := hfC.size
                  rcases hgD y hy with q | q
                  · exact hP.ap y q
                  · omega
                have hPE := hPD.fr (B' := fun x => x ≤ X ∨ gn = some x) hfE (by simp) (fun y hy => by have := hapD y hy; simp; omega) (fun y hy => .inl hy)
                have hgX : ∀ x ∈ gp.toList, X < x := fun x hx => hP.ap x (by simpa using hx)
                have hrE := ((hrB.ext hfC).fr hfD (fun hm => by have := hgX b hm; omega) (fun x hx => by have := hgX x hx; omega)).fr hfE (by simp; omega) (by simp; omega)
                have hFE := ((((hP.fr).trans hfB).trans (hfC.mono (by simp))).trans' hfD (fun x hx => .inr (by have := hgX x hx; omega))).trans' hfE (by simp; omega)
                simp (implicitDefEqProofs := false) only [go_sem]
                refine loopK_intro (i + 1, nd, pd ++ [(fT L lv (some p)).1], vn, gn, .slice a1 ((pd.map Lt.dat).length + 1) c1, gpD, (fT L lv (some p)).2) (by show hd.n - (i + 1) < hd.n - i; omega) ?_ ⟨hlt, by simp [hP.npd], by have := hP.nnd; show nd.length ≤ i + 1; omega, by simpa using hbE, hcE, hNE, by simpa using hPE, hP.an, hapD, hrE, hFE, ?_⟩
                · simp (implicitDefEqProofs := false) only [go_sem, hw]
                · simp only [kb]; rw [← hEq]; simp
          · have hge' : ¬ (i : Int) < (hd.n : Int) := by omega
            have hq := hP.eq
            rw [show hd.n - i = 0 by omega, partsO_zero] at hq
            simp only [List.append_nil] at hq
            have hbad := hP.rd.bad
            simp (implicitDefEqProofs := false) only [go_sem, hge', hbad]
            exact hK _ _ ⟨_, _, _, _, _, _, _, _, _, _, _, _, _, _, _, _, _, _, _, rfl, i, nd, pd, vn, gn, vp, gp, s', hP, hq⟩
      · rintro σ H6 ⟨a1, a4, a5, a6, a7, a8, a9, a10, a11, a12, a13, a14, a15, a16, a17, a18, a19, a20, a21, rfl, i, nd, pd, vn, gn, vp, gp, s', hP, hE⟩
        rw [← hE]
        have hx := hP.blk.cell
        have hXs := hP.blk.lt
        have hN : LsO H6 (fun x => x ≤ X) 9 1 vn ((hd.names ++ nd).map strD) gn := hP.names.ext (Fr.refl _ _) (fun y hy => .inl (.inl hy))
        have hP' : LsO H6 (fun x => x ≤ X) 26 6 vp (pd.map Lt.dat) gp := hP.parts.ext (Fr.refl _ _) (fun y hy => .inl (.inl hy))
        have rN := hN.rep (fun y hy => by have := hP.an y hy; omega)
        have rP := hP'.rep (fun y hy => by have := hP.ap y hy; omega)
        have oN := hN.one
        have oP := hP'.one
        by_cases k10 : k = 10
        case neg =>
          have k10' : ¬ (k : Int) = 10 := by omega
          rw [if_neg k10]
          simp (implicitDefEqProofs := false) only [go_sem, hx, k10']
          refine Sto_all hP.cell rfl (one6 oN oP rfl) fun H7 hn7 hf7 hs7 => ?_
          have hc7 := hn7.cell
          simp (implicitDefEqProofs := false) only [go_sem, hc7]
          exact ⟨_, rfl, lt_repP (rN.fr hf7 (by simp; omega) (fun y hy => .inl (by omega))) (rP.fr hf7 (by simp; omega) (fun y hy => .inl (by omega))) (RepP.nil 2), hP.rd.fr hf7 (by simp; omega) (by simp; omega), hP.fr.trans' hf7 (by simp)⟩
        have k10' : (k : Int) = 10 := by omega
        rw [if_pos k10]
        simp (implicitDefEqProofs := false) only [go_sem, hx, k10']
        refine (icount_o hP.rd).mono ?_
        rintro r H7 ⟨rfl, hr7, hf7⟩
        have hn := countO_le L s'
        obtain ⟨n, hnn⟩ : ∃ n, n = (countO L s').1 := ⟨_, rfl⟩
        obtain ⟨s2, hs2⟩ : ∃ s2, s2 = (countO L s').2 := ⟨_, rfl⟩
        rw [← hnn] at hn ⊢
        rw [← hs2] at hr7 ⊢
        have hb7 := hP.blk.fr hf7 (by simp; omega)
        have hc7 := hP.cell.fr hf7 (by simp; omega)
        have hsz7 := hf7.size
        have hrN7 := rN.fr (B' := fun y => y ≤ X ∨ H7.size ≤ y) hf7 (by simp; omega) (fun y hy => hy.imp id (by omega))
        have hrP7 := rP.fr (B' := fun y => y ≤ X ∨ H7.size ≤ y) hf7 (by simp; omega) (fun y hy => hy.imp id (by omega))
        have hF7 := hP.fr.trans hf7
        simp (implicitDefEqProofs := false) only [go_sem]
        refine vc_mid (fun σ H' => ∃ a1 a4 a5 a6 a7 a8 a9 a10 a11 a12 a13 a14 a15 a16 a17 a18 a19 a20 a21, σ = [some (.pointer (some ⟨b, 0, none⟩)), a1, some (.pointer (some ⟨H.size, 0, none⟩)), some (.pointer (some ⟨X, 0, none⟩)), a4, a5, a6, a7, a8, a9, a10, a11, a12, a13, a14, a15, a16, a17, a18, a19, a20, a21] ∧ ∃ i rd vr gr s', FuS H b L N X k hd H7 n vn vp H' i rd vr gr s' (hd.names ++ nd) pd ∧ (rd, s') = rulesF L n s2) ?_ ?_
        · intro K hK
          simp (implicitDefEqProofs := false) only [go_sem, c48s77eq]
          refine vc_loop (fun (x : Nat × List Rl × Value × Option Nat × Pl) H' => FuS H b L N X k hd H7 n vn vp H' x.1 x.2.1 x.2.2.1 x.2.2.2.1 x.2.2.2.2 (hd.names ++ nd) pd ∧ (x.2.1 ++ (rulesF L (n - x.1) x.2.2.2.2).1, (rulesF L (n - x.1) x.2.2.2.2).2) = rulesF L n s2)
            (fun x => [(0, .pointer (some ⟨b, 0, none⟩)), (4, .pointer (some ⟨H.size, 0, none⟩)), (5, .pointer (some ⟨X, 0, none⟩)), (9, .int .i64 n), (10, .int .i64 x.1)]) (fun x => n - x.1) (0, [], .slice none 0 0, none, s2) ?_ ?_ ?_
          · exact ⟨⟨Nat.zero_le _, rfl, hb7, hc7, hrN7, hrP7, LsO.nil, by simp, hr7, hF7, Nat.le_refl _⟩, by simp⟩
          · simp (implicitDefEqProofs := false) only [go_sem]
          · rintro ⟨i, rd, vr, gr, s'⟩ H' ⟨hR, hE'⟩
            simp only at hR hE' ⊢
            have hbX := hR.blk.lt
            have hHs := hR.fr.size
            have hx := hR.blk.cell
            have hS7 := hR.up
            rcases Nat.lt_or_ge i n with hlt | hge
            · have hlt' : (i : Int) < (n : Int) := by omega
              have hw := succ_i64 i n hlt (by unfold maxLen; omega)
              have e1 : n - i = (n - (i + 1)) + 1 := by omega
              rw [e1] at hE'
              have hbad := hR.rd.bad
              cases s' with
              | none =>
                rw [rulesF_none] at hE'
                simp only [List.append_nil] at hE'
                simp (implicitDefEqProofs := false) only [go_sem, hlt', hbad]
                exact hK _ _ ⟨_, _, _, _, _, _, _, _, _, _, _, _, _, _, _, _, _, _, _, rfl, i, rd, vr, gr, none, hR, hE'⟩
              | some p0 =>
              simp (implicitDefEqProofs := false) only [go_sem, hlt', hbad]
              refine (flist_ok (by have := hR.fr.size; omega) hR.rd).mono ?_
              rintro r H8 ⟨gi, hl8, hg8, hr8, hf8⟩
              obtain ⟨ia, ic, rfl, _, _⟩ := hl8.slice
              have hs8 := hf8.size
              have rI := hl8.rep (fun y hy => by have := hg8 y hy; omega)
              have hb8 := hR.blk.fr hf8 (by simp; omega)
              have hc8 := hR.cell.fr hf8 (by simp; omega)
              have hN8 := hR.names.fr (B' := fun y => y ≤ X ∨ H7.size ≤ y) hf8 (by simp; omega) (fun y hy => .inl hy)
              have hP8 := hR.parts.fr (B' := fun y => y ≤ X ∨ H7.size ≤ y) hf8 (by simp; omega) (fun y hy => .inl hy)
              have hL8 := hR.rules.fr (B' := fun y => y ≤ X) hf8 (by simp; omega) (fun y hy => by have := hR.ar y hy; simp; omega) (fun y hy => .inl hy)
              simp (implicitDefEqProofs := false) only [go_sem]
              refine NewP_intro fun H9 hn9 hf9 hs9 => ?_
              simp (implicitDefEqProofs := false) only [go_sem]
              refine Sto_all hn9 rfl (one2 rfl rfl) fun H10 hn10 hf10 hs10 => ?_
              have hf910 := new_fr hf9 hf10
              have hr10 := hr8.ext hf910
              obtain ⟨tx, s3, hbx⟩ : ∃ tx s3, bytesO L (listF L (some p0)).2 = (tx, s3) := ⟨_, _, rfl⟩
              simp (implicitDefEqProofs := false) only [go_sem]
              refine (itext_o hr10).mono ?_
              rw [hbx]
              rintro r H11 ⟨rfl, hr11, hf11⟩
              simp only at hr11
              have hs910 := hf910.size
              have hn10l := hn10.lt
              have hn11 := hn10.fr hf11 (by simp; omega)
              simp (implicitDefEqProofs := false) only [go_sem]
              refine Sto_one hn11 (by simp) rfl fun H12 hn12 hf12 hs12 => ?_
              have hs11 := hf11.size
              have hr12 := hr11.fr hf12 (by simp; omega) (by simp; omega)
              have hb12 := ((hb8.ext hf910).fr hf11 (by simp; omega)).fr hf12 (by simp; omega)
              have hc12 := ((hc8.ext hf910).fr hf11 (by simp; omega)).fr hf12 (by simp; omega)
              have hN12 := ((hN8.ext (B' := fun y => y ≤ X ∨ H7.size ≤ y) hf910 (fun y hy => .inl hy)).fr (B' := fun y => y ≤ X ∨ H7.size ≤ y) hf11 (by simp; omega) (fun y hy => .inl hy)).fr (B' := fun y => y ≤ X ∨ H7.size ≤ y) hf12 (by simp; omega) (fun y hy => .inl hy)
              have hP12 := ((hP8.ext (B' := fun y => y ≤ X ∨ H7.size ≤ y) hf910 (fun y hy => .inl hy)).fr (B' := fun y => y ≤ X ∨ H7.size ≤ y) hf11 (by simp; omega) (fun y hy => .inl hy)).fr (B' := fun y => y ≤ X ∨ H7.size ≤ y) hf12 (by simp; omega) (fun y hy => .inl hy)
              have hL12 := ((hL8.ext (B' := fun y => y ≤ X ∨ y = H8.size) hf910 (fun y hy => hy.imp id (by omega))).fr (B' := fun y => y ≤ X ∨ y = H8.size) hf11 (by simp; omega) (fun y hy => by have := hR.ar y hy; simp; omega) (fun y hy => .inl hy)).fr (B' := fun y => y ≤ X) hf12 (by simp) (fun y hy hm => by have := hL8.lt hy; simp at hm; omega) (fun y hy => .inl (.inl hy))
              have hI12 := ((rI.ext (B' := fun y => y < H'.size ∨ y = H8.size) hf910 (fun y hy => hy.imp id (by omega))).fr (B' := fun y => y < H'.size ∨ y = H8.size) hf11 (by simp; omega) (fun y hy => .inl hy)).fr (B' := fun y => y < H'.size) hf12 (by simp) (fun y hy => .inl (.inl hy))
              have hF12 := (((hR.fr.trans hf8).trans (hf910.mono (by simp))).trans hf11).trans' hf12 (by simp; omega)
              have hsz12 := hf12.size
              simp (implicitDefEqProofs := false) only [go_sem, hb12.cell, hn12.cell]
              refine NewS_intro fun H13 hn13 hf13 hs13 => ?_
              have hb13 := hb12.ext hf13
              have hL13 := hL12.ext (B' := fun y => y ≤ X) hf13 (fun y hy => .inl hy)
              have hI13 : RepP H13 (fun y => y ≤ X ∨ gr = some y) (strsD (listF L (some p0)).1) [.slice ia ((listF L (some p0)).1.map strD).length ic] := hI12.ext hf13 (by
                rintro y (hy | hy)
                · exact .inl (by omega)
                · exact .inl (hR.rules.lt hy))
              have hd13 : RepP H13 (fun y => y ≤ X ∨ gr = some y) (ruleD ⟨(listF L (some p0)).1, tx⟩) [.slice ia ((listF L (some p0)).1.map strD).length ic, .string ⟨⟨tx⟩⟩] := RepP.agg (RepsP.cons hI13 (RepsP.cons (RepP.v _) RepsP.nil)) rfl
              have hpl : (rd.map ruleD).length = i := by simpa using hR.len
              simp (implicitDefEqProofs := false) only [go_sem]
              refine App_ls ER hL13 Try.underlying24 hn13 rfl (one2 rfl rfl) hd13 rfl (by unfold maxLen; omega) (by omega) fun a1 c1 H14 gr14 hL14 hf14 hg14 => ?_
              have hgR : ∀ x ∈ gr.toList, H7.size ≤ x ∧ X < x := fun x hx => hR.ar x (by simpa using hx)
              have hb14 := hb13.fr hf14 (fun hm => by have := hgR X hm; omega)
              simp (implicitDefEqProofs := false) only [go_sem]
              refine Sto_one hb14 (by simp) rfl fun H15 hb15 hf15 hs15 => ?_
              have har : ∀ y, gr14 = some y → H7.size ≤ y ∧ X < y := fun y hy => by
                have := hf13.size
                rcases hg14 y hy with q | q
                · exact hR.ar y q
                · omega
              have hs14 := hf14.size
              have hs13' := hf13.size
              have hr15 := ((hr12.ext hf13).fr hf14 (fun hm => by have := hgR b hm; omega) (fun x hx => by have := hgR x hx; omega)).fr hf15 (by simp; omega) (by simp; omega)
              have hS : FuS H b L N X k hd H7 n vn vp H15 (i + 1) (rd ++ [⟨(listF L (some p0)).1, tx⟩]) (.slice a1 ((rd.map ruleD).length + 1) c1) gr14 s3 (hd.names ++ nd) pd := by
                refine ⟨hlt, by simp [hR.len], by simpa using hb15, ?_, ?_, ?_, ?_, har, hr15, ?_, by omega⟩
                · exact (((hc12.ext hf13).fr hf14 (fun hm => by have := hgR H.size hm; omega)).fr hf15 (by simp; omega))
                · exact ((hN12.ext (B' := fun y => y ≤ X ∨ H7.size ≤ y) hf13 (fun y hy => .inl hy)).fr (B' := fun y => y ≤ X ∨ H7.size ≤ y) hf14 (fun x hx => .inl (.inr (hgR x hx).1)) (fun y hy => .inl hy)).fr hf15 (by simp) (fun y hy => .inl hy)
                · exact ((hP12.ext (B' := fun y => y ≤ X ∨ H7.size ≤ y) hf13 (fun y hy => .inl hy)).fr (B' := fun y => y ≤ X ∨ H7.size ≤ y) hf14 (fun x hx => .inl (.inr (hgR x hx).1)) (fun y hy => .inl hy)).fr hf15 (by simp) (fun y hy => .inl hy)
                · have := hL14.fr (B' := fun y => y ≤ X) hf15 (by simp) (fun y hy => by have := har y hy; simp; omega) (fun y hy => .inl hy)
                  simpa using this
                · exact ((hF12.trans (hf13.mono (by simp))).trans' hf14 (fun x hx => .inr (by have := hgR x hx; omega))).trans' hf15 (by simp; omega)
              simp only [rulesF, hbx] at hE'
              simp (implicitDefEqProofs := false) only [go_sem]
              refine loopK_intro (i + 1, rd ++ [⟨(listF L (some p0)).1, tx⟩], .slice a1 ((rd.map ruleD).length + 1) c1, gr14, s3) (by show n - (i + 1) < n - i; omega) ?_ ⟨hS, by simpa using hE'⟩
              simp (implicitDefEqProofs := false) only [go_sem, hw]
            · have hge' : ¬ (i : Int) < (n : Int) := by omega
              rw [show n - i = 0 by omega] at hE'
              simp only [rulesF_zero, List.append_nil] at hE'
              have hbad := hR.rd.bad
              simp (implicitDefEqProofs := false) only [go_sem, hge', hbad]
              exact hK _ _ ⟨_, _, _, _, _, _, _, _, _, _, _, _, _, _, _, _, _, _, _, rfl, i, rd, vr, gr, s', hR, hE'⟩
        · rintro σ H8 ⟨a1, a4, a5, a6, a7, a8, a9, a10, a11, a12, a13, a14, a15, a16, a17, a18, a19, a20, a21, rfl, i, rd, vr, gr, s', hR, hE'⟩
          rw [← hE']
          have hx := hR.blk.cell
          have oR := hR.rules.one
          have hXs := hR.blk.lt
          have rR := hR.rules.rep (fun y hy => by have := hR.ar y hy; have := hR.up; omega)
          have hS7 := hR.up
          simp (implicitDefEqProofs := false) only [go_sem, hx]
          refine Sto_all hR.cell rfl (one6 oN oP oR) fun H9 hn9 hf9 hs9 => ?_
          have hc9 := hn9.cell
          simp (implicitDefEqProofs := false) only [go_sem, hc9]
          exact ⟨_, rfl, by rw [← k10']; exact lt_repP (hR.names.fr (B' := fun y => y < H.size) hf9 (by simp; omega) (fun y hy => .inl (.inl (by omega)))) (hR.parts.fr (B' := fun y => y < H.size) hf9 (by simp; omega) (fun y hy => .inl (.inl (by omega)))) (rR.fr (B' := fun y => y < H.size) hf9 (by simp; omega) (fun y hy => .inl (by omega))), hR.rd.fr hf9 (by simp; omega) (by simp; omega), hR.fr.trans' hf9 (by simp)⟩
end Go.Proofs.Ytcilkhjadljaaaa
end
section
/- The decoding: contract. -/
set_option linter.unusedSimpArgs false
set_option linter.unusedVariables false
set_option maxRecDepth 8000
namespace Go.Proofs.Ytcilkhjadljaaaa
open Gx Go

/-- The description that these bytes encode. -/
def decT (L : Bs) : Option Lt := if (rT L 6 (some 0)).2 = some L.length ∧ (visT 1 0 (rT L 6 (some 0)).1).1 = 0 then some (rT L 6 (some 0)).1 else none
def decR (L : Bs) : Lt × Int := match decT L with
  | some t => (t, 0)
  | none => (Lt.zero, 2)

theorem decode_ok {H : Heap} {a : Option Addr} {c : Nat} {L : Bs} (h : BsR H a L) (hl : L.length < 2^38) : HCalls Try.prog 26 #[.slice a L.length c] H fun r H' =>
    ∃ cs, r = .tuple #[.agg cs.toArray, .int .i64 (decR L).2] ∧ LtA H' [] (decR L).1 cs ∧ Fr [] H H' := by
  refine calls_of_vc (args := [_]) Try.func26 c26ok (Nat.le_of_ble_eq_true rfl) ?_
  simp (implicitDefEqProofs := false) only [go_sem, c26]
  refine NewP_intro fun H1 hn1 hf1 hs1 => ?_
  simp (implicitDefEqProofs := false) only [go_sem]
  refine (new_ok (h.ext hf1) hl).mono ?_
  rintro r H2 ⟨b, g, rfl, hr2, hf2, hb2, hg2⟩
  have hr2' : RdO H2 b L (some 0) g := hr2
  have hbl := hr2'.lt
  have hn2 := hn1.ext hf2
  simp (implicitDefEqProofs := false) only [go_sem]
  refine (read_ok L 6 (by decide) hr2').mono ?_
  rintro r H3 ⟨cs, rfl, hd3, hr3, hf3⟩
  have hs3 := hf3.size
  have hn3 := hn2.fr hf3 (by simp; omega)
  obtain ⟨t, s', ht⟩ : ∃ t s', rT L 6 (some 0) = (t, s') := ⟨_, _, rfl⟩
  have hdR : decR L = if s' = some L.length ∧ (visT 1 0 t).1 = 0 then (t, 0) else (Lt.zero, 2) := by
    unfold decR decT
    rw [ht]
    simp only
    by_cases hc : s' = some L.length ∧ (visT 1 0 t).1 = 0
    · rw [if_pos hc, if_pos hc]
    · rw [if_neg hc, if_neg hc]
  rw [hdR]
  rw [ht] at hd3 hr3
  simp only at hd3 hr3
  obtain ⟨vn, vp, vr, rfl, _, _, _⟩ := LtA.open hd3.rep
  have hF3 : Fr [] H H3 := (hf1.trans hf2).trans' hf3 (by simp; omega)
  simp (implicitDefEqProofs := false) only [go_sem]
  refine NewP_intro fun H4 hn4 hf4 hs4 => ?_
  simp (implicitDefEqProofs := false) only [go_sem]
  refine Sto_all hn4 rfl (LtA.one6 hd3.rep) fun H5 hn5 hf5 hs5 => ?_
  have hfa := new_fr hf4 hf5
  have hr5 := hr3.ext hfa
  have hF5 := hF3.trans hfa
  have hc5 := hn5.cell
  have hd5 : LtA H5 [] t [.int .i64 t.kind, .int .i64 t.lo, .int .i64 t.hi, vn, vp, vr] := hd3.rep.ext hfa
  have hn5' := hn3.ext hfa
  simp (implicitDefEqProofs := false) only [go_sem]
  refine (rend_o hr5).mono ?_
  rintro r H6 ⟨rfl, hEq⟩
  obtain rfl := hEq.symm
  by_cases hend : s' = some L.length
  case neg =>
    rw [if_neg (fun hc => hend hc.1), if_neg hend]
    simp (implicitDefEqProofs := false) only [go_sem, hc5]
    refine Sto_all hn5' rfl (by simp [Value.oneCell']) fun H8 hn8 hf8 hs8 => ?_
    have hc8 := hn8.cell
    simp (implicitDefEqProofs := false) only [go_sem, hc8]
    exact ⟨_, rfl, zeroA _ _, hF5.trans' hf8 (by simp)⟩
  rw [if_pos hend]
  simp (implicitDefEqProofs := false) only [go_sem, hc5]
  refine (check_ok hd5).mono ?_
  rintro r H7 ⟨rfl, hf7⟩
  have hn7 := hn5'.ext hf7
  have hc7 := (hn5.ext hf7).cell
  have hd7 := hd5.ext hf7
  by_cases hv : (visT 1 0 t).1 = 0
  · rw [if_pos ⟨hend, hv⟩]
    simp (implicitDefEqProofs := false) only [go_sem, hv, hc7]
    refine Sto_all hn7 rfl (LtA.one6 hd7) fun H8 hn8 hf8 hs8 => ?_
    have hc8 := hn8.cell
    have hd3' : RepP H8 (fun _ => False) t.dat [.int .i64 t.kind, .int .i64 t.lo, .int .i64 t.hi, vn, vp, vr] :=
      ((hd3.ext (B' := fun y => y = H.size) hfa (fun y hy => by left; have := hn2.lt; omega)).ext (B' := fun y => y = H.size) hf7 (fun y hy => .inl hy)).fr hf8 (by simp) (fun y hy => hy.elim)
    simp (implicitDefEqProofs := false) only [go_sem, hc8]
    exact ⟨_, rfl, hd3'.rep, (hF5.trans hf7).trans' hf8 (by simp)⟩
  · rw [if_neg (fun hc => hv hc.2)]
    simp (implicitDefEqProofs := false) only [go_sem, hv, hc7]
    refine Sto_all hn7 rfl (by simp [Value.oneCell']) fun H8 hn8 hf8 hs8 => ?_
    have hc8 := hn8.cell
    simp (implicitDefEqProofs := false) only [go_sem, hc8]
    exact ⟨_, rfl, zeroA _ _, (hF5.trans hf7).trans' hf8 (by simp)⟩

theorem decode_two {H : Heap} {a : Option Addr} {c : Nat} (h : BsR H a [2, 0, 18]) : HCalls Try.prog 26 #[.slice a 3 c] H fun r H' =>
    ∃ cs, r = .tuple #[.agg cs.toArray, .int .i64 0] ∧ LtA H' [] (.mk 2 0 9 [] [] []) cs ∧ Fr [] H H' := by
  have e : decR [2, 0, 18] = (.mk 2 0 9 [] [] [], 0) := by
    have e1 : rT [2, 0, 18] 6 (some 0) = (.mk 2 0 9 [] [] [], some 3) := by rfl
    unfold decR decT
    rw [e1, if_pos (by decide)]
  have := decode_ok (c := c) h (by decide)
  rw [e] at this
  exact this
end Go.Proofs.Ytcilkhjadljaaaa
end
section
/- The reference's check of a node: contracts. -/
set_option linter.unusedSimpArgs false
set_option linter.unusedVariables false
set_option maxRecDepth 8000
namespace Go.Proofs.Ytcilkhjadljaaaa
open Gx Go

set_option maxHeartbeats 4000000 in
theorem fshape_ok {l : Lt} {H : Heap} {cs : List Value} (ha : LtA H [] l cs) : HCalls Try.prog 82 #[.agg cs.toArray] H fun r H' => r = .bool (shapeT l) ∧ Fr [] H H' := by
  obtain ⟨vn, vp, vr, rfl, h3, h4, h5⟩ := LtA.open ha
  obtain ⟨na, nc, rfl, hnl, hnc⟩ := StrsA.slice h3
  obtain ⟨pa, pc, rfl, hpl, hpc⟩ := PartsA.slice h4
  obtain ⟨ra, rc, rfl, hrl, hrc⟩ := RulesA.slice h5
  refine calls_of_vc (args := [_]) Try.func82 c82ok (Nat.le_of_ble_eq_true rfl) ?_
  simp (implicitDefEqProofs := false) only [go_sem, c82]
  refine NewP_intro fun H1 hn1 hf1 hs1 => ?_
  have hc1 := hn1.cell
  by_cases k1 : l.kind = 1
  · by_cases g0 : l.lo = 0
    case neg =>
      have hz : shapeT l = false := by
        simp [shapeT, k1, -List.length_eq_zero_iff]
        try omega
      rw [hz]
      simp (implicitDefEqProofs := false) only [go_sem, hc1, k1, g0, Int.natCast_eq_zero]
      exact hf1
    by_cases g1 : l.hi = 0
    case neg =>
      have hz : shapeT l = false := by
        simp [shapeT, k1, -List.length_eq_zero_iff]
        try omega
      rw [hz]
      simp (implicitDefEqProofs := false) only [go_sem, hc1, k1, g0, g1, Int.natCast_eq_zero]
      exact hf1
    by_cases g2 : l.rules.length = 0
    case neg =>
      have hz : shapeT l = false := by
        simp [shapeT, k1, -List.length_eq_zero_iff]
        try omega
      rw [hz]
      simp (implicitDefEqProofs := false) only [go_sem, hc1, k1, g0, g1, g2, Int.natCast_eq_zero]
      exact hf1
    simp (implicitDefEqProofs := false) only [go_sem, hc1, k1, g0, g1, g2, Int.natCast_eq_zero, Bool.cond_false_right]
    refine ⟨?_, hf1⟩
    congr 1
    rw [Bool.eq_iff_iff]
    simp [shapeT, k1, g0, g1, g2, -List.length_eq_zero_iff]
    try omega
  by_cases k9 : l.kind = 9
  · by_cases g0 : l.lo = 0
    case neg =>
      have hz : shapeT l = false := by
        simp [shapeT, k9, -List.length_eq_zero_iff]
        try omega
      rw [hz]
      simp (implicitDefEqProofs := false) only [go_sem, hc1, k9, g0, Int.natCast_eq_zero]
      exact hf1
    by_cases g1 : l.hi = 0
    case neg =>
      have hz : shapeT l = false := by
        simp [shapeT, k9, -List.length_eq_zero_iff]
        try omega
      rw [hz]
      simp (implicitDefEqProofs := false) only [go_sem, hc1, k9, g0, g1, Int.natCast_eq_zero]
      exact hf1
    by_cases g2 : l.rules.length = 0
    case neg =>
      have hz : shapeT l = false := by
        simp [shapeT, k9, -List.length_eq_zero_iff]
        try omega
      rw [hz]
      simp (implicitDefEqProofs := false) only [go_sem, hc1, k9, g0, g1, g2, Int.natCast_eq_zero]
      exact hf1
    simp (implicitDefEqProofs := false) only [go_sem, hc1, k9, g0, g1, g2, Int.natCast_eq_zero, Bool.cond_false_right]
    refine ⟨?_, hf1⟩
    congr 1
    rw [Bool.eq_iff_iff]
    simp [shapeT, k9, g0, g1, g2, -List.length_eq_zero_iff]
    try omega
  by_cases k2 : l.kind = 2
  · by_cases g0 : l.rules.length = 0
    case neg =>
      have hz : shapeT l = false := by
        simp [shapeT, k2, -List.length_eq_zero_iff]
        try omega
      rw [hz]
      simp (implicitDefEqProofs := false) only [go_sem, hc1, k2, g0, Int.natCast_eq_zero]
      exact hf1
    simp (implicitDefEqProofs := false) only [go_sem, hc1, k2, g0, Int.natCast_eq_zero, Bool.cond_false_right]
    refine ⟨?_, hf1⟩
    congr 1
    rw [Bool.eq_iff_iff]
    simp [shapeT, k2, g0, -List.length_eq_zero_iff]
    try omega
  by_cases k3 : l.kind = 3
  · by_cases g0 : l.rules.length = 0
    case neg =>
      have hz : shapeT l = false := by
        simp [shapeT, k3, -List.length_eq_zero_iff]
        try omega
      rw [hz]
      simp (implicitDefEqProofs := false) only [go_sem, hc1, k3, g0, Int.natCast_eq_zero]
      exact hf1
    simp (implicitDefEqProofs := false) only [go_sem, hc1, k3, g0, Int.natCast_eq_zero, Bool.cond_false_right]
    refine ⟨?_, hf1⟩
    congr 1
    rw [Bool.eq_iff_iff]
    simp [shapeT, k3, g0, -List.length_eq_zero_iff]
    try omega
  by_cases k4 : l.kind = 4
  · by_cases g0 : l.lo = 0
    case neg =>
      have hz : shapeT l = false := by
        simp [shapeT, k4, -List.length_eq_zero_iff]
        try omega
      rw [hz]
      simp (implicitDefEqProofs := false) only [go_sem, hc1, k4, g0, Int.natCast_eq_zero]
      exact hf1
    by_cases g1 : l.hi = 0
    case neg =>
      have hz : shapeT l = false := by
        simp [shapeT, k4, -List.length_eq_zero_iff]
        try omega
      rw [hz]
      simp (implicitDefEqProofs := false) only [go_sem, hc1, k4, g0, g1, Int.natCast_eq_zero]
      exact hf1
    by_cases g2 : l.rules.length = 0
    case neg =>
      have hz : shapeT l = false := by
        simp [shapeT, k4, -List.length_eq_zero_iff]
        try omega
      rw [hz]
      simp (implicitDefEqProofs := false) only [go_sem, hc1, k4, g0, g1, g2, Int.natCast_eq_zero]
      exact hf1
    simp (implicitDefEqProofs := false) only [go_sem, hc1, k4, g0, g1, g2, Int.natCast_eq_zero, Bool.cond_false_right]
    refine ⟨?_, hf1⟩
    congr 1
    rw [Bool.eq_iff_iff]
    simp [shapeT, k4, g0, g1, g2, -List.length_eq_zero_iff]
    try omega
  by_cases k8 : l.kind = 8
  · by_cases g0 : l.lo = 0
    case neg =>
      have hz : shapeT l = false := by
        simp [shapeT, k8, -List.length_eq_zero_iff]
        try omega
      rw [hz]
      simp (implicitDefEqProofs := false) only [go_sem, hc1, k8, g0, Int.natCast_eq_zero]
      exact hf1
    by_cases g1 : l.hi = 0
    case neg =>
      have hz : shapeT l = false := by
        simp [shapeT, k8, -List.length_eq_zero_iff]
        try omega
      rw [hz]
      simp (implicitDefEqProofs := false) only [go_sem, hc1, k8, g0, g1, Int.natCast_eq_zero]
      exact hf1
    by_cases g2 : l.rules.length = 0
    case neg =>
      have hz : shapeT l = false := by
        simp [shapeT, k8, -List.length_eq_zero_iff]
        try omega
      rw [hz]
      simp (implicitDefEqProofs := false) only [go_sem, hc1, k8, g0, g1, g2, Int.natCast_eq_zero]
      exact hf1
    simp (implicitDefEqProofs := false) only [go_sem, hc1, k8, g0, g1, g2, Int.natCast_eq_zero, Bool.cond_false_right]
    refine ⟨?_, hf1⟩
    congr 1
    rw [Bool.eq_iff_iff]
    simp [shapeT, k8, g0, g1, g2, -List.length_eq_zero_iff]
    try omega
  by_cases k5 : l.kind = 5
  · by_cases g0 : l.lo = 0
    case neg =>
      have hz : shapeT l = false := by
        simp [shapeT, k5, -List.length_eq_zero_iff]
        try omega
      rw [hz]
      simp (implicitDefEqProofs := false) only [go_sem, hc1, k5, g0, Int.natCast_eq_zero]
      exact hf1
    by_cases g1 : l.hi = 0
    case neg =>
      have hz : shapeT l = false := by
        simp [shapeT, k5, -List.length_eq_zero_iff]
        try omega
      rw [hz]
      simp (implicitDefEqProofs := false) only [go_sem, hc1, k5, g0, g1, Int.natCast_eq_zero]
      exact hf1
    by_cases g2 : l.rules.length = 0
    case neg =>
      have hz : shapeT l = false := by
        simp [shapeT, k5, -List.length_eq_zero_iff]
        try omega
      rw [hz]
      simp (implicitDefEqProofs := false) only [go_sem, hc1, k5, g0, g1, g2, Int.natCast_eq_zero]
      exact hf1
    simp (implicitDefEqProofs := false) only [go_sem, hc1, k5, g0, g1, g2, Int.natCast_eq_zero, Bool.cond_false_right]
    refine ⟨?_, hf1⟩
    congr 1
    rw [Bool.eq_iff_iff]
    simp [shapeT, k5, g0, g1, g2, -List.length_eq_zero_iff]
    try omega
  by_cases k7 : l.kind = 7
  · by_cases g0 : l.lo = 0
    case neg =>
      have hz : shapeT l = false := by
        simp [shapeT, k7, -List.length_eq_zero_iff]
        try omega
      rw [hz]
      simp (implicitDefEqProofs := false) only [go_sem, hc1, k7, g0, Int.natCast_eq_zero]
      exact hf1
    by_cases g1 : l.hi = 0
    case neg =>
      have hz : shapeT l = false := by
        simp [shapeT, k7, -List.length_eq_zero_iff]
        try omega
      rw [hz]
      simp (implicitDefEqProofs := false) only [go_sem, hc1, k7, g0, g1, Int.natCast_eq_zero]
      exact hf1
    by_cases g2 : l.rules.length = 0
    case neg =>
      have hz : shapeT l = false := by
        simp [shapeT, k7, -List.length_eq_zero_iff]
        try omega
      rw [hz]
      simp (implicitDefEqProofs := false) only [go_sem, hc1, k7, g0, g1, g2, Int.natCast_eq_zero]
      exact hf1
    simp (implicitDefEqProofs := false) only [go_sem, hc1, k7, g0, g1, g2, Int.natCast_eq_zero, Bool.cond_false_right]
    refine ⟨?_, hf1⟩
    congr 1
    rw [Bool.eq_iff_iff]
    simp [shapeT, k7, g0, g1, g2, -List.length_eq_zero_iff]
    try omega
  by_cases k6 : l.kind = 6
  · by_cases g0 : l.lo = 0
    case neg =>
      have hz : shapeT l = false := by
        simp [shapeT, k6, -List.length_eq_zero_iff]
        try omega
      rw [hz]
      simp (implicitDefEqProofs := false) only [go_sem, hc1, k6, g0, Int.natCast_eq_zero]
      exact hf1
    by_cases g1 : l.hi = 0
    case neg =>
      have hz : shapeT l = false := by
        simp [shapeT, k6, -List.length_eq_zero_iff]
        try omega
      rw [hz]
      simp (implicitDefEqProofs := false) only [go_sem, hc1, k6, g0, g1, Int.natCast_eq_zero]
      exact hf1
    by_cases g2 : l.rules.length = 0
    case neg =>
      have hz : shapeT l = false := by
        simp [shapeT, k6, -List.length_eq_zero_iff]
        try omega
      rw [hz]
      simp (implicitDefEqProofs := false) only [go_sem, hc1, k6, g0, g1, g2, Int.natCast_eq_zero]
      exact hf1
    simp (implicitDefEqProofs := false) only [go_sem, hc1, k6, g0, g1, g2, Int.natCast_eq_zero, Bool.cond_false_right]
    refine ⟨?_, hf1⟩
    congr 1
    rw [Bool.eq_iff_iff]
    simp [shapeT, k6, g0, g1, g2, -List.length_eq_zero_iff]
    try omega
  by_cases k10 : l.kind = 10
  · by_cases g0 : l.lo = 0
    case neg =>
      have hz : shapeT l = false := by
        simp [shapeT, k10, -List.length_eq_zero_iff]
        try omega
      rw [hz]
      simp (implicitDefEqProofs := false) only [go_sem, hc1, k10, g0, Int.natCast_eq_zero]
      exact hf1
    by_cases g1 : l.hi = 0
    case neg =>
      have hz : shapeT l = false := by
        simp [shapeT, k10, -List.length_eq_zero_iff]
        try omega
      rw [hz]
      simp (implicitDefEqProofs := false) only [go_sem, hc1, k10, g0, g1, Int.natCast_eq_zero]
      exact hf1
    simp (implicitDefEqProofs := false) only [go_sem, hc1, k10, g0, g1, Int.natCast_eq_zero, Bool.cond_false_right]
    refine ⟨?_, hf1⟩
    congr 1
    rw [Bool.eq_iff_iff]
    simp [shapeT, k10, g0, g1, -List.length_eq_zero_iff]
    try omega
  have hz : shapeT l = false := by simp [shapeT, k1, k9, k2, k3, k4, k8, k5, k7, k6, k10]
  rw [hz]
  by_cases g1 : l.lo = 0
  · by_cases g2 : l.hi = 0
    · by_cases g3 : l.rules.length = 0
      · simp (implicitDefEqProofs := false) only [go_sem, hc1, k1, k9, k2, k3, k4, k8, k5, k7, k6, k10, g1, g2, g3, Int.natCast_eq_zero]
        exact hf1
      · simp (implicitDefEqProofs := false) only [go_sem, hc1, k1, k9, k2, k3, k4, k8, k5, k7, k6, k10, g1, g2, g3, Int.natCast_eq_zero]
        exact hf1
    · simp (implicitDefEqProofs := false) only [go_sem, hc1, k1, k9, k2, k3, k4, k8, k5, k7, k6, k10, g1, g2, Int.natCast_eq_zero]
      exact hf1
  · simp (implicitDefEqProofs := false) only [go_sem, hc1, k1, k9, k2, k3, k4, k8, k5, k7, k6, k10, g1, Int.natCast_eq_zero]
    exact hf1

end Go.Proofs.Ytcilkhjadljaaaa
end
section
/- The reference's spelling of a node: contracts. -/
set_option linter.unusedSimpArgs false
set_option linter.unusedVariables false
set_option maxRecDepth 8000
namespace Go.Proofs.Ytcilkhjadljaaaa
open Gx Go

def ruleF (names : List Bs) (r : Rl) : Bool := decide (0 < r.ifs.length) && ((r.ifs.all nameT && sortedT r.ifs) && (decide (r.thn ∈ names) && r.ifs.all fun s => decide (s ∈ names)))
def namedT (l : Lt) : Bool := if l.kind = 6 then nmF true [] l.names else (l.names.all nameT && sortedT l.names) && l.rules.all (ruleF l.names)

theorem nmF_all : ∀ (l s : List Bs), nmF false s l = l.all nameT
  | [], _ => rfl
  | x :: r, s => by simp [nmF, nmF_all r]
theorem ruleF_ruleT {names : List Bs} (h : names.all nameT = true) (r : Rl) : ruleF names r = ruleT names r := by
  have key : (r.ifs.all fun s => decide (s ∈ names)) = true → r.ifs.all nameT = true := by
    intro hs
    rw [List.all_eq_true] at *
    intro x hx
    exact h x (by simpa using hs x hx)
  unfold ruleF ruleT
  cases h1 : (r.ifs.all fun s => decide (s ∈ names))
  · simp
  · rw [key h1, Bool.true_and, Bool.and_true, Bool.true_and]
theorem named_spell {l : Lt} (h : shapeT l = true) : namedT l = spellT l := by
  unfold namedT spellT
  by_cases k6 : l.kind = 6
  · have hr : l.rules = [] := by
      unfold shapeT at h
      simp [k6] at h
      exact h.2.2.1
    simp [k6, hr]
  · rw [if_neg k6, decide_eq_false k6, nmF_all, Bool.false_or]
    cases hn : l.names.all nameT
    · simp
    · have : (ruleF l.names) = ruleT l.names := funext fun r => ruleF_ruleT hn r
      rw [this, Bool.true_and, Bool.true_and]

set_option maxHeartbeats 4000000 in
theorem fnamed_ok {l : Lt} {H : Heap} {cs : List Value} (ha : LtA H [] l cs) : HCalls Try.prog 83 #[.agg cs.toArray] H fun r H' => r = .bool (namedT l) ∧ Fr [] H H' := by
  obtain ⟨vn, vp, vr, rfl, h3, h4, h5⟩ := LtA.open ha
  obtain ⟨na, nc, rfl, hnl, hnc⟩ := StrsA.slice h3
  obtain ⟨ra, rc, rfl, hrl, hrc⟩ := RulesA.slice h5
  refine calls_of_vc (args := [_]) Try.func83 c83ok (Nat.le_of_ble_eq_true rfl) ?_
  simp (implicitDefEqProofs := false) only [go_sem, c83]
  refine NewP_intro fun H1 hn1 hf1 hs1 => ?_
  have hc1 := hn1.cell
  by_cases k6 : l.kind = 6
  · have hS : namedT l = nmF true [] l.names := by rw [namedT, if_pos k6]
    simp (implicitDefEqProofs := false) only [go_sem, hc1, k6]
    refine vc_loop (fun (i : Nat) H' => i ≤ l.names.length ∧ nmF true (l.names.take i) (l.names.drop i) = nmF true [] l.names ∧ H1 = H')
      (fun i => [(1, .pointer (some ⟨H.size, 0, none⟩)), (3, .int .i64 i)]) (fun i => l.names.length - i) 0 ?_ ?_ ?_
    · exact ⟨Nat.zero_le _, rfl, rfl⟩
    · simp (implicitDefEqProofs := false) only [go_sem]
    · rintro i H' ⟨hi, hv, rfl⟩
      rcases Nat.lt_or_ge i l.names.length with hlt | hge
      · have hlt' : (i : Int) < (l.names.length : Int) := by omega
        have h0 : (0 : Int) ≤ (i : Int) := by omega
        have hle' : (i : Int) ≤ (nc : Int) := by omega
        obtain ⟨b1, o1, c1, e1, h1⟩ := StrsA.at (h3.ext hf1) i hlt
        cases e1
        have hw := succ_i64 i l.names.length hlt (by omega)
        rw [nmF_drop _ hlt] at hv
        simp (implicitDefEqProofs := false) only [go_sem, hlt', h0, h1, hc1]
        refine (fname_ok l.names[i] H1).mono ?_
        rintro r H2 ⟨rfl, hEq⟩
        obtain rfl := hEq.symm
        cases en : nameT l.names[i]
        · simp (implicitDefEqProofs := false) only [go_sem, hc1]
          exact ⟨by rw [hS, ← hv, en]; rfl, hf1⟩
        rw [en, Bool.true_and] at hv
        simp (implicitDefEqProofs := false) only [go_sem, hc1, h0, hle', hlt', h1]
        refine (fin_ok' l.names[i] (StrsA.takeL (h3.ext hf1) hi)).mono ?_
        rintro r H2 ⟨rfl, hEq⟩
        obtain rfl := hEq.symm
        by_cases ec : l.names[i] ∈ l.names.take i
        · simp (implicitDefEqProofs := false) only [go_sem, ec]
          exact ⟨by rw [hS, ← hv, decide_eq_true ec]; rfl, hf1⟩
        · simp (implicitDefEqProofs := false) only [go_sem, ec]
          refine loopK_intro (i + 1) (by show l.names.length - (i + 1) < l.names.length - i; omega) ?_ ⟨hlt, ?_, rfl⟩
          · simp (implicitDefEqProofs := false) only [go_sem, hw]
          · rw [← hv, decide_eq_false ec, Bool.and_false]; rfl
      · have hge' : ¬ (i : Int) < (l.names.length : Int) := by omega
        rw [List.drop_eq_nil_of_le hge] at hv
        simp (implicitDefEqProofs := false) only [go_sem, hge', hc1]
        exact ⟨by rw [hS, ← hv]; rfl, hf1⟩
  have hS : namedT l = ((l.names.all nameT && sortedT l.names) && l.rules.all (ruleF l.names)) := by rw [namedT, if_neg k6]
  simp (implicitDefEqProofs := false) only [go_sem, hc1, k6]
  refine (rising_ok (h3.ext hf1)).mono ?_
  rintro r H2 ⟨rfl, hEq⟩
  obtain rfl := hEq.symm
  cases es : (l.names.all nameT && sortedT l.names)
  · simp (implicitDefEqProofs := false) only [go_sem]
    exact ⟨by rw [hS, es]; rfl, hf1⟩
  have hsp : namedT l = l.rules.all (ruleF l.names) := by rw [hS, es, Bool.true_and]
  simp (implicitDefEqProofs := false) only [go_sem]
  refine vc_loop (fun (j : Nat) H' => j ≤ l.rules.length ∧ ((l.rules.drop j).all (ruleF l.names)) = (l.rules.all (ruleF l.names)) ∧ Fr [] H H' ∧ Fr [] H1 H')
    (fun j => [(1, .pointer (some ⟨H.size, 0, none⟩)), (4, .int .i64 j)]) (fun j => l.rules.length - j) 0 ?_ ?_ ?_
  · exact ⟨Nat.zero_le _, rfl, hf1, Fr.refl _ _⟩
  · simp (implicitDefEqProofs := false) only [go_sem]
  · rintro j H' ⟨hj, hv2, hf, hfn⟩
    have hx := (hn1.ext hfn).cell
    rcases Nat.lt_or_ge j l.rules.length with hlt2 | hge2
    · have hlt2' : (j : Int) < (l.rules.length : Int) := by omega
      have h02 : (0 : Int) ≤ (j : Int) := by omega
      have hw2 := succ_i64 j l.rules.length hlt2 (by omega)
      obtain ⟨b, o, c, vi, e1, p0, p1, hq⟩ := RulesA.at (h5.ext hf) j hlt2
      cases e1
      obtain ⟨ia, ic, rfl, hil, hic⟩ := StrsA.slice hq
      rw [all_drop2 hlt2] at hv2
      simp (implicitDefEqProofs := false) only [go_sem, hlt2', h02, hx, p0, p1, sv]
      refine NewP_intro fun H2' hn2' hf2' hs2' => ?_
      simp (implicitDefEqProofs := false) only [go_sem]
      refine Sto_all hn2' rfl (one2 (Rep.one1 hq) rfl) fun H2 hn2 hf2'' hs2 => ?_
      have hf2 := new_fr hf2' hf2''
      have hc2 := hn2.cell
      have hx2 := (hn1.ext (hfn.trans hf2)).cell
      by_cases i0 : (l.rules[j].ifs.length : Int) = 0
      · have hr : ruleF l.names l.rules[j] = false := by simp [ruleF]; omega
        simp (implicitDefEqProofs := false) only [go_sem, hc2, i0]
        exact ⟨by rw [hsp, ← hv2, hr]; rfl, hf.trans hf2⟩
      simp (implicitDefEqProofs := false) only [go_sem, hc2, i0, hx2]
      refine (rising_ok (hq.ext hf2)).mono ?_
      rintro r H3 ⟨rfl, hEq⟩
      obtain rfl := hEq.symm
      cases eq : (l.rules[j].ifs.all nameT && sortedT l.rules[j].ifs)
      · have hr : ruleF l.names l.rules[j] = false := by rw [ruleF, eq, Bool.false_and, Bool.and_false]
        simp (implicitDefEqProofs := false) only [go_sem]
        exact ⟨by rw [hsp, ← hv2, hr]; rfl, hf.trans hf2⟩
      simp (implicitDefEqProofs := false) only [go_sem, hc2, hx2]
      refine (fin_ok' l.rules[j].thn (h3.ext (hf.trans hf2))).mono ?_
      rintro r H3 ⟨rfl, hEq⟩
      obtain rfl := hEq.symm
      by_cases et : l.rules[j].thn ∈ l.names
      case neg =>
        have hr : ruleF l.names l.rules[j] = false := by rw [ruleF, decide_eq_false et, Bool.false_and, Bool.and_false, Bool.and_false]
        simp (implicitDefEqProofs := false) only [go_sem, et]
        exact ⟨by rw [hsp, ← hv2, hr]; rfl, hf.trans hf2⟩
      have hR : ruleF l.names l.rules[j] = (l.rules[j].ifs.all fun s => decide (s ∈ l.names)) := by
        have : 0 < l.rules[j].ifs.length := by omega
        rw [ruleF, eq, decide_eq_true et, decide_eq_true this, Bool.true_and, Bool.true_and, Bool.true_and]
      rw [hR] at hv2
      simp (implicitDefEqProofs := false) only [go_sem, et]
      refine vc_loop (fun (k : Nat) H' => k ≤ l.rules[j].ifs.length ∧ ((l.rules[j].ifs.drop k).all fun s => decide (s ∈ l.names)) = (l.rules[j].ifs.all fun s => decide (s ∈ l.names)) ∧ H2 = H')
        (fun k => [(1, .pointer (some ⟨H.size, 0, none⟩)), (4, .int .i64 j), (5, .pointer (some ⟨H'.size, 0, none⟩)), (6, .int .i64 k)]) (fun k => l.rules[j].ifs.length - k) 0 ?_ ?_ ?_
      · exact ⟨Nat.zero_le _, rfl, rfl⟩
      · simp (implicitDefEqProofs := false) only [go_sem]
      · rintro k H3 ⟨hk, hv3, rfl⟩
        rcases Nat.lt_or_ge k l.rules[j].ifs.length with hlt3 | hge3
        · have hlt3' : (k : Int) < (l.rules[j].ifs.length : Int) := by omega
          have h03 : (0 : Int) ≤ (k : Int) := by omega
          have hw3 := succ_i64 k l.rules[j].ifs.length hlt3 (by omega)
          obtain ⟨b3, o3, c3, e3, q3⟩ := StrsA.at (hq.ext hf2) k hlt3
          cases e3
          rw [all_drop2 hlt3] at hv3
          simp (implicitDefEqProofs := false) only [go_sem, hlt3', h03, hx2, hc2, q3]
          refine (fin_ok' (l.rules[j].ifs[k]) (h3.ext (hf.trans hf2))).mono ?_
          rintro r H3 ⟨rfl, hEq⟩
          obtain rfl := hEq.symm
          by_cases ei : l.rules[j].ifs[k] ∈ l.names
          · rw [decide_eq_true ei, Bool.true_and] at hv3
            simp (implicitDefEqProofs := false) only [go_sem, ei]
            refine loopK_intro (k + 1) (by show l.rules[j].ifs.length - (k + 1) < l.rules[j].ifs.length - k; omega) ?_ ⟨hlt3, hv3, rfl⟩
            simp (implicitDefEqProofs := false) only [go_sem, hw3]
          · rw [decide_eq_false ei, Bool.false_and] at hv3
            simp (implicitDefEqProofs := false) only [go_sem, ei]
            exact ⟨by rw [hsp, ← hv2, ← hv3]; rfl, hf.trans hf2⟩
        · have hge3' : ¬ (k : Int) < (l.rules[j].ifs.length : Int) := by omega
          rw [List.drop_eq_nil_of_le hge3] at hv3
          simp (implicitDefEqProofs := false) only [go_sem, hge3', hc2]
          refine loopK_intro (j + 1) (by show l.rules.length - (j + 1) < l.rules.length - j; omega) ?_ ⟨hlt2, ?_, hf.trans hf2, hfn.trans hf2⟩
          · simp (implicitDefEqProofs := false) only [go_sem, hw2]
          · rw [← hv2, ← hv3]; rfl
    · have hge2' : ¬ (j : Int) < (l.rules.length : Int) := by omega
      rw [List.drop_eq_nil_of_le hge2] at hv2
      simp (implicitDefEqProofs := false) only [go_sem, hge2', hx]
      exact ⟨by rw [hsp, ← hv2]; rfl, hf⟩

end Go.Proofs.Ytcilkhjadljaaaa
end
section
/- The reference's check: contracts. -/
set_option linter.unusedSimpArgs false
set_option linter.unusedVariables false
set_option maxRecDepth 8000
namespace Go.Proofs.Ytcilkhjadljaaaa
open Gx Go

theorem limT_iff (l : Lt) : limT l = true ↔ ((if l.kind = 6 then 8 else if l.kind = 10 then 12 else 32) < l.names.length ∨ 32 < l.rules.length) := by simp [limT]
theorem rngT_iff (l : Lt) : rngT l = true ↔ (l.hi < l.lo ∨ l.lo < -1000000000 ∨ 1000000000 < l.hi) := by simp [rngT]; omega

set_option maxHeartbeats 2000000 in
theorem fnode_ok {l : Lt} {H : Heap} {cs : List Value} {d n : Nat} (ha : LtA H [] l cs) : HCalls Try.prog 56 #[.agg cs.toArray, .int .i64 d, .int .i64 n] H fun r H' => r = .int .i64 (if 6 < d ∨ 64 ≤ n then 6 else nodeE l) ∧ Fr [] H H' := by
  obtain ⟨vn, vp, vr, rfl, h3, h4, h5⟩ := LtA.open ha
  obtain ⟨na, nc, rfl, hnl, hnc⟩ := StrsA.slice h3
  obtain ⟨ra, rc, rfl, hrl, hrc⟩ := RulesA.slice h5
  refine calls_of_vc (args := [_, _, _]) Try.func56 c56ok (Nat.le_of_ble_eq_true rfl) ?_
  simp (implicitDefEqProofs := false) only [go_sem, c56]
  refine NewP_intro fun H1 hn1 hf1 hs1 => ?_
  have hc1 := hn1.cell
  by_cases k6 : l.kind = 6
  · rw [k6] at ha hn1
    by_cases hd : 6 < d ∨ 64 ≤ n
    case pos =>
      rw [if_pos hd]
      by_cases hd1 : (6 : Int) < (d : Int)
      · simp (implicitDefEqProofs := false) only [go_sem, hc1, k6, hd1]
        exact hf1
      · have hn9 : (64 : Int) ≤ (n : Int) := by omega
        simp (implicitDefEqProofs := false) only [go_sem, hc1, k6, hd1, hn9]
        exact hf1
    rw [if_neg hd]
    have hd1 : ¬ (6 : Int) < (d : Int) := by omega
    have hn1' : ¬ (64 : Int) ≤ (n : Int) := by omega
    simp (implicitDefEqProofs := false) only [go_sem, hc1, k6, hd1, hn1']
    refine (fshape_ok (ha.ext hf1)).mono ?_
    rintro r H2 ⟨rfl, hf2⟩
    have hF2 := hf1.trans hf2
    have hn2 := hn1.ext hf2
    have hc2 := hn2.cell
    cases es : shapeT l
    · have hE : nodeE l = 1 := by simp [nodeE, es]
      simp (implicitDefEqProofs := false) only [go_sem, hE]
      exact hF2
    have hE : nodeE l = or4 (if limT l then 6 else 0) (if spellT l then 0 else 3) (if rngT l then 5 else 0) (if chnT l then 4 else 0) := by simp [nodeE, es]
    by_cases hl1 : (8 : Int) < (l.names.length : Int)
    · have hl : limT l = true := by rw [limT_iff, if_pos k6]; omega
      have hE6 : nodeE l = 6 := by rw [hE, hl]; rfl
      simp (implicitDefEqProofs := false) only [go_sem, hc2, k6, hl1, hE6]
      exact hF2
    by_cases hl2 : (32 : Int) < (l.rules.length : Int)
    · have hl : limT l = true := by rw [limT_iff]; omega
      have hE6 : nodeE l = 6 := by rw [hE, hl]; rfl
      simp (implicitDefEqProofs := false) only [go_sem, hc2, k6, hl1, hl2, hE6]
      exact hF2
    have hl : limT l = false := by
      rw [← Bool.not_eq_true, limT_iff, if_pos k6]; omega
    rw [hl] at hE
    simp (implicitDefEqProofs := false) only [go_sem, hc2, k6, hl1, hl2]
    refine (fnamed_ok (ha.ext hF2)).mono ?_
    rintro r H3 ⟨rfl, hf3⟩
    have hF3 := hF2.trans hf3
    have hc3 := (hn2.ext hf3).cell
    rw [named_spell es]
    cases ep : spellT l
    · have hE3 : nodeE l = 3 := by rw [hE, ep]; rfl
      simp (implicitDefEqProofs := false) only [go_sem, hE3]
      exact hF3
    rw [ep] at hE
    cases er : rngT l
    case true =>
      have hE5 : nodeE l = 5 := by rw [hE, er]; rfl
      rw [rngT_iff] at er
      by_cases r1 : l.hi < l.lo
      · simp (implicitDefEqProofs := false) only [go_sem, hc3, k6, r1, hE5]
        exact hF3
      by_cases r2 : l.lo < -1000000000
      · simp (implicitDefEqProofs := false) only [go_sem, hc3, k6, r1, r2, hE5]
        exact hF3
      have r3 : 1000000000 < l.hi := by omega
      simp (implicitDefEqProofs := false) only [go_sem, hc3, k6, r1, r2, r3, hE5]
      exact hF3
    rw [er] at hE
    have er' : ¬ (l.hi < l.lo ∨ l.lo < -1000000000 ∨ 1000000000 < l.hi) := by rw [← rngT_iff, er]; simp
    have r1 : ¬ l.hi < l.lo := fun h => er' (.inl h)
    have r2 : ¬ l.lo < -1000000000 := fun h => er' (.inr (.inl h))
    have r3 : ¬ 1000000000 < l.hi := fun h => er' (.inr (.inr h))
    have k7 : ¬ l.kind = 7 := by omega
    have hE0 : nodeE l = 0 := by rw [hE, chnT, decide_eq_false k7]; rfl
    simp (implicitDefEqProofs := false) only [go_sem, hc3, k6, r1, r2, r3, hE0]
    exact hF3
  by_cases k10 : l.kind = 10
  · rw [k10] at ha hn1
    by_cases hd : 6 < d ∨ 64 ≤ n
    case pos =>
      rw [if_pos hd]
      by_cases hd1 : (6 : Int) < (d : Int)
      · simp (implicitDefEqProofs := false) only [go_sem, hc1, k6, k10, hd1]
        exact hf1
      · have hn9 : (64 : Int) ≤ (n : Int) := by omega
        simp (implicitDefEqProofs := false) only [go_sem, hc1, k6, k10, hd1, hn9]
        exact hf1
    rw [if_neg hd]
    have hd1 : ¬ (6 : Int) < (d : Int) := by omega
    have hn1' : ¬ (64 : Int) ≤ (n : Int) := by omega
    simp (implicitDefEqProofs := false) only [go_sem, hc1, k6, k10, hd1, hn1']
    refine (fshape_ok (ha.ext hf1)).mono ?_
    rintro r H2 ⟨rfl, hf2⟩
    have hF2 := hf1.trans hf2
    have hn2 := hn1.ext hf2
    have hc2 := hn2.cell
    cases es : shapeT l
    · have hE : nodeE l = 1 := by simp [nodeE, es]
      simp (implicitDefEqProofs := false) only [go_sem, hE]
      exact hF2
    have hE : nodeE l = or4 (if limT l then 6 else 0) (if spellT l then 0 else 3) (if rngT l then 5 else 0) (if chnT l then 4 else 0) := by simp [nodeE, es]
    by_cases hl1 : (12 : Int) < (l.names.length : Int)
    · have hl : limT l = true := by rw [limT_iff, if_neg k6, if_pos k10]; omega
      have hE6 : nodeE l = 6 := by rw [hE, hl]; rfl
      simp (implicitDefEqProofs := false) only [go_sem, hc2, k6, k10, hl1, hE6]
      exact hF2
    by_cases hl2 : (32 : Int) < (l.rules.length : Int)
    · have hl : limT l = true := by rw [limT_iff]; omega
      have hE6 : nodeE l = 6 := by rw [hE, hl]; rfl
      simp (implicitDefEqProofs := false) only [go_sem, hc2, k6, k10, hl1, hl2, hE6]
      exact hF2
    have hl : limT l = false := by
      rw [← Bool.not_eq_true, limT_iff, if_neg k6, if_pos k10]; omega
    rw [hl] at hE
    simp (implicitDefEqProofs := false) only [go_sem, hc2, k6, k10, hl1, hl2]
    refine (fnamed_ok (ha.ext hF2)).mono ?_
    rintro r H3 ⟨rfl, hf3⟩
    have hF3 := hF2.trans hf3
    have hc3 := (hn2.ext hf3).cell
    rw [named_spell es]
    cases ep : spellT l
    · have hE3 : nodeE l = 3 := by rw [hE, ep]; rfl
      simp (implicitDefEqProofs := false) only [go_sem, hE3]
      exact hF3
    rw [ep] at hE
    cases er : rngT l
    case true =>
      have hE5 : nodeE l = 5 := by rw [hE, er]; rfl
      rw [rngT_iff] at er
      by_cases r1 : l.hi < l.lo
      · simp (implicitDefEqProofs := false) only [go_sem, hc3, k6, k10, r1, hE5]
        exact hF3
      by_cases r2 : l.lo < -1000000000
      · simp (implicitDefEqProofs := false) only [go_sem, hc3, k6, k10, r1, r2, hE5]
        exact hF3
      have r3 : 1000000000 < l.hi := by omega
      simp (implicitDefEqProofs := false) only [go_sem, hc3, k6, k10, r1, r2, r3, hE5]
      exact hF3
    rw [er] at hE
    have er' : ¬ (l.hi < l.lo ∨ l.lo < -1000000000 ∨ 1000000000 < l.hi) := by rw [← rngT_iff, er]; simp
    have r1 : ¬ l.hi < l.lo := fun h => er' (.inl h)
    have r2 : ¬ l.lo < -1000000000 := fun h => er' (.inr (.inl h))
    have r3 : ¬ 1000000000 < l.hi := fun h => er' (.inr (.inr h))
    have k7 : ¬ l.kind = 7 := by omega
    have hE0 : nodeE l = 0 := by rw [hE, chnT, decide_eq_false k7]; rfl
    simp (implicitDefEqProofs := false) only [go_sem, hc3, k6, k10, r1, r2, r3, hE0]
    exact hF3
  by_cases hd : 6 < d ∨ 64 ≤ n
  case pos =>
    rw [if_pos hd]
    by_cases hd1 : (6 : Int) < (d : Int)
    · simp (implicitDefEqProofs := false) only [go_sem, hc1, k6, k10, hd1]
      exact hf1
    · have hn9 : (64 : Int) ≤ (n : Int) := by omega
      simp (implicitDefEqProofs := false) only [go_sem, hc1, k6, k10, hd1, hn9]
      exact hf1
  rw [if_neg hd]
  have hd1 : ¬ (6 : Int) < (d : Int) := by omega
  have hn1' : ¬ (64 : Int) ≤ (n : Int) := by omega
  simp (implicitDefEqProofs := false) only [go_sem, hc1, k6, k10, hd1, hn1']
  refine (fshape_ok (ha.ext hf1)).mono ?_
  rintro r H2 ⟨rfl, hf2⟩
  have hF2 := hf1.trans hf2
  have hn2 := hn1.ext hf2
  have hc2 := hn2.cell
  cases es : shapeT l
  · have hE : nodeE l = 1 := by simp [nodeE, es]
    simp (implicitDefEqProofs := false) only [go_sem, hE]
    exact hF2
  have hE : nodeE l = or4 (if limT l then 6 else 0) (if spellT l then 0 else 3) (if rngT l then 5 else 0) (if chnT l then 4 else 0) := by simp [nodeE, es]
  by_cases hl1 : (32 : Int) < (l.names.length : Int)
  · have hl : limT l = true := by rw [limT_iff, if_neg k6, if_neg k10]; omega
    have hE6 : nodeE l = 6 := by rw [hE, hl]; rfl
    simp (implicitDefEqProofs := false) only [go_sem, hc2, k6, k10, hl1, hE6]
    exact hF2
  by_cases hl2 : (32 : Int) < (l.rules.length : Int)
  · have hl : limT l = true := by rw [limT_iff]; omega
    have hE6 : nodeE l = 6 := by rw [hE, hl]; rfl
    simp (implicitDefEqProofs := false) only [go_sem, hc2, k6, k10, hl1, hl2, hE6]
    exact hF2
  have hl : limT l = false := by
    rw [← Bool.not_eq_true, limT_iff, if_neg k6, if_neg k10]; omega
  rw [hl] at hE
  simp (implicitDefEqProofs := false) only [go_sem, hc2, k6, k10, hl1, hl2]
  refine (fnamed_ok (ha.ext hF2)).mono ?_
  rintro r H3 ⟨rfl, hf3⟩
  have hF3 := hF2.trans hf3
  have hc3 := (hn2.ext hf3).cell
  rw [named_spell es]
  cases ep : spellT l
  · have hE3 : nodeE l = 3 := by rw [hE, ep]; rfl
    simp (implicitDefEqProofs := false) only [go_sem, hE3]
    exact hF3
  rw [ep] at hE
  cases er : rngT l
  case true =>
    have hE5 : nodeE l = 5 := by rw [hE, er]; rfl
    rw [rngT_iff] at er
    by_cases r1 : l.hi < l.lo
    · simp (implicitDefEqProofs := false) only [go_sem, hc3, k6, k10, r1, hE5]
      exact hF3
    by_cases r2 : l.lo < -1000000000
    · simp (implicitDefEqProofs := false) only [go_sem, hc3, k6, k10, r1, r2, hE5]
      exact hF3
    have r3 : 1000000000 < l.hi := by omega
    simp (implicitDefEqProofs := false) only [go_sem, hc3, k6, k10, r1, r2, r3, hE5]
    exact hF3
  rw [er] at hE
  have er' : ¬ (l.hi < l.lo ∨ l.lo < -1000000000 ∨ 1000000000 < l.hi) := by rw [← rngT_iff, er]; simp
  have r1 : ¬ l.hi < l.lo := fun h => er' (.inl h)
  have r2 : ¬ l.lo < -1000000000 := fun h => er' (.inr (.inl h))
  have r3 : ¬ 1000000000 < l.hi := fun h => er' (.inr (.inr h))
  by_cases k7 : l.kind = 7
  · have hp := shapeT_seven es k7
    obtain ⟨b, o, c, wn, wp, wr, rfl, p0, p1, p2, p3, p4, p5, hq⟩ := PartsA.at (h4.ext hF3) 0 hp
    simp only [Nat.zero_mul, Nat.add_zero] at p0 p1 p2 p3 p4 p5
    have h0 : (0 : Int) < (l.parts.length : Int) := by omega
    have hh : headC l = chainT (l.parts[0]'hp) := by
      unfold headC
      split
      · rename_i e; simp only [e]; rfl
      · rename_i e; rw [e] at hp; simp at hp
    simp (implicitDefEqProofs := false) only [go_sem, hc3, k7, r1, r2, r3, h0, p0, p1, p2, p3, p4, p5]
    refine (fchain_ok _ hq).mono ?_
    rintro r H4 ⟨rfl, hf4⟩
    cases ec : chainT (l.parts[0]'hp)
    · have hE4 : nodeE l = 4 := by rw [hE, chnT, hh, ec, k7]; rfl
      simp (implicitDefEqProofs := false) only [go_sem, hE4]
      exact hF3.trans hf4
    · have hE4 : nodeE l = 0 := by rw [hE, chnT, hh, ec, k7]; rfl
      simp (implicitDefEqProofs := false) only [go_sem, hE4]
      exact hF3.trans hf4
  have hE0 : nodeE l = 0 := by rw [hE, chnT, decide_eq_false k7]; rfl
  simp (implicitDefEqProofs := false) only [go_sem, hc3, k6, k10, k7, r1, r2, r3, hE0]
  exact hF3

end Go.Proofs.Ytcilkhjadljaaaa
end
section
/- The reference's walk: contracts. -/
set_option linter.unusedSimpArgs false
set_option linter.unusedVariables false
set_option maxRecDepth 8000
namespace Go.Proofs.Ytcilkhjadljaaaa
open Gx Go

set_option maxHeartbeats 2000000 in
theorem fwalk_ok (l : Lt) : ∀ {H : Heap} {cs : List Value} {d n : Nat}, LtA H [] l cs →
    HCalls Try.prog 30 #[.agg cs.toArray, .int .i64 d, .int .i64 n] H fun r H' => (∃ c : Nat, r = .tuple #[.int .i64 c, .int .i64 (visT d n l).1] ∧ ((visT d n l).1 = 0 → c = (visT d n l).2)) ∧ Fr [] H H' := by
  refine ltInd (P := fun l => ∀ {H : Heap} {cs : List Value} {d n : Nat}, LtA H [] l cs →
    HCalls Try.prog 30 #[.agg cs.toArray, .int .i64 d, .int .i64 n] H fun r H' => (∃ c : Nat, r = .tuple #[.int .i64 c, .int .i64 (visT d n l).1] ∧ ((visT d n l).1 = 0 → c = (visT d n l).2)) ∧ Fr [] H H') ?_ l
  intro l ih H cs d n ha
  obtain ⟨vn, vp, vr, rfl, h3, h4, h5⟩ := LtA.open ha
  obtain ⟨pa, pc, rfl, hpl, hpc⟩ := PartsA.slice h4
  refine calls_of_vc (args := [_, _, _]) Try.func30 c30ok (Nat.le_of_ble_eq_true rfl) ?_
  rw [visT_open]
  simp (implicitDefEqProofs := false) only [go_sem, c30]
  refine NewP_intro fun H1 hn1 hf1 hs1 => ?_
  have hc1 := hn1.cell
  simp (implicitDefEqProofs := false) only [go_sem, hc1]
  refine (fnode_ok (d := d) (n := n) (ha.ext hf1)).mono ?_
  rintro r H2 ⟨rfl, hf2⟩
  have hF2 := hf1.trans hf2
  have hn2 := hn1.ext hf2
  by_cases hd : 6 < d ∨ 64 ≤ n
  · rw [if_pos hd, if_pos hd]
    simp (implicitDefEqProofs := false) only [go_sem]
    exact ⟨⟨n, rfl⟩, hF2⟩
  rw [if_neg hd, if_neg hd]
  by_cases e0 : nodeE l = 0
  case neg =>
    rw [if_pos e0]
    simp (implicitDefEqProofs := false) only [go_sem, e0]
    exact ⟨⟨n, rfl⟩, hF2⟩
  have hw0 : IntKind.i64.wrap ((n : Int) + 1) = ((n + 1 : Nat) : Int) := by
    rw [wrap_i64_id _ (by omega) (by omega)]; omega
  have hwd : IntKind.i64.wrap ((d : Int) + 1) = ((d + 1 : Nat) : Int) := by
    rw [wrap_i64_id _ (by omega) (by omega)]; omega
  rw [if_neg (by simpa using e0)]
  simp (implicitDefEqProofs := false) only [go_sem, e0, hw0]
  refine vc_loop (fun (x : Nat × Nat) H' => x.1 ≤ l.parts.length ∧ visTs (d + 1) x.2 (l.parts.drop x.1) = visTs (d + 1) (n + 1) l.parts ∧ Fr [] H H' ∧ Fr [] H2 H')
    (fun x => [(1, .int .i64 d), (3, .pointer (some ⟨H.size, 0, none⟩)), (9, .int .i64 x.2), (10, .int .i64 x.1)]) (fun x => l.parts.length - x.1) (0, n + 1) ?_ ?_ ?_
  · exact ⟨Nat.zero_le _, rfl, hF2, Fr.refl _ _⟩
  · simp (implicitDefEqProofs := false) only [go_sem]
  · rintro ⟨i, m⟩ H' ⟨hi, hv, hF, hF'⟩
    simp only at hi hv ⊢
    have hx := (hn2.ext hF').cell
    rcases Nat.lt_or_ge i l.parts.length with hlt | hge
    · have hlt' : (i : Int) < (l.parts.length : Int) := by omega
      have h0 : (0 : Int) ≤ (i : Int) := by omega
      obtain ⟨bb, o, c, wn, wp, wr, e1, p0, p1, p2, p3, p4, p5, hp⟩ := PartsA.at (h4.ext hF) i hlt
      cases e1
      have hw := succ_i64 i l.parts.length hlt (by omega)
      rw [visTs_drop _ _ hlt] at hv
      simp (implicitDefEqProofs := false) only [go_sem, hlt', h0, hx, p0, p1, p2, p3, p4, p5, hwd]
      refine (ih i hlt (d := d + 1) (n := m) hp).mono ?_
      rintro r H4 ⟨⟨c', rfl, hc'⟩, hf4⟩
      by_cases ev : (visT (d + 1) m l.parts[i]).1 = 0
      · rw [if_neg (by simpa using ev)] at hv
        have := hc' ev
        subst this
        simp (implicitDefEqProofs := false) only [go_sem, ev]
        refine loopK_intro (i + 1, (visT (d + 1) m l.parts[i]).2) (by show l.parts.length - (i + 1) < l.parts.length - i; omega) ?_ ⟨hlt, hv, hF.trans hf4, hF'.trans hf4⟩
        simp (implicitDefEqProofs := false) only [go_sem, hw]
      · rw [if_pos ev] at hv
        simp (implicitDefEqProofs := false) only [go_sem, ev]
        exact ⟨⟨m, by rw [hv], fun h => by rw [← hv] at h; exact absurd h ev⟩, hF.trans hf4⟩
    · have hge' : ¬ (i : Int) < (l.parts.length : Int) := by omega
      rw [List.drop_eq_nil_of_le hge] at hv
      simp (implicitDefEqProofs := false) only [go_sem, hge', hx]
      rw [← hv]
      exact ⟨⟨m, rfl, fun _ => rfl⟩, hF⟩

theorem fcheck_ok {l : Lt} {H : Heap} {cs : List Value} (ha : LtA H [] l cs) : HCalls Try.prog 13 #[.agg cs.toArray] H fun r H' => r = .int .i64 (visT 1 0 l).1 ∧ Fr [] H H' := by
  obtain ⟨vn, vp, vr, rfl, h3, h4, h5⟩ := LtA.open ha
  refine calls_of_vc (args := [_]) Try.func13 c13ok (Nat.le_of_ble_eq_true rfl) ?_
  simp (implicitDefEqProofs := false) only [go_sem, c13]
  refine NewP_intro fun H1 hn1 hf1 hs1 => ?_
  have hc1 := hn1.cell
  simp (implicitDefEqProofs := false) only [go_sem, hc1]
  refine (fwalk_ok l (d := 1) (n := 0) (ha.ext hf1)).mono ?_
  rintro r H2 ⟨⟨c', rfl, hc'⟩, hf2⟩
  simp (implicitDefEqProofs := false) only [go_sem]
  exact hf1.trans hf2

end Go.Proofs.Ytcilkhjadljaaaa
end
section
/- The reference's decoding: contract. -/
set_option linter.unusedSimpArgs false
set_option linter.unusedVariables false
set_option maxRecDepth 8000
namespace Go.Proofs.Ytcilkhjadljaaaa
open Gx Go

/-- What the reference says is what the decoding says. -/
theorem fT_dec (L : Bs) : (if (fT L 6 (some 0)).2 = some L.length ∧ (visT 1 0 (fT L 6 (some 0)).1).1 = 0 then some (fT L 6 (some 0)).1 else none) = decT L := by
  unfold decT
  by_cases h : (fT L 6 (some 0)).2 = some L.length ∧ (visT 1 0 (fT L 6 (some 0)).1).1 = 0
  · have e := fT_rT L 6 (Prod.ext rfl h.1 : fT L 6 (some 0) = ((fT L 6 (some 0)).1, some L.length))
    have e1 : (rT L 6 (some 0)).1 = (fT L 6 (some 0)).1 := by rw [e]
    have e2 : (rT L 6 (some 0)).2 = some L.length := by rw [e]
    rw [if_pos h, if_pos ⟨e2, by rw [e1]; exact h.2⟩, e1]
  · rw [if_neg h]
    by_cases h' : (rT L 6 (some 0)).2 = some L.length ∧ (visT 1 0 (rT L 6 (some 0)).1).1 = 0
    · have e := rT_fT L 6 (Prod.ext rfl h'.1 : rT L 6 (some 0) = ((rT L 6 (some 0)).1, some L.length)) h'.2
      refine absurd ?_ h
      rw [e]
      exact ⟨rfl, h'.2⟩
    · rw [if_neg h']

theorem fdecode_ok {H : Heap} {a : Option Addr} {c : Nat} {L : Bs} (h : BsR H a L) (hl : L.length < 2^38) (hc : L.length ≤ c) (ha : ∀ b' o, a = some ⟨b', o, none⟩ → L ≠ [] → b' < H.size) : HCalls Try.prog 28 #[.slice a L.length c] H fun r H' =>
    ∃ cs, r = .tuple #[.agg cs.toArray, .bool (decT L).isSome] ∧ LtA H' [] ((decT L).getD Lt.zero) cs ∧ Fr [] H H' := by
  refine calls_of_vc (args := [_]) Try.func28 c28ok (Nat.le_of_ble_eq_true rfl) ?_
  simp (implicitDefEqProofs := false) only [go_sem, c28]
  refine NewP_intro fun H1 hn1 hf1 hs1 => ?_
  simp (implicitDefEqProofs := false) only [go_sem]
  refine NewP_intro fun H2 hn2 hf2 hs2 => ?_
  have hr2 : InO H2 H1.size H1.size L (some 0) := by
    refine ⟨0, a, c, by simpa using hn2, (h.ext hf1).ext hf2, fun b' o e hne => ?_, by omega, by omega, by omega, hc⟩
    have := ha b' o e hne; omega
  have hn1' := hn1.ext hf2
  simp (implicitDefEqProofs := false) only [go_sem]
  refine (fread_ok L 6 (by decide) (by omega) hr2).mono ?_
  rintro r H3 ⟨cs, rfl, hd3, hr3, hf3⟩
  have hs3 := hf3.size
  have hn3 := hn1'.fr hf3 (by simp; omega)
  have hdR := fT_dec L
  obtain ⟨t, s', ht⟩ : ∃ t s', fT L 6 (some 0) = (t, s') := ⟨_, _, rfl⟩
  rw [ht] at hdR hd3 hr3
  simp only at hdR hd3 hr3
  rw [← hdR]
  obtain ⟨vn, vp, vr, rfl, _, _, _⟩ := LtA.open hd3.rep
  have hF3 : Fr [] H H3 := (hf1.trans hf2).trans' hf3 (by simp; omega)
  simp (implicitDefEqProofs := false) only [go_sem]
  refine NewP_intro fun H4 hn4 hf4 hs4 => ?_
  simp (implicitDefEqProofs := false) only [go_sem]
  refine Sto_all hn4 rfl (LtA.one6 hd3.rep) fun H5 hn5 hf5 hs5 => ?_
  have hfa := new_fr hf4 hf5
  have hr5 := hr3.ext hfa
  have hF5 := hF3.trans hfa
  have hc5 := hn5.cell
  have hd5 : LtA H5 [] t [.int .i64 t.kind, .int .i64 t.lo, .int .i64 t.hi, vn, vp, vr] := hd3.rep.ext hfa
  have hn5' := hn3.ext hfa
  simp (implicitDefEqProofs := false) only [go_sem]
  refine (iend_o hr5).mono ?_
  rintro r H6 ⟨rfl, hEq⟩
  obtain rfl := hEq.symm
  by_cases hend : s' = some L.length
  case neg =>
    rw [if_neg (fun hc => hend hc.1)]
    simp (implicitDefEqProofs := false) only [go_sem, hc5, hend]
    refine Sto_all hn5' rfl (by simp [Value.oneCell']) fun H8 hn8 hf8 hs8 => ?_
    have hc8 := hn8.cell
    simp (implicitDefEqProofs := false) only [go_sem, hc8]
    exact ⟨_, rfl, zeroA _ _, hF5.trans' hf8 (by simp)⟩
  have hend' : decide (s' = some L.length) = true := by simp [hend]
  simp (implicitDefEqProofs := false) only [go_sem, hc5, hend']
  refine (fcheck_ok hd5).mono ?_
  rintro r H7 ⟨rfl, hf7⟩
  have hn7 := hn5'.ext hf7
  have hc7 := (hn5.ext hf7).cell
  have hd7 := hd5.ext hf7
  by_cases hv : (visT 1 0 t).1 = 0
  · rw [if_pos ⟨hend, hv⟩]
    simp (implicitDefEqProofs := false) only [go_sem, hv, hc7]
    refine Sto_all hn7 rfl (LtA.one6 hd7) fun H8 hn8 hf8 hs8 => ?_
    have hc8 := hn8.cell
    have hd3' : RepP H8 (fun _ => False) t.dat [.int .i64 t.kind, .int .i64 t.lo, .int .i64 t.hi, vn, vp, vr] :=
      ((hd3.ext (B' := fun y => y = H.size) hfa (fun y hy => by left; omega)).ext (B' := fun y => y = H.size) hf7 (fun y hy => .inl hy)).fr hf8 (by simp) (fun y hy => hy.elim)
    simp (implicitDefEqProofs := false) only [go_sem, hc8]
    exact ⟨_, rfl, hd3'.rep, (hF5.trans hf7).trans' hf8 (by simp)⟩
  · rw [if_neg (fun hc => hv hc.2)]
    simp (implicitDefEqProofs := false) only [go_sem, hv, hc7]
    refine Sto_all hn7 rfl (by simp [Value.oneCell']) fun H8 hn8 hf8 hs8 => ?_
    have hc8 := hn8.cell
    simp (implicitDefEqProofs := false) only [go_sem, hc8]
    exact ⟨_, rfl, zeroA _ _, (hF5.trans hf7).trans' hf8 (by simp)⟩
end Go.Proofs.Ytcilkhjadljaaaa
end
section
/- What is read and valid is what was written: plain facts. -/
set_option linter.unusedSimpArgs false
set_option linter.unusedVariables false
set_option maxRecDepth 8000
namespace Go.Proofs.Ytcilkhjadljaaaa
open Gx Go

/-- From one place to another stand exactly these bytes. -/
def Span (L : Bs) (s : Pl) (w : Bs) (q : Nat) : Prop := ∃ p, s = some p ∧ AtL L p w ∧ q = p + w.length
theorem Span.app {L : Bs} {s : Pl} {u v : Bs} {m q : Nat} (h1 : Span L s u m) (h2 : Span L (some m) v q) : Span L s (u ++ v) q := by
  obtain ⟨p, rfl, ⟨r, h3⟩, rfl⟩ := h1
  obtain ⟨p', e, ⟨r', h4⟩, rfl⟩ := h2
  cases e
  refine ⟨p, rfl, ⟨r', ?_⟩, by rw [List.length_append]; omega⟩
  rw [← List.drop_drop, h3, List.drop_left] at h4
  rw [h3, h4, List.append_assoc]
theorem Span.nil (L : Bs) (p : Nat) : Span L (some p) [] p := ⟨p, rfl, ⟨L.drop p, rfl⟩, rfl⟩
theorem enc_len' {l : Bs} {n k : Nat} (h : num l = some (n, k)) : (enc n).length = k := by
  have h1 := num_canon h
  have h2 := (num_bound h).2.2.1
  rw [← h1, List.length_take]; omega
theorem span_num {L : Bs} {p n k : Nat} (h : num (L.drop p) = some (n, k)) : Span L (some p) (enc n) (p + k) := by
  refine ⟨p, rfl, ⟨(L.drop p).drop k, ?_⟩, by rw [enc_len' h]⟩
  rw [← num_canon h, List.take_append_drop]
theorem span_uint {L : Bs} {s : Pl} {n q : Nat} (h : uintO L s = (n, some q)) : Span L s (enc n) q := by
  unfold uintO at h
  split at h
  · split at h
    · rename_i p n' k e
      simp only [Prod.mk.injEq, Option.some.injEq] at h
      obtain ⟨rfl, rfl⟩ := h
      exact span_num e
    · cases h
  · cases h
theorem span_count {L : Bs} {s : Pl} {n q : Nat} (h : countO L s = (n, some q)) : Span L s (enc n) q := by
  unfold countO at h
  split at h
  · split at h
    · rename_i p n' k e
      split at h
      · simp only [Prod.mk.injEq, Option.some.injEq] at h
        obtain ⟨rfl, rfl⟩ := h
        exact span_num e
      · cases h
    · cases h
  · cases h
theorem span_text {L : Bs} {s : Pl} {x : Bs} {q : Nat} (h : bytesO L s = (x, some q)) : Span L s (textB x) q := by
  unfold bytesO at h
  split at h
  · split at h
    · rename_i _ p _ n k e
      split at h
      · rename_i hle
        simp only [Prod.mk.injEq, Option.some.injEq] at h
        obtain ⟨rfl, rfl⟩ := h
        have hl : ((L.drop (p + k)).take n).length = n := by rw [List.length_take, List.length_drop]; omega
        unfold textB
        rw [hl]
        refine (span_num e).app ⟨p + k, rfl, ⟨(L.drop (p + k)).drop n, ?_⟩, by rw [hl]⟩
        rw [List.take_append_drop]
      · cases h
    · cases h
  · cases h
theorem textsO_none' (L : Bs) : ∀ n, (textsO L n none).2 = none
  | 0 => rfl
  | n + 1 => textsO_none' L n
theorem span_some {L : Bs} {s : Pl} {w : Bs} {q : Nat} (h : Span L s w q) : s ≠ none := by
  obtain ⟨p, rfl, _⟩ := h; simp
theorem span_texts {L : Bs} : ∀ (n : Nat) {s : Pl} {l : List Bs} {q : Nat}, s ≠ none → textsO L n s = (l, some q) → Span L s (l.flatMap textB) q ∧ l.length = n
  | 0, s, l, q, _, h => by
    simp only [textsO, Prod.mk.injEq] at h
    obtain ⟨rfl, rfl⟩ := h
    exact ⟨Span.nil L q, rfl⟩
  | n + 1, s, l, q, hs, h => by
    obtain ⟨x, s1, e1⟩ : ∃ x s1, bytesO L s = (x, s1) := ⟨_, _, rfl⟩
    obtain ⟨r, s2, e2⟩ : ∃ r s2, textsO L n s1 = (r, s2) := ⟨_, _, rfl⟩
    simp only [textsO, e1, e2, Prod.mk.injEq] at h
    obtain ⟨rfl, rfl⟩ := h
    cases s1 with
    | none => have := textsO_none' L n; rw [e2] at this; cases this
    | some m =>
      obtain ⟨h2, h3⟩ := span_texts n (by simp) e2
      exact ⟨by rw [List.flatMap_cons]; exact (span_text e1).app h2, by simp [h3]⟩
theorem span_list {L : Bs} {s : Pl} {l : List Bs} {q : Nat} (h : listO L s = (l, some q)) : Span L s (strsB l) q := by
  unfold listO at h
  obtain ⟨n, s1, e1⟩ : ∃ n s1, countO L s = (n, s1) := ⟨_, _, rfl⟩
  rw [e1] at h
  cases s1 with
  | none => have := textsO_none' L n; rw [h] at this; cases this
  | some m =>
    obtain ⟨h2, h3⟩ := span_texts n (by simp) h
    unfold strsB
    rw [h3]
    exact (span_count e1).app h2
theorem span_rules {L : Bs} : ∀ (n : Nat) {s : Pl} {l : List Rl} {q : Nat}, s ≠ none → rulesO L n s = (l, some q) → Span L s (l.flatMap ruleB) q ∧ l.length = n
  | 0, s, l, q, _, h => by
    simp only [rulesO, Prod.mk.injEq] at h
    obtain ⟨rfl, rfl⟩ := h
    exact ⟨Span.nil L q, rfl⟩
  | n + 1, s, l, q, hs, h => by
    obtain ⟨x, s1, e1⟩ : ∃ x s1, listO L s = (x, s1) := ⟨_, _, rfl⟩
    obtain ⟨t, s2, e2⟩ : ∃ t s2, bytesO L s1 = (t, s2) := ⟨_, _, rfl⟩
    simp only [rulesO, e1, e2] at h
    cases s2 with
    | none => simp at h
    | some m =>
      obtain ⟨r, s3, e3⟩ : ∃ r s3, rulesO L n (some m) = (r, s3) := ⟨_, _, rfl⟩
      simp only [e3, Prod.mk.injEq] at h
      obtain ⟨rfl, rfl⟩ := h
      obtain ⟨h2, h3⟩ := span_rules n (by simp) e3
      have h4 := span_text e2
      obtain ⟨m1, rfl, _⟩ := id h4
      refine ⟨?_, by simp [h3]⟩
      rw [List.flatMap_cons]
      exact ((span_list e1).app h4).app h2
theorem span_parts {L : Bs} {f : Pl → Lt × Pl} {k6 : Bool} {P : Lt → Prop} (hf : ∀ {s t q}, P t → f s = (t, some q) → Span L s (encT t) q) : ∀ (n : Nat) {s : Pl} {ns : List Bs} {ps : List Lt} {q : Nat}, (∀ t ∈ ps, P t) → partsO f k6 L n s = (ns, ps, some q) →
    Span L s (encPs k6 ps ns) q ∧ ps.length = n ∧ (if k6 then ns.length = n else ns = [])
  | 0, none, ns, ps, q, _, h => by simp [partsO] at h
  | 0, some p, ns, ps, q, _, h => by
    simp only [partsO, Prod.mk.injEq, Option.some.injEq] at h
    obtain ⟨rfl, rfl, rfl⟩ := h
    refine ⟨Span.nil L p, rfl, ?_⟩
    cases k6 <;> rfl
  | n + 1, none, ns, ps, q, _, h => by simp [partsO] at h
  | n + 1, some p, ns, ps, q, hP, h => by
    simp only [partsO] at h
    cases k6 with
    | false =>
      obtain ⟨t, s1, e1⟩ : ∃ t s1, f (some p) = (t, s1) := ⟨_, _, rfl⟩
      obtain ⟨ns', ps', s2, e2⟩ : ∃ ns' ps' s2, partsO f false L n s1 = (ns', ps', s2) := ⟨_, _, _, rfl⟩
      simp only [Bool.false_eq_true, if_false, e1, e2, Prod.mk.injEq] at h
      obtain ⟨rfl, rfl, rfl⟩ := h
      obtain ⟨h1, h2, h3⟩ := span_parts hf n (fun t ht => hP t (by simp [ht])) e2
      obtain ⟨m, rfl, _⟩ := id h1
      simp only [Bool.false_eq_true, if_false] at h3
      subst h3
      refine ⟨?_, by simp [h2], by simp⟩
      show Span L (some p) (nameB false [] ++ (encT t ++ encPs false ps' [])) q
      exact (hf (hP t (by simp)) e1).app h1
    | true =>
      obtain ⟨x, s0, e0⟩ : ∃ x s0, bytesO L (some p) = (x, s0) := ⟨_, _, rfl⟩
      obtain ⟨t, s1, e1⟩ : ∃ t s1, f s0 = (t, s1) := ⟨_, _, rfl⟩
      obtain ⟨ns', ps', s2, e2⟩ : ∃ ns' ps' s2, partsO f true L n s1 = (ns', ps', s2) := ⟨_, _, _, rfl⟩
      simp only [if_true, e0, e1, e2, Prod.mk.injEq] at h
      obtain ⟨rfl, rfl, rfl⟩ := h
      obtain ⟨h1, h2, h3⟩ := span_parts hf n (fun t ht => hP t (by simp [ht])) e2
      obtain ⟨m, rfl, _⟩ := id h1
      simp only [if_true] at h3
      have h5 := hf (hP t (by simp)) e1
      obtain ⟨m', rfl, _⟩ := id h5
      refine ⟨?_, by simp [h2], by simp [h3]⟩
      show Span L (some p) (textB x ++ (encT t ++ encPs true ps' ns')) q
      exact (span_text e0).app (h5.app h1)

theorem headB_mk (k : Nat) (lo hi : Int) (ns : List Bs) (ps : List Lt) (rs : List Rl) : headB (.mk k lo hi ns ps rs) = enc k ++ (if k = 2 ∨ k = 3 then enc (zig lo) ++ enc (zig hi) else if k = 4 ∨ k = 8 ∨ k = 5 ∨ k = 10 then strsB ns else if k = 6 then enc ns.length else []) := by
  have h : headB (.mk k lo hi ns ps rs) = enc (k : Int).toNat ++ (if (k : Int) = 2 ∨ (k : Int) = 3 then enc (zig lo) ++ enc (zig hi) else if (k : Int) = 4 ∨ (k : Int) = 8 ∨ (k : Int) = 5 ∨ (k : Int) = 10 then strsB ns else if (k : Int) = 6 then enc ns.length else []) := rfl
  have a1 : ((k : Int) = 2 ∨ (k : Int) = 3) ↔ (k = 2 ∨ k = 3) := by omega
  have a2 : ((k : Int) = 4 ∨ (k : Int) = 8 ∨ (k : Int) = 5 ∨ (k : Int) = 10) ↔ (k = 4 ∨ k = 8 ∨ k = 5 ∨ k = 10) := by omega
  have a3 : ((k : Int) = 6) ↔ (k = 6) := by omega
  rw [h, Int.toNat_natCast]
  simp only [a1, a2, a3]
theorem tailB_mk (k : Nat) (lo hi : Int) (ns : List Bs) (ps : List Lt) (rs : List Rl) : tailB (.mk k lo hi ns ps rs) = if k = 10 then enc rs.length ++ rs.flatMap ruleB else [] := by
  have h : tailB (.mk k lo hi ns ps rs) = if (k : Int) = 10 then enc rs.length ++ rs.flatMap ruleB else [] := rfl
  have a3 : ((k : Int) = 10) ↔ (k = 10) := by omega
  rw [h]; simp only [a3]

theorem rT_span (L : Bs) : ∀ (lv : Nat) {s : Pl} {t : Lt} {q d n : Nat}, (visT d n t).1 = 0 → rT L lv s = (t, some q) → Span L s (encT t) q
  | 0, s, t, q, d, n, _, h => by cases h
  | lv + 1, s, t, q, d, n, hv, h => by
    obtain ⟨k, s1, e1⟩ : ∃ k s1, uintO L s = (k, s1) := ⟨_, _, rfl⟩
    simp only [rT, e1] at h
    split at h
    · cases h
    rename_i hk10
    obtain ⟨hd, e2⟩ : ∃ hd, headO L k s1 = hd := ⟨_, rfl⟩
    obtain ⟨pn, pp, s2, e3⟩ : ∃ pn pp s2, partsO (rT L lv) (k == 6) L hd.n hd.s = (pn, pp, s2) := ⟨_, _, _, rfl⟩
    obtain ⟨h6, hnode, hparts⟩ := visT_zero' hv
    obtain ⟨hsh, hlim, hspell, hrng, hchn⟩ := nodeE_zero hnode
    obtain ⟨y1, y2, y3, y4, y5, y6, y7, y8, y9, y10, y11⟩ := shapeT_spec hsh
    clear hsh hlim hspell hrng hchn hnode
    have hrec : ∀ {s t q}, (∃ m, (visT (d + 1) m t).1 = 0) → rT L lv s = (t, some q) → Span L s (encT t) q := fun ⟨m, hm⟩ hr => rT_span L lv hm hr
    -- the head is read as it is written
    have head : ∀ m, hd.s = some m → (k = 6 → hd.names = []) ∧ ∃ w, Span L s (enc k ++ w) m ∧ ((k ≠ 6 → w = if k = 2 ∨ k = 3 then enc (zig hd.lo) ++ enc (zig hd.hi) else if k = 4 ∨ k = 8 ∨ k = 5 ∨ k = 10 then strsB hd.names else []) ∧ (k = 6 → w = enc hd.n)) ∧ (k ≠ 2 → k ≠ 3 → k ≠ 4 → k ≠ 8 → k ≠ 5 → k ≠ 10 → hd.names = []) := by
      intro m hm
      subst e2
      unfold headO at hm ⊢
      by_cases k2 : k = 2 ∨ k = 3
      · rw [if_pos k2] at hm
        simp only [if_pos k2] at hm ⊢
        obtain ⟨a, sa, ea⟩ : ∃ a sa, uintO L s1 = (a, sa) := ⟨_, _, rfl⟩
        obtain ⟨b, sb, eb⟩ : ∃ b sb, uintO L sa = (b, sb) := ⟨_, _, rfl⟩
        simp only [ea, eb] at hm ⊢
        subst hm
        have hb := span_uint eb
        obtain ⟨ma, rfl, _⟩ := id hb
        have ha := span_uint ea
        obtain ⟨m1, rfl, _⟩ := id ha
        refine ⟨by omega, enc a ++ enc b, ?_, ⟨fun _ => ?_, by omega⟩, by omega⟩
        · exact (span_uint e1).app (ha.app hb)
        · rw [zig_zag, zig_zag]
      simp only [if_neg k2] at hm ⊢
      by_cases k4 : k = 4 ∨ k = 8 ∨ k = 10
      · rw [if_pos k4] at hm
        simp only [if_pos k4] at hm ⊢
        have ha := span_list (Prod.ext rfl hm : listO L s1 = ((listO L s1).1, some m))
        obtain ⟨m1, rfl, _⟩ := id ha
        exact ⟨by omega, strsB (listO L (some m1)).1, (span_uint e1).app ha, ⟨fun _ => by rw [if_pos (by omega)], by omega⟩, by omega⟩
      simp only [if_neg k4] at hm ⊢
      by_cases k5 : k = 5
      · rw [if_pos k5] at hm
        simp only [if_pos k5] at hm ⊢
        have ha := span_list (Prod.ext rfl hm : listO L s1 = ((listO L s1).1, some m))
        obtain ⟨m1, rfl, _⟩ := id ha
        exact ⟨by omega, strsB (listO L (some m1)).1, (span_uint e1).app ha, ⟨fun _ => by rw [if_pos (by omega)], by omega⟩, by omega⟩
      simp only [if_neg k5] at hm ⊢
      by_cases k7 : k = 7
      · rw [if_pos k7] at hm
        simp only [if_pos k7] at hm ⊢
        subst hm
        exact ⟨by omega, [], by simpa using span_uint e1, ⟨fun _ => by rw [if_neg (by omega)], by omega⟩, fun _ _ _ _ _ _ => trivial⟩
      simp only [if_neg k7] at hm ⊢
      by_cases k6 : k = 6
      · rw [if_pos k6] at hm
        simp only [if_pos k6] at hm ⊢
        have ha := span_count (Prod.ext rfl hm : countO L s1 = ((countO L s1).1, some m))
        obtain ⟨m1, rfl, _⟩ := id ha
        exact ⟨fun _ => trivial, _, (span_uint e1).app ha, ⟨by omega, fun _ => rfl⟩, fun _ _ _ _ _ _ => trivial⟩
      · rw [if_neg k6] at hm
        simp only [if_neg k6] at hm ⊢
        subst hm
        exact ⟨by omega, [], by simpa using span_uint e1, ⟨fun _ => by rw [if_neg (by omega)], by omega⟩, fun _ _ _ _ _ _ => trivial⟩
    simp only [nodeO, e2, e3] at h
    by_cases k10 : k = 10
    · rw [if_pos k10] at h
      obtain ⟨c, s3, e4⟩ : ∃ c s3, countO L s2 = (c, s3) := ⟨_, _, rfl⟩
      obtain ⟨rs, s4, e5⟩ : ∃ rs s4, rulesO L c s3 = (rs, s4) := ⟨_, _, rfl⟩
      simp only [e4, e5, Prod.mk.injEq] at h
      obtain ⟨rfl, rfl⟩ := h
      simp only [Lt.kind, Lt.lo, Lt.hi, Lt.names, Lt.parts, Lt.rules] at *
      have hs3 : s3 ≠ none := by
        intro e
        subst e
        cases c with
        | zero => simp [rulesO] at e5
        | succ c =>
          have t1 : listO L none = ([], none) := rfl
          simp only [rulesO, t1] at e5
          have t2 : bytesO L none = ([], none) := rfl
          simp only [t2] at e5
          cases e5
      obtain ⟨h7, h8⟩ := span_rules c hs3 e5
      obtain ⟨m3, rfl, _⟩ := id h7
      have h9 := span_count e4
      obtain ⟨m2, rfl, _⟩ := id h9
      obtain ⟨h10, h11, h12⟩ := span_parts (L := L) (P := fun t => ∃ m, (visT (d + 1) m t).1 = 0) hrec hd.n (fun t ht => hparts t ht) e3
      obtain ⟨m1, hm1, _⟩ := id h10
      rw [hm1] at h10
      obtain ⟨_, w, h13, ⟨h14, _⟩, _⟩ := head m1 hm1
      have k6 : (k == 6) = false := by simp; omega
      rw [k6] at h12 h10
      simp only [Bool.false_eq_true, if_false] at h12
      subst h12
      have hw := h14 (by omega)
      rw [if_neg (by omega), if_pos (by omega)] at hw
      have hpp := y7 (by omega)
      subst hpp
      rw [encT_open]
      have hh : headB (.mk k hd.lo hd.hi (hd.names ++ []) [] rs) = enc k ++ w := by
        rw [headB_mk, if_neg (by omega), if_pos (by omega), hw, List.append_nil]
      have ht : tailB (.mk k hd.lo hd.hi (hd.names ++ []) [] rs) = enc rs.length ++ rs.flatMap ruleB := by
        rw [tailB_mk, if_pos (by omega)]
      rw [hh, ht, h8]
      refine h13.app (Span.app (m := m2) ?_ (h9.app h7))
      simpa [encPs, Lt.parts] using h10
    · rw [if_neg k10] at h
      simp only [Prod.mk.injEq] at h
      obtain ⟨rfl, rfl⟩ := h
      simp only [Lt.kind, Lt.lo, Lt.hi, Lt.names, Lt.parts, Lt.rules] at *
      obtain ⟨h10, h11, h12⟩ := span_parts (L := L) (P := fun t => ∃ m, (visT (d + 1) m t).1 = 0) hrec hd.n (fun t ht => hparts t ht) e3
      obtain ⟨m1, hm1, _⟩ := id h10
      rw [hm1] at h10
      obtain ⟨h15, w, h13, ⟨h14, h16⟩, h17⟩ := head m1 hm1
      rw [encT_open]
      have ht : tailB (.mk k hd.lo hd.hi (hd.names ++ pn) pp []) = [] := by
        rw [tailB_mk, if_neg (by omega)]
      rw [ht, List.append_nil]
      by_cases k6 : k = 6
      · have k6' : (k == 6) = true := by simp [k6]
        rw [k6'] at h12 h10
        simp only [if_true] at h12
        have hh : headB (.mk k hd.lo hd.hi (hd.names ++ pn) pp []) = enc k ++ w := by
          rw [headB_mk, if_neg (by omega), if_neg (by omega), if_pos (by omega), h15 k6, List.nil_append, h12, h16 k6]
        rw [hh]
        refine h13.app ?_
        show Span L (some m1) (encPs (decide ((k : Int) = 6)) pp (hd.names ++ pn)) q
        have e : decide ((k : Int) = 6) = true := decide_eq_true (by omega)
        rw [e, h15 k6, List.nil_append]
        exact h10
      · have k6' : (k == 6) = false := by simp [k6]
        rw [k6'] at h12 h10
        simp only [Bool.false_eq_true, if_false] at h12
        subst h12
        have hh : headB (.mk k hd.lo hd.hi (hd.names ++ []) pp []) = enc k ++ w := by
          rw [headB_mk, h14 k6, List.append_nil]
          by_cases k2 : k = 2 ∨ k = 3
          · rw [if_pos (by omega), if_pos k2]
          rw [if_neg (by omega), if_neg k2]
          by_cases k4 : k = 4 ∨ k = 8 ∨ k = 5 ∨ k = 10
          · rw [if_pos (by omega), if_pos k4]
          rw [if_neg (by omega), if_neg k4, if_neg (by omega)]
        rw [hh]
        refine h13.app ?_
        show Span L (some m1) (encPs (decide ((k : Int) = 6)) pp (hd.names ++ [])) q
        have e0 : decide ((k : Int) = 6) = false := decide_eq_false (by omega)
        rw [e0]
        have e : ∀ (ps : List Lt) (a b : List Bs), encPs false ps a = encPs false ps b := by
          intro ps
          induction ps with
          | nil => intro a b; rfl
          | cons p ps ih => intro a b; simp only [encPs]; rw [ih a.tail b.tail]; rfl
        rw [e pp _ []]
        exact h10

end Go.Proofs.Ytcilkhjadljaaaa
end
section
/- What a check without an error says of depths. -/
set_option linter.unusedSimpArgs false
set_option linter.unusedVariables false
set_option maxRecDepth 8000
namespace Go.Proofs.Ytcilkhjadljaaaa
open Gx Go

theorem visT_zero {d n : Nat} {l : Lt} (h : (visT d n l).1 = 0) : d ≤ 6 ∧ nodeE l = 0 ∧ (visTs (d + 1) (n + 1) l.parts).1 = 0 := by
  rw [visT_open] at h
  by_cases h1 : 6 < d ∨ 64 ≤ n
  · rw [if_pos h1] at h; cases h
  rw [if_neg h1] at h
  by_cases h2 : nodeE l = 0
  · rw [if_neg (by simpa using h2)] at h
    exact ⟨by omega, h2, h⟩
  · rw [if_pos h2] at h; exact absurd h h2
theorem visTs_zero : ∀ {ps : List Lt} {d n : Nat}, (visTs d n ps).1 = 0 → ∀ p ∈ ps, ∃ m, (visT d m p).1 = 0
  | [], _, _, _, p, hp => by simp at hp
  | q :: ps, d, n, h, p, hp => by
    simp only [visTs] at h
    by_cases h1 : (visT d n q).1 = 0
    · rw [if_neg (by simpa using h1)] at h
      rcases List.mem_cons.1 hp with rfl | hp
      · exact ⟨n, h1⟩
      · exact visTs_zero h p hp
    · rw [if_pos h1] at h; exact absurd h h1
theorem nodeE_shape {l : Lt} (h : nodeE l = 0) : shapeT l = true := by
  unfold nodeE at h
  cases e : shapeT l
  · rw [e] at h; cases h
  · rfl
theorem depTs_le {k : Nat} : ∀ {ps : List Lt}, (∀ p ∈ ps, depT p ≤ k) → depTs ps ≤ k
  | [], _ => by simp [depTs]
  | p :: ps, h => by
    simp only [depTs]
    exact Nat.max_le.2 ⟨h p (by simp), depTs_le fun q hq => h q (by simp [hq])⟩
theorem vis_depth (l : Lt) : ∀ {d n : Nat}, (visT d n l).1 = 0 → d + depT l ≤ 7 := by
  refine ltInd (P := fun l => ∀ {d n : Nat}, (visT d n l).1 = 0 → d + depT l ≤ 7) ?_ l
  intro l ih d n h
  obtain ⟨h1, h2, h3⟩ := visT_zero h
  rw [depT_open]
  have : depTs l.parts ≤ 6 - d := depTs_le fun p hp => by
    obtain ⟨j, hj, rfl⟩ := List.getElem_of_mem hp
    obtain ⟨m, hm⟩ := visTs_zero h3 _ hp
    have := ih j hj hm
    omega
  omega
end Go.Proofs.Ytcilkhjadljaaaa
end
section
/- How long the encoding of a valid description can be; that encodings part. -/
set_option linter.unusedSimpArgs false
set_option linter.unusedVariables false
set_option maxRecDepth 8000
namespace Go.Proofs.Ytcilkhjadljaaaa
open Gx Go

theorem less_irrefl : ∀ a : Bs, Op.bytesLess a a = false
  | [] => by simp [Op.bytesLess]
  | x :: a => by simp [Op.bytesLess, less_irrefl a]
theorem less_trans : ∀ {a b c : Bs}, Op.bytesLess a b = true → Op.bytesLess b c = true → Op.bytesLess a c = true
  | [], b, [], h, k => by cases b <;> simp [Op.bytesLess] at k
  | [], b, z :: c, h, k => by simp [Op.bytesLess]
  | x :: a, [], c, h, k => by simp [Op.bytesLess] at h
  | x :: a, y :: b, [], h, k => by simp [Op.bytesLess] at k
  | x :: a, y :: b, z :: c, h, k => by
    simp only [Op.bytesLess, Bool.or_eq_true, Bool.and_eq_true, decide_eq_true_eq, beq_iff_eq] at h k ⊢
    rcases h with h | ⟨h, h'⟩ <;> rcases k with k | ⟨k, k'⟩
    · exact .inl (UInt8.lt_trans h k)
    · subst k; exact .inl h
    · subst h; exact .inl k
    · subst h; subst k; exact .inr ⟨rfl, less_trans h' k'⟩
theorem sorted_head : ∀ {l : List Bs} {a : Bs}, sortedT (a :: l) = true → ∀ b ∈ l, ltB a b = true
  | [], a, _, b, hb => by cases hb
  | c :: l, a, h, b, hb => by
    simp only [sortedT, Bool.and_eq_true] at h
    rcases List.mem_cons.1 hb with rfl | hb
    · exact h.1
    · exact less_trans h.1 (sorted_head h.2 b hb)
theorem sorted_tail {l : List Bs} {a : Bs} (h : sortedT (a :: l) = true) : sortedT l = true := by
  cases l with
  | nil => rfl
  | cons b l => simp only [sortedT, Bool.and_eq_true] at h; exact h.2
theorem sorted_sub : ∀ (l m : List Bs), sortedT l = true → (∀ x ∈ l, x ∈ m) → l.length ≤ m.length
  | [], m, _, _ => Nat.zero_le _
  | a :: l, m, h, hs => by
    have ha : a ∈ m := hs a (by simp)
    have := sorted_sub l (m.erase a) (sorted_tail h) (fun x hx => by
      have hne : x ≠ a := by
        rintro rfl
        have := sorted_head h _ hx
        unfold ltB at this
        rw [less_irrefl] at this; cases this
      exact (List.mem_erase_of_ne hne).2 (hs x (by simp [hx])))
    rw [List.length_erase_of_mem ha] at this
    have := List.length_pos_of_mem ha
    simp only [List.length_cons]; omega

theorem nmF_mem {k6 : Bool} : ∀ {l s : List Bs}, nmF k6 s l = true → ∀ x ∈ l, nameT x = true
  | [], s, _, x, hx => by cases hx
  | y :: l, s, h, x, hx => by
    simp only [nmF, Bool.and_eq_true] at h
    rcases List.mem_cons.1 hx with rfl | hx
    · exact h.1
    · exact nmF_mem h.2.2 x hx
theorem nameT_len {s : Bs} (h : nameT s = true) : s.length ≤ 16 := by
  simp only [nameT, Bool.and_eq_true, decide_eq_true_eq] at h
  exact h.2.1
theorem textB_le {s : Bs} (h : s.length ≤ 16) : (textB s).length ≤ 17 := by
  have := len_enc (n := s.length) (f := 1) (by omega) (Nat.le_refl _)
  unfold textB; rw [List.length_append]; omega
theorem flat_le {α : Type} {f : α → Bs} {c : Nat} : ∀ {l : List α}, (∀ x ∈ l, (f x).length ≤ c) → (l.flatMap f).length ≤ l.length * c
  | [], _ => by simp
  | x :: l, h => by
    have h1 := flat_le (l := l) fun y hy => h y (by simp [hy])
    have h2 := h x (by simp)
    rw [List.flatMap_cons, List.length_append, List.length_cons, Nat.add_mul]; omega
theorem strsB_le {l : List Bs} (h : ∀ x ∈ l, nameT x = true) (hl : l.length ≤ 32) : (strsB l).length ≤ 545 := by
  have h1 := flat_le (f := textB) (c := 17) (l := l) fun x hx => textB_le (nameT_len (h x hx))
  have h2 := len_enc (n := l.length) (f := 1) (by omega) (Nat.le_refl _)
  unfold strsB; rw [List.length_append]; omega

def nodeLen : Nat := 20000
theorem enc_le10 (n : Nat) (h : n < 2^64) : (enc n).length ≤ 10 := len_enc (Nat.lt_of_lt_of_le h (by decide)) (by decide)
/-- What one node itself adds: its head, its names, its rules. -/
theorem node_le {t : Lt} (h : nodeE t = 0) : (headB t).length + (t.names.flatMap textB).length + (tailB t).length ≤ nodeLen ∧ ∀ x ∈ t.names, nameT x = true := by
  obtain ⟨hsh, hlim, hsp, hrng, _⟩ := nodeE_zero h
  obtain ⟨s1, s2, s3, _⟩ := shapeT_spec hsh
  replace hlim := of_decide_eq_false hlim
  replace hrng := of_decide_eq_false hrng
  simp only [spellT, Bool.and_eq_true] at hsp
  obtain ⟨h1, h2, h3⟩ := hsp
  have hnm := nmF_mem h1
  have hnl : t.names.length ≤ 32 := by
    revert hlim
    repeat' split
    all_goals (intro hlim; omega)
  have hrl : t.rules.length ≤ 32 := by omega
  refine ⟨?_, hnm⟩
  have e1 := enc_le10 t.kind.toNat (by omega)
  have e2 := enc_le10 (zig t.lo) (by unfold zig; split <;> omega)
  have e3 := enc_le10 (zig t.hi) (by unfold zig; split <;> omega)
  have e4 := strsB_le hnm hnl
  have e5 := enc_le10 t.names.length (by omega)
  have e6 := flat_le (f := textB) (c := 17) (l := t.names) fun x hx => textB_le (nameT_len (hnm x hx))
  have hh : (headB t).length ≤ 555 := by
    unfold headB
    rw [List.length_append]
    repeat' split
    all_goals (try simp only [List.length_append, List.length_nil]); (try omega)
  have ht : (tailB t).length ≤ 18500 := by
    unfold tailB
    split
    · have hr : ∀ r ∈ t.rules, (ruleB r).length ≤ 562 := by
        intro r hr
        have := List.all_eq_true.1 h3 r hr
        simp only [ruleT, Bool.and_eq_true, decide_eq_true_eq, List.all_eq_true] at this
        obtain ⟨r1, r2, r3, r4⟩ := this
        have hi : ∀ x ∈ r.ifs, x ∈ t.names := r3
        have a1 := sorted_sub r.ifs t.names r2 hi
        have a2 := strsB_le (fun x hx => hnm x (hi x hx)) (by omega : r.ifs.length ≤ 32)
        have a3 := textB_le (nameT_len (hnm r.thn r4))
        unfold ruleB; rw [List.length_append]; omega
      have b1 := flat_le hr
      have b2 := enc_le10 t.rules.length (by omega)
      rw [List.length_append]
      have : t.rules.length * 562 ≤ 32 * 562 := Nat.mul_le_mul_right _ hrl
      omega
    · simp
  have : t.names.length * 17 ≤ 32 * 17 := Nat.mul_le_mul_right _ hnl
  unfold nodeLen
  omega

theorem encPs_split (k6 : Bool) : ∀ (ps : List Lt) (ns : List Bs), (encPs k6 ps ns).length ≤ (ns.flatMap textB).length + (ps.map fun p => (encT p).length).sum
  | [], ns => by simp [encPs]
  | p :: ps, ns => by
    have h1 := encPs_split k6 ps ns.tail
    simp only [encPs, List.length_append, List.map_cons, List.sum_cons]
    have h2 : (nameB k6 ns).length + (ns.tail.flatMap textB).length ≤ (ns.flatMap textB).length := by
      cases ns with
      | nil => cases k6 <;> simp [nameB]
      | cons n ns => cases k6 <;> simp [nameB]
    omega

/-- A valid description: its encoding's length goes by its nodes. -/
theorem enc_len (t : Lt) : ∀ {d n : Nat}, (visT d n t).1 = 0 → (encT t).length + n * nodeLen ≤ (visT d n t).2 * nodeLen ∧ n < (visT d n t).2 ∧ (visT d n t).2 ≤ 64 ∧ okT t := by
  refine ltInd (P := fun t => ∀ {d n : Nat}, (visT d n t).1 = 0 → (encT t).length + n * nodeLen ≤ (visT d n t).2 * nodeLen ∧ n < (visT d n t).2 ∧ (visT d n t).2 ≤ 64 ∧ okT t) ?_ t
  intro t ih d n hv
  obtain ⟨h6, hnode, hparts⟩ := visT_zero' hv
  obtain ⟨hlen, _⟩ := node_le hnode
  obtain ⟨hsh, hlim, hsp, hrng, _⟩ := nodeE_zero hnode
  obtain ⟨s1, s2, s3, _⟩ := shapeT_spec hsh
  replace hrng := of_decide_eq_false hrng
  rw [visT_open] at hv ⊢
  have h1 : ¬ (6 < d ∨ 64 ≤ n) := by
    intro hc; rw [if_pos hc] at hv; cases hv
  rw [if_neg h1, if_neg (by simpa using hnode)] at hv
  rw [if_neg h1, if_neg (by simpa using hnode)]
  have key : ∀ (ps : List Lt) (m : Nat), (∀ p ∈ ps, ∀ {d n : Nat}, (visT d n p).1 = 0 → (encT p).length + n * nodeLen ≤ (visT d n p).2 * nodeLen ∧ n < (visT d n p).2 ∧ (visT d n p).2 ≤ 64 ∧ okT p) → m ≤ 64 → (visTs (d + 1) m ps).1 = 0 →
      (ps.map fun p => (encT p).length).sum + m * nodeLen ≤ (visTs (d + 1) m ps).2 * nodeLen ∧ m ≤ (visTs (d + 1) m ps).2 ∧ (visTs (d + 1) m ps).2 ≤ 64 ∧ okTs ps := by
    intro ps
    induction ps with
    | nil => intro m _ hm _; simp [visTs, okTs, hm]
    | cons p ps ihp =>
      intro m hp hm hz
      simp only [visTs] at hz ⊢
      by_cases e : (visT (d + 1) m p).1 = 0
      · rw [if_neg (by simpa using e)] at hz
        rw [if_neg (by simpa using e)]
        obtain ⟨a1, a2, a3, a4⟩ := hp p (by simp) e
        obtain ⟨b1, b2, b3, b4⟩ := ihp _ (fun q hq => hp q (by simp [hq])) a3 hz
        simp only [List.map_cons, List.sum_cons, okTs]
        exact ⟨by omega, by omega, b3, a4, b4⟩
      · rw [if_pos e] at hz; exact absurd hz e
  obtain ⟨c1, c2, c3, c4⟩ := key t.parts (n + 1) (fun p hp => by
    obtain ⟨j, hj, rfl⟩ := List.getElem_of_mem hp
    exact ih j hj) (by omega) hv
  refine ⟨?_, by omega, c3, (okT_open t).2 ⟨by omega, c4⟩⟩
  rw [encT_open]
  simp only [List.length_append]
  have := encPs_split (decide (t.kind = 6)) t.parts t.names
  rw [Nat.add_mul, Nat.one_mul] at c1
  omega

theorem enc_small {t : Lt} (h : (visT 1 0 t).1 = 0) : okT t ∧ (encT t).length ≤ 1280000 := by
  obtain ⟨h1, _, h3, h4⟩ := enc_len t h
  refine ⟨h4, ?_⟩
  have : (visT 1 0 t).2 * nodeLen ≤ 64 * nodeLen := Nat.mul_le_mul_right _ h3
  unfold nodeLen at *
  omega

/-- None is a part of another at its beginning. -/
theorem enc_apart {a b : Lt} (ha : (visT 1 0 a).1 = 0) (hb : (visT 1 0 b).1 = 0) (h : (encT a).take (min (encT a).length (encT b).length) = (encT b).take (min (encT a).length (encT b).length)) : a = b := by
  have h1 := (enc_small ha).2
  have h2 := (enc_small hb).2
  have d1 := vis_depth a ha
  have d2 := vis_depth b hb
  rcases Nat.le_total (encT a).length (encT b).length with hl | hl
  · rw [Nat.min_eq_left hl, List.take_length] at h
    have e1 := rT_at (L := encT b) (by omega) b (lv := 6) (p := 0) hb (by omega) ⟨[], by simp⟩
    have e2 := rT_at (L := encT b) (by omega) a (lv := 6) (p := 0) ha (by omega) ⟨(encT b).drop (encT a).length, by
      rw [List.drop_zero]
      exact ((List.take_append_drop (encT a).length (encT b)).symm.trans (by rw [← h]))⟩
    rw [e1] at e2
    exact (congrArg Prod.fst e2).symm
  · rw [Nat.min_eq_right hl, List.take_length] at h
    have e1 := rT_at (L := encT a) (by omega) a (lv := 6) (p := 0) ha (by omega) ⟨[], by simp⟩
    have e2 := rT_at (L := encT a) (by omega) b (lv := 6) (p := 0) hb (by omega) ⟨(encT a).drop (encT b).length, by
      rw [List.drop_zero]
      exact ((List.take_append_drop (encT b).length (encT a)).symm.trans (by rw [h]))⟩
    rw [e1] at e2
    exact congrArg Prod.fst e2
end Go.Proofs.Ytcilkhjadljaaaa
end
section
/- The package awake: contract. -/
set_option linter.unusedSimpArgs false
set_option linter.unusedVariables false
set_option maxRecDepth 8000
namespace Go.Proofs.Ytcilkhjadljaaaa
open Gx Go

def awN : Lt := .mk 2 0 9 [] [] []
def awS : Lt := .mk 4 0 0 [] [] []
def awX : Lt := .mk 7 0 0 [] [awN, awS] []
def awC : Lt := .mk 1 0 0 [] [] []
def awP : Lt := .mk 6 0 0 [[98], [97]] [awC, awS] []
abbrev cells6 (k lo hi : Int) : List Value := [.int .i64 k, .int .i64 lo, .int .i64 hi, .slice none 0 0, .slice none 0 0, .slice none 0 0]

theorem parts2 {H : Heap} {b t : Nat} {x y : Lt} {c1 c2 : List Value} (h : Blk H b t (c1 ++ c2)) (h1 : LtA H [] x c1) (h2 : LtA H [] y c2) (l1 : c1.length = 6) (l2 : c2.length = 6) : PartsA H [] [x, y] (.slice (some ⟨b, 0, none⟩) 2 2) := by
  show Rep H [] (.list 6 [x.dat, y.dat]) _
  simp only [Rep, Reps]
  refine ⟨some ⟨b, 0, none⟩, 2, [c1, c2], rfl, Nat.le_refl _, by decide, ⟨c1, [c2], rfl, h1, c2, [], rfl, h2, rfl⟩, by simp [l1, l2], .inr ⟨b, 0, rfl, by simp, fun j hj => ?_⟩⟩
  rw [h.cell, Nat.zero_add]
  simp only [List.flatten_cons, List.flatten_nil, List.append_nil] at hj ⊢
  rw [List.getElem?_eq_getElem hj]
theorem strs2 {H : Heap} {b t : Nat} {x y : Bs} (h : Blk H b t [sv x, sv y]) : StrsA H [] [x, y] (.slice (some ⟨b, 0, none⟩) 2 2) := by
  show Rep H [] (.list 1 [strD x, strD y]) _
  simp only [Rep, Reps, strD]
  refine ⟨some ⟨b, 0, none⟩, 2, [[sv x], [sv y]], rfl, Nat.le_refl _, by decide, ⟨_, _, rfl, rfl, _, _, rfl, rfl, rfl⟩, by simp, .inr ⟨b, 0, rfl, by simp, fun j hj => ?_⟩⟩
  rw [h.cell, Nat.zero_add]
  simp only [List.flatten_cons, List.flatten_nil, List.append_nil, List.cons_append, List.nil_append] at hj ⊢
  rw [List.getElem?_eq_getElem hj]

set_option maxHeartbeats 4000000 in
theorem awake_ok (H : Heap) : HCalls Try.prog 11 #[] H fun v H' => v = .bool true ∧ Fr [] H H' := by
  refine calls_of_vc (args := []) Try.func11 c11ok (Nat.le_of_ble_eq_true rfl) ?_
  have hfr := Fr.refl [] H
  simp (implicitDefEqProofs := false) only [go_sem, c11]
  refine NewP_intro fun Ha1 hna1 hfa1 hsa1 => ?_
  simp (implicitDefEqProofs := false) only [go_sem]
  refine Sto_all hna1 rfl (by simp [Value.oneCell']) fun Hb1 b1 hfb1 hsb1 => ?_
  have hfab1 := new_fr hfa1 hfb1
  replace hfr := hfr.trans hfab1
  simp (implicitDefEqProofs := false) only [go_sem, b1.cell]
  refine NewP_intro fun Ha2 hna2 hfa2 hsa2 => ?_
  simp (implicitDefEqProofs := false) only [go_sem]
  refine Sto_all hna2 rfl (by simp [Value.oneCell']) fun Hb2 b2 hfb2 hsb2 => ?_
  have hfab2 := new_fr hfa2 hfb2
  replace b1 := b1.ext hfab2
  replace hfr := hfr.trans hfab2
  simp (implicitDefEqProofs := false) only [go_sem, b1.cell, b2.cell]
  refine NewS_intro fun Ha3 px hfa3 hsa3 => ?_
  replace b1 := b1.ext hfa3
  replace b2 := b2.ext hfa3
  replace hfr := hfr.trans hfa3
  simp (implicitDefEqProofs := false) only [go_sem]
  refine NewP_intro fun Ha4 hna4 hfa4 hsa4 => ?_
  simp (implicitDefEqProofs := false) only [go_sem]
  refine Sto_all hna4 rfl (by simp [Value.oneCell']) fun Hb4 b3 hfb4 hsb4 => ?_
  have hfab4 := new_fr hfa4 hfb4
  replace b1 := b1.ext hfab4
  replace b2 := b2.ext hfab4
  replace px := px.ext hfab4
  replace hfr := hfr.trans hfab4
  simp (implicitDefEqProofs := false) only [go_sem, b1.cell, b2.cell]
  refine NewS_intro fun Ha5 pn hfa5 hsa5 => ?_
  replace b1 := b1.ext hfa5
  replace b2 := b2.ext hfa5
  replace px := px.ext hfa5
  replace b3 := b3.ext hfa5
  replace hfr := hfr.trans hfa5
  simp (implicitDefEqProofs := false) only [go_sem, b2.cell]
  refine NewS_intro fun Ha6 pp hfa6 hsa6 => ?_
  replace b1 := b1.ext hfa6
  replace b2 := b2.ext hfa6
  replace px := px.ext hfa6
  replace b3 := b3.ext hfa6
  replace pn := pn.ext hfa6
  replace hfr := hfr.trans hfa6
  simp (implicitDefEqProofs := false) only [go_sem]
  refine NewP_intro fun Ha7 hna7 hfa7 hsa7 => ?_
  simp (implicitDefEqProofs := false) only [go_sem]
  refine Sto_all hna7 rfl (by simp [Value.oneCell']) fun Hb7 b4 hfb7 hsb7 => ?_
  have hfab7 := new_fr hfa7 hfb7
  replace b1 := b1.ext hfab7
  replace b2 := b2.ext hfab7
  replace px := px.ext hfab7
  replace b3 := b3.ext hfab7
  replace pn := pn.ext hfab7
  replace pp := pp.ext hfab7
  replace hfr := hfr.trans hfab7
  simp (implicitDefEqProofs := false) only [go_sem, b4.cell]
  have dN : LtA _ [] awN (cells6 2 0 9) := bareA Hb7 [] 2 0 9
  have dS : LtA _ [] awS (cells6 4 0 0) := bareA Hb7 [] 4 0 0
  have dX : LtA _ [] awX _ := LtA.mk (l := awX) (nilA Hb7 [] 1) (parts2 (c1 := cells6 2 0 9) (c2 := cells6 4 0 0) (x := awN) (y := awS) px (bareA _ _ _ _ _) (bareA _ _ _ _ _) rfl rfl) (nilA Hb7 [] 2)
  have dP : LtA _ [] awP _ := LtA.mk (l := awP) (strs2 pn) (parts2 (c1 := cells6 1 0 0) (c2 := cells6 4 0 0) (x := awC) (y := awS) pp (bareA _ _ _ _ _) (bareA _ _ _ _ _) rfl rfl) (nilA Hb7 [] 2)
  have eF : fieldT awP [97] = (awS, true) := rfl
  refine (field_ok (s := [97]) dP).mono ?_
  rintro r Hc8 ⟨⟨cs, rfl, dF⟩, hfc8⟩
  replace b1 := b1.ext hfc8
  replace b2 := b2.ext hfc8
  replace b3 := b3.ext hfc8
  replace dN := dN.ext hfc8
  replace dS := dS.ext hfc8
  replace dX := dX.ext hfc8
  replace dP := dP.ext hfc8
  replace hfr := hfr.trans hfc8
  rw [eF] at dF ⊢
  simp only at dF ⊢
  obtain ⟨fn, fp, frr, rfl, f3, f4, f5⟩ := LtA.open dF
  simp (implicitDefEqProofs := false) only [go_sem]
  refine NewP_intro fun Ha9 hna9 hfa9 hsa9 => ?_
  simp (implicitDefEqProofs := false) only [go_sem]
  refine Sto_all hna9 rfl (LtA.one6 dF) fun Hb9 b5 hfb9 hsb9 => ?_
  have hfab9 := new_fr hfa9 hfb9
  replace b1 := b1.ext hfab9
  replace b2 := b2.ext hfab9
  replace b3 := b3.ext hfab9
  replace dN := dN.ext hfab9
  replace dS := dS.ext hfab9
  replace dX := dX.ext hfab9
  replace dP := dP.ext hfab9
  replace dF := dF.ext hfab9
  replace hfr := hfr.trans hfab9
  simp (implicitDefEqProofs := false) only [go_sem]
  refine NewS_intro fun Ha10 pb hfa10 hsa10 => ?_
  replace b1 := b1.ext hfa10
  replace b2 := b2.ext hfa10
  replace b3 := b3.ext hfa10
  replace dN := dN.ext hfa10
  replace dS := dS.ext hfa10
  replace dX := dX.ext hfa10
  replace dP := dP.ext hfa10
  replace dF := dF.ext hfa10
  replace b5 := b5.ext hfa10
  replace hfr := hfr.trans hfa10
  simp (implicitDefEqProofs := false) only [go_sem]
  have hB : BsR _ (some ⟨Hb9.size, 0, none⟩) [2, 0, 18] := (Own.of_blk (n := 3) (e := 5) pb (by simp) (by decide) : Own _ 5 1 (.slice _ [(2 : UInt8), 0, 18].length 3) [(2 : UInt8), 0, 18].length ([2, 0, 18].map bv) _).bsR
  refine (decode_two (c := 3) hB).mono ?_
  rintro r Hc11 ⟨cs2, rfl, dD, hfc11⟩
  obtain ⟨dn, dp, dr, rfl, _, _, _⟩ := LtA.open dD
  simp only [Lt.kind, Lt.lo, Lt.hi] at dD ⊢
  replace b1 := b1.ext hfc11
  replace b2 := b2.ext hfc11
  replace b3 := b3.ext hfc11
  replace dN := dN.ext hfc11
  replace dS := dS.ext hfc11
  replace dX := dX.ext hfc11
  replace dP := dP.ext hfc11
  replace dF := dF.ext hfc11
  replace b5 := b5.ext hfc11
  replace pb := pb.ext hfc11
  replace hfr := hfr.trans hfc11
  simp (implicitDefEqProofs := false) only [go_sem]
  refine NewP_intro fun Ha12 hna12 hfa12 hsa12 => ?_
  simp (implicitDefEqProofs := false) only [go_sem]
  refine Sto_all hna12 rfl (LtA.one6 (l := .mk 2 0 9 [] [] []) dD) fun Hb12 b7 hfb12 hsb12 => ?_
  have hfab12 := new_fr hfa12 hfb12
  replace b1 := b1.ext hfab12
  replace b2 := b2.ext hfab12
  replace b3 := b3.ext hfab12
  replace dN := dN.ext hfab12
  replace dD := dD.ext hfab12
  replace dS := dS.ext hfab12
  replace dX := dX.ext hfab12
  replace dP := dP.ext hfab12
  replace dF := dF.ext hfab12
  replace b5 := b5.ext hfab12
  replace pb := pb.ext hfab12
  replace hfr := hfr.trans hfab12
  simp (implicitDefEqProofs := false) only [go_sem, b1.cell]
  have eE : encT awN = [2, 0, 18] := by decide
  refine (encode_ok dN (by simp [awN, okT, okTs]) (by rw [eE]; decide)).mono ?_
  rintro r He ⟨ae, ce, ge, rfl, hoe, hge, hfe⟩
  rw [eE] at hoe ⊢
  have hbe := hoe.bsR.b2s ce
  simp only [List.length_cons, List.length_nil, Nat.reduceAdd] at hbe ⊢
  replace b1 := b1.ext hfe
  replace b2 := b2.ext hfe
  replace b3 := b3.ext hfe
  replace dN := dN.ext hfe
  replace dD := dD.ext hfe
  replace dS := dS.ext hfe
  replace dX := dX.ext hfe
  replace dP := dP.ext hfe
  replace dF := dF.ext hfe
  replace b5 := b5.ext hfe
  replace pb := pb.ext hfe
  replace b7 := b7.ext hfe
  replace hfr := hfr.trans hfe
  simp (implicitDefEqProofs := false) only [go_sem, hbe, ba_eq]
  have v1 : (visT 1 0 (.mk 2 3 2 [] [] [])).1 = 5 := by decide
  have v2 : chainT awN = true := by decide
  have v3 : chainT awX = false := by decide
  have v4 : finT awN = true := by decide
  have v5 : finT awX = false := by decide
  have v6 : disT awX = true := by decide
  have v7 : depT awX = 2 := by decide
  have v8 : awS.kind = 4 := rfl
  have v9 : eqT awN awN = true := by decide
  have v10 : eqT awN awS = false := by decide
  have v11 : (visT 1 0 (.mk 7 0 0 [] [awS, awN] [])).1 = 4 := by decide
  refine (check_ok (bareA _ [] 2 3 2)).mono ?_
  rintro r Hc21 ⟨rfl, hfc21⟩
  replace b1 := b1.ext hfc21
  replace b2 := b2.ext hfc21
  replace b3 := b3.ext hfc21
  replace dN := dN.ext hfc21
  replace dD := dD.ext hfc21
  replace dS := dS.ext hfc21
  replace dX := dX.ext hfc21
  replace dP := dP.ext hfc21
  replace dF := dF.ext hfc21
  replace b5 := b5.ext hfc21
  replace pb := pb.ext hfc21
  replace b7 := b7.ext hfc21
  replace hfr := hfr.trans hfc21
  simp (implicitDefEqProofs := false) only [go_sem, v1, b1.cell]
  refine (chain_ok awN dN).mono ?_
  rintro r Hc22 ⟨rfl, hfc22⟩
  replace b1 := b1.ext hfc22
  replace b2 := b2.ext hfc22
  replace b3 := b3.ext hfc22
  replace dN := dN.ext hfc22
  replace dD := dD.ext hfc22
  replace dS := dS.ext hfc22
  replace dX := dX.ext hfc22
  replace dP := dP.ext hfc22
  replace dF := dF.ext hfc22
  replace b5 := b5.ext hfc22
  replace pb := pb.ext hfc22
  replace b7 := b7.ext hfc22
  replace hfr := hfr.trans hfc22
  simp (implicitDefEqProofs := false) only [go_sem, v2, b3.cell]
  refine (chain_ok awX dX).mono ?_
  rintro r Hc23 ⟨rfl, hfc23⟩
  replace b1 := b1.ext hfc23
  replace b2 := b2.ext hfc23
  replace b3 := b3.ext hfc23
  replace dN := dN.ext hfc23
  replace dD := dD.ext hfc23
  replace dS := dS.ext hfc23
  replace dX := dX.ext hfc23
  replace dP := dP.ext hfc23
  replace dF := dF.ext hfc23
  replace b5 := b5.ext hfc23
  replace pb := pb.ext hfc23
  replace b7 := b7.ext hfc23
  replace hfr := hfr.trans hfc23
  simp (implicitDefEqProofs := false) only [go_sem, v3, b1.cell]
  refine (fin_ok awN dN).mono ?_
  rintro r Hc24 ⟨rfl, hfc24⟩
  replace b1 := b1.ext hfc24
  replace b2 := b2.ext hfc24
  replace b3 := b3.ext hfc24
  replace dN := dN.ext hfc24
  replace dD := dD.ext hfc24
  replace dS := dS.ext hfc24
  replace dX := dX.ext hfc24
  replace dP := dP.ext hfc24
  replace dF := dF.ext hfc24
  replace b5 := b5.ext hfc24
  replace pb := pb.ext hfc24
  replace b7 := b7.ext hfc24
  replace hfr := hfr.trans hfc24
  simp (implicitDefEqProofs := false) only [go_sem, v4, b3.cell]
  refine (fin_ok awX dX).mono ?_
  rintro r Hc25 ⟨rfl, hfc25⟩
  replace b1 := b1.ext hfc25
  replace b2 := b2.ext hfc25
  replace b3 := b3.ext hfc25
  replace dN := dN.ext hfc25
  replace dD := dD.ext hfc25
  replace dS := dS.ext hfc25
  replace dX := dX.ext hfc25
  replace dP := dP.ext hfc25
  replace dF := dF.ext hfc25
  replace b5 := b5.ext hfc25
  replace pb := pb.ext hfc25
  replace b7 := b7.ext hfc25
  replace hfr := hfr.trans hfc25
  simp (implicitDefEqProofs := false) only [go_sem, v5, b3.cell]
  refine (dis_ok awX dX).mono ?_
  rintro r Hc26 ⟨rfl, hfc26⟩
  replace b1 := b1.ext hfc26
  replace b2 := b2.ext hfc26
  replace b3 := b3.ext hfc26
  replace dN := dN.ext hfc26
  replace dD := dD.ext hfc26
  replace dS := dS.ext hfc26
  replace dX := dX.ext hfc26
  replace dP := dP.ext hfc26
  replace dF := dF.ext hfc26
  replace b5 := b5.ext hfc26
  replace pb := pb.ext hfc26
  replace b7 := b7.ext hfc26
  replace hfr := hfr.trans hfc26
  simp (implicitDefEqProofs := false) only [go_sem, v6, b3.cell]
  refine (dep_ok awX dX (by rw [v7]; decide)).mono ?_
  rintro r Hc27 ⟨rfl, hfc27⟩
  replace b1 := b1.ext hfc27
  replace b2 := b2.ext hfc27
  replace b3 := b3.ext hfc27
  replace dN := dN.ext hfc27
  replace dD := dD.ext hfc27
  replace dS := dS.ext hfc27
  replace dX := dX.ext hfc27
  replace dP := dP.ext hfc27
  replace dF := dF.ext hfc27
  replace b5 := b5.ext hfc27
  replace pb := pb.ext hfc27
  replace b7 := b7.ext hfc27
  replace hfr := hfr.trans hfc27
  simp (implicitDefEqProofs := false) only [go_sem, v7, v8, b5.cell, b7.cell, b1.cell]
  refine (equal_ok awN.sz awN awN (Nat.le_refl _) dD dN).mono ?_
  rintro r Hc28 ⟨rfl, hfc28⟩
  replace b1 := b1.ext hfc28
  replace b2 := b2.ext hfc28
  replace b3 := b3.ext hfc28
  replace dN := dN.ext hfc28
  replace dD := dD.ext hfc28
  replace dS := dS.ext hfc28
  replace dX := dX.ext hfc28
  replace dP := dP.ext hfc28
  replace dF := dF.ext hfc28
  replace b5 := b5.ext hfc28
  replace pb := pb.ext hfc28
  replace b7 := b7.ext hfc28
  replace hfr := hfr.trans hfc28
  simp (implicitDefEqProofs := false) only [go_sem, v9, b7.cell, b2.cell]
  refine (equal_ok awN.sz awN awS (Nat.le_refl _) dD dS).mono ?_
  rintro r Hc29 ⟨rfl, hfc29⟩
  replace b1 := b1.ext hfc29
  replace b2 := b2.ext hfc29
  replace b3 := b3.ext hfc29
  replace dN := dN.ext hfc29
  replace dD := dD.ext hfc29
  replace dS := dS.ext hfc29
  replace dX := dX.ext hfc29
  replace dP := dP.ext hfc29
  replace dF := dF.ext hfc29
  replace b5 := b5.ext hfc29
  replace pb := pb.ext hfc29
  replace b7 := b7.ext hfc29
  replace hfr := hfr.trans hfc29
  simp (implicitDefEqProofs := false) only [go_sem, v10, b2.cell, b1.cell]
  refine NewS_intro fun Hz pz hfz hsz => ?_
  replace b1 := b1.ext hfz
  replace b2 := b2.ext hfz
  replace b3 := b3.ext hfz
  replace dN := dN.ext hfz
  replace dD := dD.ext hfz
  replace dS := dS.ext hfz
  replace dX := dX.ext hfz
  replace dP := dP.ext hfz
  replace dF := dF.ext hfz
  replace b5 := b5.ext hfz
  replace pb := pb.ext hfz
  replace b7 := b7.ext hfz
  replace hfr := hfr.trans hfz
  simp (implicitDefEqProofs := false) only [go_sem]
  have dZ : LtA Hz [] (.mk 7 0 0 [] [awS, awN] []) _ := LtA.mk (l := .mk 7 0 0 [] [awS, awN] []) (nilA Hz [] 1) (parts2 (c1 := cells6 4 0 0) (c2 := cells6 2 0 9) (x := awS) (y := awN) pz (bareA _ _ _ _ _) (bareA _ _ _ _ _) rfl rfl) (nilA Hz [] 2)
  refine (check_ok dZ).mono ?_
  rintro r Hc30 ⟨rfl, hfc30⟩
  replace b1 := b1.ext hfc30
  replace b2 := b2.ext hfc30
  replace b3 := b3.ext hfc30
  replace dN := dN.ext hfc30
  replace dD := dD.ext hfc30
  replace dS := dS.ext hfc30
  replace dX := dX.ext hfc30
  replace dP := dP.ext hfc30
  replace dF := dF.ext hfc30
  replace b5 := b5.ext hfc30
  replace pb := pb.ext hfc30
  replace b7 := b7.ext hfc30
  replace hfr := hfr.trans hfc30
  simp (implicitDefEqProofs := false) only [go_sem, v11]
  exact hfr

end Go.Proofs.Ytcilkhjadljaaaa
end
section
/- Readings of a type that holds itself; and what they say of a description. -/
set_option linter.unusedSimpArgs false
set_option linter.unusedVariables false
set_option maxRecDepth 8000
namespace Go.Proofs.Ytcilkhjadljaaaa
open Gx Go

def OpensF (P : Program) (F : Nat) (t : TypeId) {α : Type} (R : α → List Value → Heap → Prop) : Prop :=
  ∀ {H : Type} {enc : TypeId × Value → H} {W : World} {base : Nat} {sp : Nat → Bool} {held : Bool} {fuel : Nat} {cs : List Value} {x : DataW H × List MemPlace},
    fuel ≤ F → DataW.trod enc P W base sp held fuel t cs = some x → ∃ a, R a cs W.heap
theorem Opens.at {P : Program} {t : TypeId} {α : Type} {R : α → List Value → Heap → Prop} (h : Opens P t R) (F : Nat) : OpensF P F t R := by
  intro H enc W base sp held fuel cs x _ hx
  exact h hx

section
variable {P : Program}
theorem opensF_slice {t e m F : Nat} {α : Type} {R : α → List Value → Heap → Prop} (ht : P.underlying t = some (.slice e)) (hc : P.cellsOf e = m) (hm : 0 < m) (he : OpensF P F e R) : OpensF P (F + 1) t (SlR R m) := by
  intro H enc W base sp held fuel cs x hF h
  rcases DataW.trod_slice ht h with ⟨h0, _⟩ | ⟨a, len, cap, elems, rest, n, hn, rfl, rfl, hb, hl, hmx, hlen, hel, _, _⟩
  · exact ⟨[], none, 0, h0, by simp, by simp [maxLen], .inl rfl⟩
  · have hi : ∀ i, i < len → ∃ y : α, ∃ vs, vs.length = m ∧ (∀ j, j < m → cellAt W.heap (a.add (i * m + j)) = vs[j]?) ∧ R y vs W.heap := by
      intro i hi
      have h1 := hel i hi
      have h2 : elems[i]? = some elems[i] := List.getElem?_eq_getElem (by omega)
      rw [h2, Option.bind_eq_some_iff] at h1
      obtain ⟨vs, hv, hr⟩ := h1
      obtain ⟨h3, h4, h5⟩ := World.cells?_some hv
      obtain ⟨y, hy⟩ := he (by omega) hr
      rw [hc] at h4 h5 hv
      refine ⟨y, vs, h4, fun j hj => ?_, hy⟩
      have := h5 j hj
      rw [← this]
      show _ = cellAt W.heap _
      congr 1
      simp only [Addr.add]
      repeat' split
      all_goals first | rfl | omega | simp_all [Nat.add_assoc]
    obtain ⟨l, hl1, hl2⟩ := list_of (β := Unit) hi
    refine ⟨l, some a, cap, by rw [hl1], by omega, hmx, ?_⟩
    rcases Nat.eq_zero_or_pos l.length with h0 | h0
    · exact .inl (List.eq_nil_of_length_eq_zero h0)
    · have hspot : a.spot = none := by
        obtain ⟨vs, h1, h2, _⟩ := hl2 0 h0
        have h3 := h2 0 hm
        rw [List.getElem?_eq_getElem (by omega)] at h3
        unfold cellAt at h3
        split at h3
        · split at h3
          · cases h3
          · rename_i hs; simpa [Addr.add] using hs
        · cases h3
      obtain ⟨b, o, s⟩ := a
      simp only at hspot
      subst hspot
      refine .inr ⟨b, o, rfl, fun j hj => ?_⟩
      obtain ⟨vs, h1, h2, h3⟩ := hl2 j hj
      refine ⟨vs, h1, fun i hi => ?_, h3⟩
      rw [← h2 i hi, add_mk, cellAt_mk, Nat.add_assoc]

theorem structF_fields {H : Type} {enc : TypeId × Value → H} {W : World} {base : Nat} {sp : Nat → Bool} {held : Bool} {fuel F : Nat} {t : TypeId} {cs : List Value} {x : DataW H × List MemPlace} {fs : Array Field} (ht : P.underlying t = some (.struct fs))
    (hF : fuel ≤ F + 1) (h : DataW.trod enc P W base sp held fuel t cs = some x) : cs.length = P.cellsOf t ∧
      ∀ (i : Nat) (f : Field), fs[i]? = some f → ∀ {α : Type} {R : α → List Value → Heap → Prop} {m : Nat}, P.cellsOf f.type = m → OpensF P F f.type R → ∃ a, R a ((cs.drop f.offset).take m) W.heap := by
  obtain ⟨xs, n, hn, _, hl, hx, hf⟩ := DataW.trod_struct ht h
  refine ⟨hl, fun i f hi α R m hm ho => ?_⟩
  have h1 := hf i f hi
  have hlt : i < xs.length := by
    rw [hx]; exact (Array.getElem?_eq_some_iff.1 hi).1
  rw [List.getElem?_eq_getElem hlt, hm] at h1
  exact ho (by omega) h1
end

theorem Reps.of {H : Heap} {M : List Nat} : ∀ {ds : List Dat} {css : List (List Value)}, css.length = ds.length → (∀ (i : Nat) (h : i < css.length) (h' : i < ds.length), Rep H M ds[i] css[i]) → Reps H M ds css
  | [], [], _, _ => by simp [Reps]
  | d :: ds, c :: css, hl, h => by
    simp only [Reps]
    exact ⟨c, css, rfl, h 0 (by simp) (by simp), Reps.of (by simpa using hl) fun i hi hi' => h (i + 1) (by simpa using hi) (by simpa using hi')⟩
  | [], _ :: _, hl, _ => by simp at hl
  | _ :: _, [], hl, _ => by simp at hl
theorem flat_get {m : Nat} {css : List (List Value)} (h : ∀ x ∈ css, x.length = m) {q r : Nat} (hq : q < css.length) (hr : r < m) : css.flatten[q * m + r]? = css[q][r]? := by
  have h1 := flatten_drop q h
  have h2 : css.flatten[q * m + r]? = (css.flatten.drop (q * m))[r]? := by simp
  rw [h2, h1, List.drop_eq_getElem_cons hq, List.flatten_cons, List.getElem?_append_left (by rw [h _ (List.getElem_mem hq)]; exact hr)]
theorem rep_of_SlR {α : Type} {R : α → List Value → Heap → Prop} {D : α → Dat} {m : Nat} (h0 : 0 < m) {H : Heap} (hR : ∀ x vs, R x vs H → Rep H [] (D x) vs) {l : List α} {cs : List Value} (h : SlR R m l cs H) : Rep H [] (.list m (l.map D)) cs := by
  obtain ⟨a, c, rfl, h1, h2, h3⟩ := h
  simp only [Rep]
  rcases h3 with h3 | ⟨b, o, h4, h5⟩
  · subst h3
    exact ⟨a, c, [], rfl, by simp, h2, by simp [Reps], by simp, .inl rfl⟩
  · have hq : ∀ i, i < l.length → ∃ vs : List Value, vs.length = m ∧ (∀ k, k < m → cellB H b (o + i * m + k) = vs[k]?) ∧ ∀ hi : i < l.length, Rep H [] (D l[i]) vs := fun i hi => by
      obtain ⟨vs, q1, q2, q3⟩ := h5 i hi
      exact ⟨vs, q1, q2, fun _ => hR _ _ q3⟩
    obtain ⟨css, e1, e2⟩ := list_of (β := Unit) hq
    have hm : ∀ x ∈ css, x.length = m := fun x hx => by
      obtain ⟨i, hi, rfl⟩ := List.getElem_of_mem hx
      exact (e2 i hi).1
    refine ⟨a, c, css, by simp, by simpa using h1, h2, Reps.of (by simpa using e1) fun i hi hi' => ?_, hm, .inr ⟨b, o, h4, by simp, fun j hj => ?_⟩⟩
    · rw [List.getElem_map]
      exact (e2 i hi).2.2 (by omega)
    · have hlen : css.flatten.length = css.length * m := flatten_len hm
      have hqj : j / m < css.length := by rw [hlen] at hj; exact (Nat.div_lt_iff_lt_mul h0).2 hj
      have hrj : j % m < m := Nat.mod_lt _ h0
      have e : j = j / m * m + j % m := by rw [Nat.mul_comm, Nat.div_add_mod]
      have h8 := (e2 _ hqj).2.1 _ hrj
      rw [← flat_get hm hqj hrj, ← e, Nat.add_assoc, ← e] at h8
      rw [h8, List.getElem?_eq_getElem hj]

def RlR (r : Rl) (cs : List Value) (H : Heap) : Prop := Rep H [] (ruleD r) cs
def LtR (l : Lt) (cs : List Value) (H : Heap) : Prop := LtA H [] l cs ∧ (-2^63 ≤ l.kind ∧ l.kind < 2^63)

theorem strs_of {l : List Bs} {cs : List Value} {H : Heap} (h : SlR StrR 1 l cs H) : Rep H [] (strsD l) cs :=
  rep_of_SlR (D := strD) (by decide) (fun x vs hx => by rw [hx.1]; exact rep_v' _) h
theorem opens_rule : Opens Try.prog 50 RlR := by
  intro H enc W base sp held fuel cs x h
  obtain ⟨hl, hf⟩ := struct_fields Try.underlying50 h
  have hc : Try.prog.cellsOf 50 = 2 := by kernel_rfl
  rw [hc] at hl
  obtain ⟨ns, hn⟩ := hf 0 _ rfl (m := 1) (by kernel_rfl) (opens_slice (m := 1) Try.underlying22 (by kernel_rfl) (by decide) (opens_str Try.underlying9))
  obtain ⟨s, hs⟩ := hf 1 _ rfl (m := 1) (by kernel_rfl) (opens_str Try.underlying9)
  match cs, hl with
  | [v0, v1], _ =>
    change SlR StrR 1 ns [v0] _ at hn
    obtain ⟨e1, _⟩ := hs
    change [v1] = _ at e1
    cases e1
    exact ⟨⟨ns, s⟩, RlA.mk (r := ⟨ns, s⟩) (strs_of hn)⟩
theorem opens_rules : Opens Try.prog 24 (SlR RlR 2) := opens_slice Try.underlying24 (by kernel_rfl) (by decide) opens_rule
theorem opens_lat_F : ∀ F : Nat, OpensF Try.prog F 26 (fun (l : Lt) cs H => LtA H [] l cs) := by
  intro F
  induction F using Nat.strongRecOn with
  | _ F ihF =>
  match F, ihF with
  | 0, _ =>
    intro H enc W base sp held fuel cs x hF h
    obtain rfl : fuel = 0 := by omega
    simp [DataW.trod] at h
  | 1, _ =>
    intro H enc W base sp held fuel cs x hF h
    obtain ⟨xs, n, hn, _, hl, hx, hf⟩ := DataW.trod_struct Try.underlying26 h
    obtain rfl : n = 0 := by omega
    have := hf 0 _ rfl
    have hx0 : 0 < xs.length := by rw [hx]; decide
    rw [List.getElem?_eq_getElem hx0] at this
    simp [DataW.trod] at this
  | F + 2, ihF =>
    have ih : OpensF Try.prog F 26 (fun (l : Lt) cs H => LtA H [] l cs) := ihF F (by omega)
    intro H enc W base sp held fuel cs x hF h
    obtain ⟨hl, hf⟩ := structF_fields (F := F + 1) Try.underlying26 hF h
    have hc : Try.prog.cellsOf 26 = 6 := by kernel_rfl
    rw [hc] at hl
    obtain ⟨k, hk⟩ := hf 0 _ rfl (m := 1) (by kernel_rfl) (Opens.at (opens_int (k := .i64) Try.underlying3) _)
    obtain ⟨lo, hlo⟩ := hf 1 _ rfl (m := 1) (by kernel_rfl) (Opens.at (opens_int (k := .i64) Try.underlying2) _)
    obtain ⟨hi, hhi⟩ := hf 2 _ rfl (m := 1) (by kernel_rfl) (Opens.at (opens_int (k := .i64) Try.underlying2) _)
    obtain ⟨ns, hns⟩ := hf 3 _ rfl (m := 1) (by kernel_rfl) (Opens.at (opens_slice (m := 1) Try.underlying22 (by kernel_rfl) (by decide) (opens_str Try.underlying9)) _)
    obtain ⟨ps, hps⟩ := hf 4 _ rfl (m := 1) (by kernel_rfl) (opensF_slice (R := fun (l : Lt) cs H => LtA H [] l cs) (m := 6) Try.underlying23 (by kernel_rfl) (by decide) ih)
    obtain ⟨rs, hrs⟩ := hf 5 _ rfl (m := 1) (by kernel_rfl) (Opens.at opens_rules _)
    match cs, hl with
    | [v0, v1, v2, v3, v4, v5], _ =>
      obtain ⟨e0, _⟩ := hk
      obtain ⟨e1, _⟩ := hlo
      obtain ⟨e2, _⟩ := hhi
      change [v0] = _ at e0
      change [v1] = _ at e1
      change [v2] = _ at e2
      cases e0; cases e1; cases e2
      change SlR StrR 1 ns [v3] _ at hns
      change SlR _ 6 ps [v4] _ at hps
      change SlR RlR 2 rs [v5] _ at hrs
      exact ⟨.mk k lo hi ns ps rs, LtA.mk (l := .mk k lo hi ns ps rs) (strs_of hns) (rep_of_SlR (D := Lt.dat) (by decide) (fun x vs hx => hx) hps) (rep_of_SlR (D := ruleD) (by decide) (fun x vs hx => hx) hrs)⟩
theorem opens_lat : Opens Try.prog 26 (fun (l : Lt) cs H => LtA H [] l cs) := by
  intro H enc W base sp held fuel cs x h
  exact opens_lat_F fuel (Nat.le_refl _) h

end Go.Proofs.Ytcilkhjadljaaaa
end
section
/- The laws of the check and of sameness. -/
set_option linter.unusedSimpArgs false
set_option linter.unusedVariables false
set_option maxRecDepth 8000
namespace Go.Proofs.Ytcilkhjadljaaaa
open Gx Go

theorem checks_ok {l : Lt} {H : Heap} {cs : List Value} (ha : LtA H [] l cs) : HCalls Try.prog 3 #[.agg cs.toArray] H fun r H' => r = .bool true ∧ Fr [] H H' := by
  obtain ⟨vn, vp, vr, rfl, _, _, _⟩ := LtA.open ha
  refine calls_of_vc (args := [_]) Try.func3 c3ok (Nat.le_of_ble_eq_true rfl) ?_
  simp (implicitDefEqProofs := false) only [go_sem, c3]
  refine NewP_intro fun H1 hn1 hf1 hs1 => ?_
  have hfr := hf1
  have hb := hn1
  replace ha := ha.ext hf1
  simp (implicitDefEqProofs := false) only [go_sem]
  refine (awake_ok H1).mono ?_
  rintro r Hc1 ⟨rfl, hfc1⟩
  replace hfr := hfr.trans hfc1
  replace hb := hb.ext hfc1
  replace ha := ha.ext hfc1
  simp (implicitDefEqProofs := false) only [go_sem, hb.cell]
  refine (check_ok ha).mono ?_
  rintro r Hc2 ⟨rfl, hfc2⟩
  replace hfr := hfr.trans hfc2
  replace hb := hb.ext hfc2
  replace ha := ha.ext hfc2
  simp (implicitDefEqProofs := false) only [go_sem, hb.cell]
  refine (fcheck_ok ha).mono ?_
  rintro r Hc3 ⟨rfl, hfc3⟩
  replace hfr := hfr.trans hfc3
  replace hb := hb.ext hfc3
  replace ha := ha.ext hfc3
  simp (implicitDefEqProofs := false) only [go_sem]
  exact hfr

theorem lequal_ok {a b : Lt} {H : Heap} {cs ds : List Value} (ha : LtA H [] a cs) (hb : LtA H [] b ds) : HCalls Try.prog 4 #[.agg cs.toArray, .agg ds.toArray] H fun r H' => r = .bool true ∧ Fr [] H H' := by
  obtain ⟨vn, vp, vr, rfl, _, _, _⟩ := LtA.open ha
  obtain ⟨wn, wp, wr, rfl, _, _, _⟩ := LtA.open hb
  refine calls_of_vc (args := [_, _]) Try.func4 c4ok (Nat.le_of_ble_eq_true rfl) ?_
  simp (implicitDefEqProofs := false) only [go_sem, c4]
  refine NewP_intro fun H1 hn1 hf1 hs1 => ?_
  simp (implicitDefEqProofs := false) only [go_sem]
  refine NewP_intro fun H2 hn2 hf2 hs2 => ?_
  have hfr := hf1.trans hf2
  replace ha := ha.ext hfr
  replace hb := hb.ext hfr
  replace hn1 := hn1.ext hf2
  have e1 : eqT a a = true := eqT_refl a
  have e2 : eqT b a = eqT a b := eqT_comm b a
  have e3 : (eqT a b == eqT a b) = true := by simp
  simp (implicitDefEqProofs := false) only [go_sem]
  refine (awake_ok H2).mono ?_
  rintro r Hc4 ⟨rfl, hfc4⟩
  replace hfr := hfr.trans hfc4
  replace hn1 := hn1.ext hfc4
  replace hn2 := hn2.ext hfc4
  replace ha := ha.ext hfc4
  replace hb := hb.ext hfc4
  simp (implicitDefEqProofs := false) only [go_sem, hn1.cell, hn2.cell]
  refine (equal_ok _ a b (Nat.le_refl _) ha hb).mono ?_
  rintro r Hc5 ⟨rfl, hfc5⟩
  replace hfr := hfr.trans hfc5
  replace hn1 := hn1.ext hfc5
  replace hn2 := hn2.ext hfc5
  replace ha := ha.ext hfc5
  replace hb := hb.ext hfc5
  simp (implicitDefEqProofs := false) only [go_sem, hn1.cell, hn2.cell]
  refine (fequal_ok _ a b (Nat.le_refl _) ha hb).mono ?_
  rintro r Hc6 ⟨rfl, hfc6⟩
  replace hfr := hfr.trans hfc6
  replace hn1 := hn1.ext hfc6
  replace hn2 := hn2.ext hfc6
  replace ha := ha.ext hfc6
  replace hb := hb.ext hfc6
  simp (implicitDefEqProofs := false) only [go_sem, hn1.cell, hn2.cell, e3]
  refine (equal_ok _ a a (Nat.le_refl _) ha ha).mono ?_
  rintro r Hc7 ⟨rfl, hfc7⟩
  replace hfr := hfr.trans hfc7
  replace hn1 := hn1.ext hfc7
  replace hn2 := hn2.ext hfc7
  replace ha := ha.ext hfc7
  replace hb := hb.ext hfc7
  simp (implicitDefEqProofs := false) only [go_sem, hn1.cell, hn2.cell, e1]
  refine (equal_ok _ b a (Nat.le_refl _) hb ha).mono ?_
  rintro r Hc8 ⟨rfl, hfc8⟩
  replace hfr := hfr.trans hfc8
  replace hn1 := hn1.ext hfc8
  replace hn2 := hn2.ext hfc8
  replace ha := ha.ext hfc8
  replace hb := hb.ext hfc8
  simp (implicitDefEqProofs := false) only [go_sem, hn1.cell, hn2.cell]
  refine (equal_ok _ a b (Nat.le_refl _) ha hb).mono ?_
  rintro r Hc9 ⟨rfl, hfc9⟩
  replace hfr := hfr.trans hfc9
  replace hn1 := hn1.ext hfc9
  replace hn2 := hn2.ext hfc9
  replace ha := ha.ext hfc9
  replace hb := hb.ext hfc9
  simp (implicitDefEqProofs := false) only [go_sem, e2, e3]
  exact hfr

end Go.Proofs.Ytcilkhjadljaaaa
end
section
/- The laws of the kinds and of the fields. -/
set_option linter.unusedSimpArgs false
set_option linter.unusedVariables false
set_option maxRecDepth 8000
namespace Go.Proofs.Ytcilkhjadljaaaa
open Gx Go

theorem vis_chain (l : Lt) : ∀ {d n : Nat}, (visT d n l).1 = 0 → chainT l = true → disT l = true := by
  refine ltInd (P := fun l => ∀ {d n : Nat}, (visT d n l).1 = 0 → chainT l = true → disT l = true) ?_ l
  intro l ih d n h hc
  obtain ⟨h1, h2, h3⟩ := visT_zero h
  have hs := nodeE_shape h2
  rw [chainT_open] at hc
  rw [disT_open]
  by_cases k : l.kind = 1 ∨ l.kind = 2 ∨ l.kind = 3
  · rw [if_neg (by omega)]
    have : l.parts = [] := by
      unfold shapeT at hs
      rcases k with k | k | k <;> simp [k] at hs <;> exact hs.1
    rw [this]; rfl
  · rw [if_neg k] at hc
    by_cases k7 : l.kind = 7
    · rw [if_pos k7, Bool.and_eq_true] at hc
      rw [if_neg (by omega), List.all_eq_true]
      intro p hp
      obtain ⟨j, hj, rfl⟩ := List.getElem_of_mem hp
      obtain ⟨m, hm⟩ := visTs_zero h3 _ hp
      exact ih j hj hm (List.all_eq_true.1 hc.2 _ hp)
    · rw [if_neg k7] at hc; cases hc

theorem kinds_ok {l : Lt} {H : Heap} {cs : List Value} (ha : LtA H [] l cs) : HCalls Try.prog 5 #[.agg cs.toArray] H fun r H' => r = .bool true ∧ Fr [] H H' := by
  obtain ⟨vn, vp, vr, rfl, _, _, _⟩ := LtA.open ha
  refine calls_of_vc (args := [_]) Try.func5 c5ok (Nat.le_of_ble_eq_true rfl) ?_
  simp (implicitDefEqProofs := false) only [go_sem, c5]
  refine NewP_intro fun H1 hn1 hf1 hs1 => ?_
  have hfr := hf1
  have hb := hn1
  replace ha := ha.ext hf1
  simp (implicitDefEqProofs := false) only [go_sem]
  refine (awake_ok H1).mono ?_
  rintro r Hc1 ⟨rfl, hfc1⟩
  replace hfr := hfr.trans hfc1
  replace hb := hb.ext hfc1
  replace ha := ha.ext hfc1
  simp (implicitDefEqProofs := false) only [go_sem, hb.cell]
  refine (fcheck_ok ha).mono ?_
  rintro r Hc2 ⟨rfl, hfc2⟩
  replace hfr := hfr.trans hfc2
  replace hb := hb.ext hfc2
  replace ha := ha.ext hfc2
  by_cases e0 : (visT 1 0 l).1 = 0
  case neg =>
    simp (implicitDefEqProofs := false) only [go_sem, e0]
    exact hfr
  have hd : depT l < 2^60 := by have := vis_depth l e0; omega
  have x1 : (chainT l == chainT l) = true := by simp
  have x2 : (finT l == finT l) = true := by simp
  have x3 : (disT l == disT l) = true := by simp
  simp (implicitDefEqProofs := false) only [go_sem, e0, hb.cell]
  refine (chain_ok l ha).mono ?_
  rintro r Hc3 ⟨rfl, hfc3⟩
  replace hfr := hfr.trans hfc3
  replace hb := hb.ext hfc3
  replace ha := ha.ext hfc3
  simp (implicitDefEqProofs := false) only [go_sem, hb.cell]
  refine (fchain_ok l ha).mono ?_
  rintro r Hc4 ⟨rfl, hfc4⟩
  replace hfr := hfr.trans hfc4
  replace hb := hb.ext hfc4
  replace ha := ha.ext hfc4
  simp (implicitDefEqProofs := false) only [go_sem, hb.cell, x1]
  refine (fin_ok l ha).mono ?_
  rintro r Hc5 ⟨rfl, hfc5⟩
  replace hfr := hfr.trans hfc5
  replace hb := hb.ext hfc5
  replace ha := ha.ext hfc5
  simp (implicitDefEqProofs := false) only [go_sem, hb.cell]
  refine (ffin_ok l ha).mono ?_
  rintro r Hc6 ⟨rfl, hfc6⟩
  replace hfr := hfr.trans hfc6
  replace hb := hb.ext hfc6
  replace ha := ha.ext hfc6
  simp (implicitDefEqProofs := false) only [go_sem, hb.cell, x2]
  refine (dis_ok l ha).mono ?_
  rintro r Hc7 ⟨rfl, hfc7⟩
  replace hfr := hfr.trans hfc7
  replace hb := hb.ext hfc7
  replace ha := ha.ext hfc7
  simp (implicitDefEqProofs := false) only [go_sem, hb.cell]
  refine (fdis_ok l ha).mono ?_
  rintro r Hc8 ⟨rfl, hfc8⟩
  replace hfr := hfr.trans hfc8
  replace hb := hb.ext hfc8
  replace ha := ha.ext hfc8
  simp (implicitDefEqProofs := false) only [go_sem, hb.cell, x3]
  refine (dep_ok l ha hd).mono ?_
  rintro r Hc9 ⟨rfl, hfc9⟩
  replace hfr := hfr.trans hfc9
  replace hb := hb.ext hfc9
  replace ha := ha.ext hfc9
  simp (implicitDefEqProofs := false) only [go_sem, hb.cell]
  refine (fdep_ok l ha hd).mono ?_
  rintro r Hc10 ⟨rfl, hfc10⟩
  replace hfr := hfr.trans hfc10
  replace hb := hb.ext hfc10
  replace ha := ha.ext hfc10
  simp (implicitDefEqProofs := false) only [go_sem, hb.cell]
  refine (chain_ok l ha).mono ?_
  rintro r Hc11 ⟨rfl, hfc11⟩
  replace hfr := hfr.trans hfc11
  replace hb := hb.ext hfc11
  replace ha := ha.ext hfc11
  cases ec : chainT l
  · simp (implicitDefEqProofs := false) only [go_sem]
    exact hfr
  · have hdi := vis_chain l e0 ec
    simp (implicitDefEqProofs := false) only [go_sem, hb.cell]
    refine (dis_ok l ha).mono ?_
    rintro r Hc12 ⟨rfl, hfc12⟩
    replace hfr := hfr.trans hfc12
    replace hb := hb.ext hfc12
    replace ha := ha.ext hfc12
    simp (implicitDefEqProofs := false) only [go_sem, hdi]
    exact hfr

end Go.Proofs.Ytcilkhjadljaaaa
end
