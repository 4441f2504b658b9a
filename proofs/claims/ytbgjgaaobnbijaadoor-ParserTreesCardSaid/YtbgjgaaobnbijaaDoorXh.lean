/- All tokens: contracts of the program and of the specification. -/
import Derived.Test.YtbgjgaaobnbijaaDoorXe
set_option linter.unusedSimpArgs false
set_option linter.unusedVariables false
set_option maxRecDepth 8000
namespace Go.Proofs.YtbgjgaaobnbijaaDoor
open Gx Go

theorem ETk : ElemOk Tryd.prog 34 39 4 40 (.agg #[.int .i64 0, .string ⟨⟨[]⟩⟩, .int .i64 0, .int .i64 0]) := ⟨Tryd.underlying34, by kernel_rfl, rfl, by decide⟩

def LR.app (pre : List Tk) : LR → LR
  | .bad e k => .bad e k
  | .ok l => .ok (pre ++ l)
theorem LR.app_nil (r : LR) : LR.app [] r = r := by cases r <;> rfl
theorem LR.app_cons (pre : List Tk) (t : Tk) (r : LR) : LR.app pre (LR.cons t r) = LR.app (pre ++ [t]) r := by cases r <;> simp [LR.app, LR.cons]
def lexN (l : Bs) (o : Nat) : LR := if 65536 < l.length then .bad 6 65536 else lexA l o
theorem lexN_zero (l : Bs) : lexN l 0 = lexT l := rfl
theorem lexN_step (l : Bs) (o : Nat) (ho : o ≤ l.length) :
    ((nextT l o).code ≠ 0 → ∃ k : Nat, lexN l o = .bad (nextT l o).code k ∧ (nextT l o).fat = k) ∧
    ((nextT l o).code = 0 → (nextT l o).tok.kind = 6 → l.length ≤ 65536 ∧ lexN l o = .ok [(nextT l o).tok]) ∧
    ((nextT l o).code = 0 → (nextT l o).tok.kind ≠ 6 → l.length ≤ 65536 ∧ ∃ e : Nat, lexN l o = LR.cons (nextT l o).tok (lexN l e) ∧ (nextT l o).fin = e ∧ o < e ∧ e ≤ l.length) := by
  unfold nextT lexN
  by_cases h : 65536 < l.length
  · rw [if_pos h]
    exact ⟨fun _ => ⟨65536, by rw [if_pos h], rfl⟩, fun h => by simp at h, fun h => by simp at h⟩
  rw [if_neg h, if_neg (by omega), Int.toNat_natCast]
  unfold nextN
  have hsk : o + skB false (l.drop o) ≤ l.length := by
    have := skB_le false (l.drop o)
    simp only [List.length_drop] at this
    omega
  have hop := lexA_open l o ho
  generalize hj : o + skB false (l.drop o) = j at *
  cases e : tokS (l.drop j) with
  | bad c =>
    rw [e] at hop
    refine ⟨fun _ => ⟨j, by rw [if_neg h, hop]; rfl, rfl⟩, fun h0 => absurd h0 (bad_code e), fun h0 => absurd h0 (bad_code e)⟩
  | ok kd t n m =>
    rw [e] at hop
    refine ⟨fun h0 => absurd rfl h0, fun _ h6 => ⟨by omega, ?_⟩, fun _ h6 => ⟨by omega, j + m, ?_, rfl, ?_⟩⟩
    · rw [if_neg h, hop]; simp only [ansT] at h6 ⊢; rw [if_pos h6]
    · rw [if_neg h, hop]; simp only [ansT] at h6 ⊢; rw [if_neg h6, if_neg h]
    · obtain ⟨h1, h2, h3⟩ := tokS_len e
      simp only [ansT] at h6
      have hne : l.drop j ≠ [] := fun q => h6 (h3 q)
      obtain ⟨h4, _⟩ := h2 hne
      have h5 : 0 < (l.drop j).length := List.length_pos_iff.2 hne
      simp only [List.length_drop] at h1 h5
      omega

/-- What Lex returns. -/
def LexR (R : LR) (r : Value) (H' : Heap) : Prop :=
  match R with
  | .bad e k => r = .tuple #[.slice none 0 0, ftV e k]
  | .ok ts => ∃ a c, r = .tuple #[.slice a ts.length c, ftV 0 0] ∧ ts.length ≤ c ∧ c ≤ maxLen ∧ RowR tkC H' a ts

set_option maxHeartbeats 4000000 in
theorem lex_ok (l : Bs) (hl : l.length ≤ maxLen) {H : Heap} (hg : GlobH H) : HCalls Tryd.prog 17 #[sv l] H fun r H' => LexR (lexT l) r H' ∧ Fr [] H H' := by
  refine calls_of_vc (args := [_]) Tryd.func17 c17ok (Nat.le_of_ble_eq_true rfl) ?_
  simp (implicitDefEqProofs := false) only [go_sem, c17]
  refine NewP_intro fun H1 hb1 hf1 hs1 => ?_
  generalize hx1 : H.size = x1 at *
  simp (implicitDefEqProofs := false) only [go_sem]
  refine vc_loop (fun (p : List Tk × Nat × Value) H' => ∃ g, (p.2.1 ≤ l.length ∧ p.1.length ≤ p.2.1 ∧ lexT l = LR.app p.1 (lexN l p.2.1)) ∧ Own H' 39 4 p.2.2 p.1.length (p.1.flatMap tkC) g ∧ Blk H' x1 31 [.int .i64 0, .int .i64 0] ∧ Fr [] H H' ∧ (∀ b, g = some b → x1 < b))
    (fun p => [(0, sv l), (2, .slice none 0 0), (3, .pointer (some ⟨x1, 0, none⟩)), (4, p.2.2), (5, .int .i64 p.2.1)]) (fun p => l.length + 1 - p.2.1) ([], 0, .slice none 0 0) ?_ ?_ ?_
  · exact ⟨none, ⟨Nat.zero_le _, Nat.le_refl _, by rw [lexN_zero, LR.app_nil]⟩, Own.nil _ _ _, hb1, hf1, by simp⟩
  · simp (implicitDefEqProofs := false) only [go_sem, z0]
  · rintro ⟨pre, o, v⟩ H' ⟨g, ⟨h1, h2, h3⟩, hown, hbF, hfr, hgx⟩
    dsimp only at h1 h2 h3 hown
    simp (implicitDefEqProofs := false) only [go_sem]
    refine (next_ok l hl o (hg.ext hfr)).mono ?_
    rintro r H2 ⟨rfl, hf2⟩
    obtain ⟨st1, st2, st3⟩ := lexN_step l o h1
    generalize nextT l o = N at *
    have hF2 := hfr.trans hf2
    have hown2 := hown.fr hf2 (by simp)
    have hbF2 := hbF.ext hf2
    have hx1lt := hbF2.lt
    simp (implicitDefEqProofs := false) only [go_sem, NR.val, tkV, ftV]
    refine NewP_intro fun H3 hb3 hf3 hs3 => ?_
    generalize hx3 : H2.size = x3 at *
    have hgl : ∀ b, g = some b → b < x3 := fun b hb => by rw [← hx3]; exact hown2.lt hb
    simp (implicitDefEqProofs := false) only [go_sem]
    refine NewP_intro fun H4 hb4 hf4 hs4 => ?_
    generalize hx4 : H3.size = x4 at *
    have hb34 := hb3.ext hf4
    simp (implicitDefEqProofs := false) only [go_sem]
    refine Sto_all hb34 rfl one4 fun H5 hb5 hf5 hs5 => ?_
    have hb45 := hb4.fr hf5 (by simp; omega)
    simp (implicitDefEqProofs := false) only [go_sem]
    refine Sto_all hb45 rfl (one2 rfl rfl) fun H6 hb6 hf6 hs6 => ?_
    have hb56 := hb5.fr hf6 (by simp; omega)
    have hbF6 := (((hbF2.ext hf3).ext hf4).fr hf5 (by simp; omega)).fr hf6 (by simp; omega)
    have hown6 := (((hown2.fr hf3 (by simp)).fr hf4 (by simp)).fr hf5 (fun b hb => by have := hgl b hb; simp; omega)).fr hf6 (fun b hb => by have := hgl b hb; simp; omega)
    have hHle := hF2.size
    have hF6 : Fr [] H H6 := fr_new (fr_new ((hF2.trans hf3).trans hf4) hf5 (by omega)) hf6 (by omega)
    have hc6 := hb6.cell
    have hc5 := hb56.cell
    by_cases hcode : N.code = 0
    · have hcode' : (N.code = 0) = True := by simp [hcode]
      obtain ⟨a0, c0, rfl⟩ : ∃ a0 c0, v = .slice a0 pre.length c0 := by
        rcases hown6.2 with ⟨_, q, q2⟩ | ⟨b, cap, cur, _, q, _⟩
        · rw [q2]; exact ⟨_, _, q⟩
        · exact ⟨_, _, q⟩
      simp (implicitDefEqProofs := false) only [go_sem, hc6, hc5, hcode']
      refine NewS_intro fun H7 hb7 hf7 hs7 => ?_
      generalize hx7 : H6.size = x7 at *
      have hown7 := hown6.fr hf7 (by simp)
      have hlen65 : l.length ≤ 65536 := by
        by_cases h6 : N.tok.kind = 6
        · exact (st2 hcode h6).1
        · exact (st3 hcode h6).1
      simp (implicitDefEqProofs := false) only [go_sem]
      refine App_own ETk hown7 (m := 1) (SrcH.blk Tryd.underlying34 hb7 rfl one4) (by unfold maxLen; omega) (by omega) fun a1 c1 H8 g8 hown8 hf8 hg8 => ?_
      have hb58 := (hb56.ext hf7).fr hf8 (by
        intro hm
        have hm' : g = some x3 := by simpa using hm
        have := hgl x3 hm'; omega)
      have hbF8 := (hbF6.ext hf7).fr hf8 (by
        intro hm
        have hm' : g = some x1 := by simpa using hm
        have := hgx x1 hm'; omega)
      have hF8 : Fr [] H H8 := (hF6.trans hf7).trans' hf8 (fun b hb => by
        have hb' : g = some b := by simpa using hb
        have := hgx b hb'
        exact .inr (by omega))
      have hgx8 : ∀ b, g8 = some b → x1 < b := fun b hb => by
        rcases hg8 b hb with q | q
        · exact hgx b q
        · omega
      have hc8 := hb58.cell
      have hflat : pre.flatMap tkC ++ [Value.int .i64 N.tok.kind, sv N.tok.text, .int .i64 N.tok.n, .int .i64 N.tok.at_] = (pre ++ [N.tok]).flatMap tkC := by simp [tkC]
      have hlenp : pre.length + 1 = (pre ++ [N.tok]).length := by simp
      rw [hflat, hlenp] at hown8
      rw [hlenp]
      by_cases h6 : N.tok.kind = 6
      · have h6' : (N.tok.kind = 6) = True := by simp [h6]
        simp (implicitDefEqProofs := false) only [go_sem, hc8, h6']
        refine Sto_all hbF8 rfl (one2 rfl rfl) fun H9 hb9 hf9 hs9 => ?_
        have hc9 := hb9.cell
        simp (implicitDefEqProofs := false) only [go_sem, hc9]
        have hown9 := hown8.fr hf9 (fun b hb => by have := hgx8 b hb; simp; omega)
        refine ⟨?_, fr_new hF8 hf9 (by omega)⟩
        rw [h3, (st2 hcode h6).2]
        exact ⟨a1, c1, rfl, Own.cap_le hown9, by
          rcases hown9.2 with ⟨_, q, _⟩ | ⟨b, cap, cur, _, q, _, _, q2, _⟩
          · simp only [Value.slice.injEq] at q; omega
          · simp only [Value.slice.injEq] at q; omega, Own.rowR hown9⟩
      · have h6' : (N.tok.kind = 6) = False := by simp [h6]
        obtain ⟨_, e, he1, he2, he3, he4⟩ := st3 hcode h6
        simp (implicitDefEqProofs := false) only [go_sem, hc8, h6']
        refine loopK_intro (pre ++ [N.tok], e, .slice a1 (pre ++ [N.tok]).length c1) (by show l.length + 1 - e < l.length + 1 - o; omega) ?_ ⟨g8, ⟨he4, ?_, ?_⟩, hown8, hbF8, hF8, hgx8⟩
        · simp (implicitDefEqProofs := false) only [go_sem, he2]
        · simp; omega
        · rw [h3, he1, LR.app_cons]
    · have hcode' : (N.code = 0) = False := by simp [hcode]
      obtain ⟨k, hk1, hk2⟩ := st1 hcode
      simp (implicitDefEqProofs := false) only [go_sem, hc6, hc5, hcode']
      refine Sto_all hbF6 rfl (one2 rfl rfl) fun H7 hb7 hf7 hs7 => ?_
      have hc7 := hb7.cell
      have hc67 := (hb6.fr hf7 (by simp; omega)).cell
      simp (implicitDefEqProofs := false) only [go_sem, hc7, hc67]
      refine ⟨?_, fr_new hF6 hf7 (by omega)⟩
      rw [h3, hk1, hk2]
      rfl


end Go.Proofs.YtbgjgaaobnbijaaDoor
