/- Same, spellings, Text: contracts of the program. -/
import Derived.Test.YtighpnijbnllaaaDoorXh
set_option linter.unusedSimpArgs false
set_option linter.unusedVariables false
set_option maxRecDepth 8000
namespace Go.Proofs.YtighpnijbnllaaaDoor
open Gx Go

def tkEq (o : Bool) (x y : Tk) : Bool := decide (x.kind = y.kind) && (decide (x.text = y.text) && (decide (x.n = y.n) && (!o || decide (x.at_ = y.at_))))
def sameT (o : Bool) : List Tk → List Tk → Bool
  | [], [] => true
  | x :: xs, y :: ys => tkEq o x y && sameT o xs ys
  | _, _ => false
theorem sameT_len {o : Bool} : ∀ {a b : List Tk}, sameT o a b = true → a.length = b.length
  | [], [], _ => rfl
  | x :: xs, y :: ys, h => by
    simp only [sameT, Bool.and_eq_true] at h
    simp [sameT_len h.2]
  | [], _ :: _, h => by simp [sameT] at h
  | _ :: _, [], h => by simp [sameT] at h
theorem sameT_drop {o : Bool} {a b : List Tk} {i : Nat} (ha : i < a.length) (hb : i < b.length) : sameT o (a.drop i) (b.drop i) = (tkEq o a[i] b[i] && sameT o (a.drop (i + 1)) (b.drop (i + 1))) := by
  rw [List.drop_eq_getElem_cons ha, List.drop_eq_getElem_cons hb]; rfl
theorem rowT_at {H : Heap} {a : Option Addr} {l : List Tk} (h : RowR tkC H a l) (j : Nat) (hj : j < l.length) :
    ∃ b o, a = some ⟨b, o, none⟩ ∧ cellB H b (o + j * 4) = some (.int .i64 l[j].kind) ∧ cellB H b (o + j * 4 + 1) = some (sv l[j].text) ∧ cellB H b (o + j * 4 + 2) = some (.int .i64 l[j].n) ∧ cellB H b (o + j * 4 + 3) = some (.int .i64 l[j].at_) := by
  obtain ⟨b, o, h1, h2⟩ := RowR.get h tkC_len j hj (by decide)
  exact ⟨b, o, h1, h2 0 (by decide), h2 1 (by decide), h2 2 (by decide), h2 3 (by decide)⟩

set_option maxHeartbeats 4000000 in
theorem same_ok {H : Heap} {l m : List Tk} {la ma : Option Addr} {lc mc : Nat} (offs : Bool) (hl : RowR tkC H la l) (hm : RowR tkC H ma m) (hll : l.length ≤ maxLen) :
    HCalls Tryd.prog 23 #[.slice la l.length lc, .slice ma m.length mc, .bool offs] H fun r H' => r = .bool (sameT offs l m) ∧ H' = H := by
  refine calls_of_vc (args := [_, _, _]) Tryd.func23 c23ok (Nat.le_of_ble_eq_true rfl) ?_
  by_cases hlen : l.length = m.length
  case neg =>
    have hlen' : ((l.length : Int) = (m.length : Int)) = False := by simp; omega
    have hs : sameT offs l m = false := by
      cases q : sameT offs l m
      · rfl
      · exact absurd (sameT_len q) hlen
    simp (implicitDefEqProofs := false) only [go_sem, c23, hlen', hs]
  have hlen' : ((l.length : Int) = (m.length : Int)) = True := by simp [hlen]
  simp (implicitDefEqProofs := false) only [go_sem, c23, hlen']
  refine vc_loop (fun (i : Nat) H' => i ≤ l.length ∧ sameT offs (l.drop i) (m.drop i) = sameT offs l m ∧ H' = H)
    (fun i => [(0, .slice la l.length lc), (1, .slice ma m.length mc), (2, .bool offs), (7, .int .i64 i)]) (fun i => l.length - i) 0 ?_ ?_ ?_
  · exact ⟨Nat.zero_le _, rfl, rfl⟩
  · simp (implicitDefEqProofs := false) only [go_sem, z0]
  · rintro i H' ⟨hi, hs, rfl⟩
    rcases Nat.lt_or_ge i l.length with hlt | hge
    · have hlt' : (i : Int) < (l.length : Int) := by omega
      have hltm : i < m.length := by omega
      have hltm' : (i : Int) < (m.length : Int) := by omega
      have h0 : (0 : Int) ≤ (i : Int) := by omega
      have hw := succ_i64 i l.length hlt hll
      obtain ⟨b1, o1, rfl, p0, p1, p2, p3⟩ := rowT_at hl i hlt
      obtain ⟨b2, o2, rfl, q0, q1, q2, q3⟩ := rowT_at hm i hltm
      rw [sameT_drop hlt hltm] at hs
      generalize l[i] = x at *
      generalize m[i] = y at *
      unfold sv at p1 q1
      by_cases e0 : x.kind = y.kind
      case neg =>
        rw [show tkEq offs x y = false by simp [tkEq, e0], Bool.false_and] at hs
        simp (implicitDefEqProofs := false) only [go_sem, hlt', hltm', h0, p0, q0, e0]
        exact congrArg Value.bool hs
      by_cases e1 : x.text = y.text
      case neg =>
        rw [show tkEq offs x y = false by simp [tkEq, e1], Bool.false_and] at hs
        simp (implicitDefEqProofs := false) only [go_sem, hlt', hltm', h0, p0, q0, e0, p1, q1, ba_eq, e1]
        exact congrArg Value.bool hs
      by_cases e2 : x.n = y.n
      case neg =>
        rw [show tkEq offs x y = false by simp [tkEq, e2], Bool.false_and] at hs
        simp (implicitDefEqProofs := false) only [go_sem, hlt', hltm', h0, p0, q0, e0, p1, q1, ba_eq, e1, p2, q2, e2]
        exact congrArg Value.bool hs
      cases offs
      · rw [show tkEq false x y = true by simp [tkEq, e0, e1, e2], Bool.true_and] at hs
        simp (implicitDefEqProofs := false) only [go_sem, hlt', hltm', h0, p0, q0, e0, p1, q1, ba_eq, e1, p2, q2, e2, hw]
        refine loopK_intro (i + 1) (by show l.length - (i + 1) < l.length - i; omega) ?_ ⟨hlt, hs, rfl⟩
        simp (implicitDefEqProofs := false) only [go_sem]
      by_cases e3 : x.at_ = y.at_
      case neg =>
        rw [show tkEq true x y = false by simp [tkEq, e3], Bool.false_and] at hs
        simp (implicitDefEqProofs := false) only [go_sem, hlt', hltm', h0, p0, q0, e0, p1, q1, ba_eq, e1, p2, q2, e2, p3, q3, e3]
        exact congrArg Value.bool hs
      · rw [show tkEq true x y = true by simp [tkEq, e0, e1, e2, e3], Bool.true_and] at hs
        simp (implicitDefEqProofs := false) only [go_sem, hlt', hltm', h0, p0, q0, e0, p1, q1, ba_eq, e1, p2, q2, e2, p3, q3, e3, hw]
        refine loopK_intro (i + 1) (by show l.length - (i + 1) < l.length - i; omega) ?_ ⟨hlt, hs, rfl⟩
        simp (implicitDefEqProofs := false) only [go_sem]
    · have hlt' : ¬ (i : Int) < (l.length : Int) := by omega
      have hs' : sameT offs l m = true := by
        rw [← hs, List.drop_eq_nil_of_le hge, List.drop_eq_nil_of_le (by omega)]; rfl
      simp (implicitDefEqProofs := false) only [go_sem, hlt', hs']

/-! ### spellings -/
def spT (t : Tk) : Bs := if t.kind = 3 then Lib.itoa t.n else if t.kind = 4 then 39 :: (t.text ++ [39]) else if t.kind = 6 then [] else t.text
def poB (t : Tk) : Bool :=
  (decide (t.kind = 3) || decide (t.n = 0)) && (if t.kind = 1 then validN t.text && !kwB t.text else if t.kind = 2 then kwB t.text else if t.kind = 3 then decide (t.text = []) && (decide (0 ≤ t.n) && decide (t.n ≤ 1000000000000000))
    else if t.kind = 4 then validN t.text else if t.kind = 5 then signB t.text else if t.kind = 6 then decide (t.text = []) else false)

set_option maxHeartbeats 4000000 in
theorem spelling_ok (t : Tk) (hn : -9223372036854775808 ≤ t.n ∧ t.n ≤ 9223372036854775807) (ht : t.text.length ≤ 1000000000000) {H : Heap} (hg : GlobH H) :
    HCalls Tryd.prog 38 #[tkV t] H fun r H' => (∃ s, r = .tuple #[s, .bool (poB t)] ∧ (poB t = true → s = sv (spT t))) ∧ Fr [] H H' := by
  refine calls_of_vc (args := [_]) Tryd.func38 c38ok (Nat.le_of_ble_eq_true rfl) ?_
  unfold tkV sv
  simp (implicitDefEqProofs := false) only [go_sem, c38]
  refine NewP_intro fun H1 hb1 hf1 hs1 => ?_
  have hc1 := hb1.cell
  generalize hx1 : H.size = x1 at *
  have hg1 := hg.ext hf1
  by_cases k3 : t.kind = 3
  · rw [show poB t = (decide (t.text = []) && (decide (0 ≤ t.n) && decide (t.n ≤ 1000000000000000))) by simp [poB, k3]]
    rw [show spT t = Lib.itoa t.n by simp [spT, k3]]
    simp (implicitDefEqProofs := false) only [go_sem, hc1, k3]
    refine (formatInt_ok hn.1 hn.2 hg1).mono ?_
    rintro r H2 ⟨rfl, hf2⟩
    have hc2 := (hb1.ext hf2).cell
    by_cases e1 : t.text = []
    · by_cases e2 : 0 ≤ t.n
      · simp (implicitDefEqProofs := false) only [go_sem, hc2, hc1, k3, ba_eq, e1, e2]
        first | exact ⟨⟨_, rfl, fun _ => rfl⟩, hf1.trans hf2⟩ | exact ⟨⟨_, rfl⟩, hf1.trans hf2⟩
      · simp (implicitDefEqProofs := false) only [go_sem, hc2, hc1, k3, ba_eq, e1, e2]
        first | exact ⟨⟨_, rfl, fun _ => rfl⟩, hf1.trans hf2⟩ | exact ⟨⟨_, rfl⟩, hf1.trans hf2⟩
    · simp (implicitDefEqProofs := false) only [go_sem, hc2, hc1, k3, ba_eq, e1]
      first | exact ⟨⟨_, rfl, fun _ => rfl⟩, hf1.trans hf2⟩ | exact ⟨⟨_, rfl⟩, hf1.trans hf2⟩
  by_cases n0 : t.n = 0
  case neg =>
    rw [show poB t = false by simp [poB, k3, n0]]
    simp (implicitDefEqProofs := false) only [go_sem, hc1, k3, n0]
    first | exact ⟨⟨_, rfl, fun h => by cases h⟩, hf1⟩ | exact ⟨⟨_, rfl⟩, hf1⟩
  by_cases k1 : t.kind = 1
  · rw [show poB t = (validN t.text && !kwB t.text) by simp [poB, n0, k1], show spT t = t.text by simp [spT, k1]]
    simp (implicitDefEqProofs := false) only [go_sem, hc1, k3, n0, k1]
    refine (valid_ok t.text H1).mono ?_
    rintro r H2 ⟨rfl, hEq⟩
    obtain rfl := hEq.symm
    cases e1 : validN t.text
    · simp (implicitDefEqProofs := false) only [go_sem, hc1, k3, n0, k1]
      first | exact ⟨⟨_, rfl, fun h => by cases h⟩, hf1⟩ | exact ⟨⟨_, rfl⟩, hf1⟩
    · simp (implicitDefEqProofs := false) only [go_sem, hc1, k3, n0, k1]
      refine (keyword_ok t.text H1).mono ?_
      rintro r H3 ⟨rfl, hf3⟩
      have hc3 := (hb1.ext hf3).cell
      simp (implicitDefEqProofs := false) only [go_sem, hc1, hc3, k3, n0, k1]
      first | exact ⟨⟨_, rfl, fun _ => rfl⟩, hf1.trans hf3⟩ | exact ⟨⟨_, rfl⟩, hf1.trans hf3⟩
  by_cases k2 : t.kind = 2
  · rw [show poB t = kwB t.text by simp [poB, n0, k2], show spT t = t.text by simp [spT, k2]]
    simp (implicitDefEqProofs := false) only [go_sem, hc1, k3, n0, k1, k2]
    refine (keyword_ok t.text H1).mono ?_
    rintro r H3 ⟨rfl, hf3⟩
    have hc3 := (hb1.ext hf3).cell
    simp (implicitDefEqProofs := false) only [go_sem, hc1, hc3, k3, n0, k1, k2]
    first | exact ⟨⟨_, rfl, fun _ => rfl⟩, hf1.trans hf3⟩ | exact ⟨⟨_, rfl⟩, hf1.trans hf3⟩
  by_cases k4 : t.kind = 4
  · rw [show poB t = validN t.text by simp [poB, n0, k4], show spT t = 39 :: (t.text ++ [39]) by simp [spT, k4]]
    have z1 : (1 : Nat) + t.text.length ≤ 9223372036854775807 := by omega
    have z2 : (1 : Nat) + t.text.length + 1 ≤ 9223372036854775807 := by omega
    simp (implicitDefEqProofs := false) only [go_sem, hc1, k3, n0, k1, k2, k4, ba_size]
    refine ⟨by omega, by omega, (valid_ok t.text H1).mono ?_⟩
    rintro r H2 ⟨rfl, hEq⟩
    obtain rfl := hEq.symm
    simp (implicitDefEqProofs := false) only [go_sem, hc1, k3, n0, k1, k2, k4, ba_app]
    first | exact ⟨⟨_, rfl, fun _ => rfl⟩, hf1⟩ | exact ⟨⟨_, rfl⟩, hf1⟩
  by_cases k5 : t.kind = 5
  · rw [show poB t = signB t.text by simp [poB, n0, k5], show spT t = t.text by simp [spT, k5]]
    simp (implicitDefEqProofs := false) only [go_sem, hc1, k3, n0, k1, k2, k4, k5]
    refine (sign_ok t.text H1).mono ?_
    rintro r H3 ⟨rfl, hf3⟩
    have hc3 := (hb1.ext hf3).cell
    simp (implicitDefEqProofs := false) only [go_sem, hc1, hc3, k3, n0, k1, k2, k4, k5]
    first | exact ⟨⟨_, rfl, fun _ => rfl⟩, hf1.trans hf3⟩ | exact ⟨⟨_, rfl⟩, hf1.trans hf3⟩
  by_cases k6 : t.kind = 6
  · rw [show poB t = decide (t.text = []) by simp [poB, n0, k6], show spT t = [] by simp [spT, k6]]
    simp (implicitDefEqProofs := false) only [go_sem, hc1, k3, n0, k1, k2, k4, k5, k6, ba_eq]
    first | exact ⟨⟨_, rfl, fun _ => rfl⟩, hf1⟩ | exact ⟨⟨_, rfl⟩, hf1⟩
  · rw [show poB t = false by simp [poB, n0, k1, k2, k3, k4, k5, k6]]
    simp (implicitDefEqProofs := false) only [go_sem, hc1, k3, n0, k1, k2, k4, k5, k6]
    first | exact ⟨⟨_, rfl, fun h => by cases h⟩, hf1⟩ | exact ⟨⟨_, rfl⟩, hf1⟩
end Go.Proofs.YtighpnijbnllaaaDoor
