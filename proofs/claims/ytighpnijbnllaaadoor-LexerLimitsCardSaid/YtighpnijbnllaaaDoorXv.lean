/- The laws of token lists, third part: a comment in front of a token; texts read again. -/
import Derived.Test.YtighpnijbnllaaaDoorXu
set_option linter.unusedSimpArgs false
set_option linter.unusedVariables false
set_option maxRecDepth 8000
namespace Go.Proofs.YtighpnijbnllaaaDoor
open Gx Go

/-- Blanks and a comment. -/
def insB (com : Bs) : Bs := [32, 9, 35] ++ com ++ [13, 10]
theorem insB_skip (com : Bs) (h : com.all lineB = true) (y : Bs) : skB true (insB com ++ y) = skB false (insB com ++ y) ∧ skB false (insB com ++ y) = (insB com).length + skB false y := by
  have e : insB com ++ y = 32 :: 9 :: 35 :: (com ++ 13 :: 10 :: y) := by simp [insB]
  have hl : (insB com).length = com.length + 5 := by simp [insB]
  rw [e, hl]
  have hc := skB_comment com y h
  have a1 : blankB 32 = true := by decide
  have a2 : blankB 9 = true := by decide
  have a3 : blankB 35 = false := by decide
  have a4 : ((UInt8.toNat 35 : Nat) : Int) = 35 := by decide
  have b1 : lineB 32 = true := by decide
  have b2 : lineB 9 = true := by decide
  have b3 : lineB 35 = true := by decide
  simp only [skB, a1, a2, a3, a4, b1, b2, b3, hc, if_true, Bool.false_eq_true, if_false]
  refine ⟨trivial, ?_⟩
  omega

theorem skB_idem (s : Bs) : skB false (s.drop (skB false s)) = 0 := by
  cases e : s.drop (skB false s) with
  | nil => rfl
  | cons c r =>
    obtain ⟨h1, h2⟩ := skB_done false s c r e
    exact skB_other h1 h2 r

/-- Where the tokens of what is left stand. -/
theorem lexF_at : ∀ (f : Nat) (s : Bs) (o : Nat) (ts : List Tk), s.length < f → lexF f s o = .ok ts → ∀ t ∈ ts, ∃ a : Nat, t.at_ = a ∧ o ≤ a ∧ a ≤ o + s.length
  | 0, s, o, ts, h, _ => by omega
  | f + 1, s, o, ts, hf, h => by
    rw [lexF_step] at h
    have hk := skB_le false s
    cases e : tokS (s.drop (skB false s)) with
    | bad c => rw [e] at h; cases h
    | ok k t n m =>
      rw [e] at h
      obtain ⟨l1, l2, l3⟩ := tokS_len e
      simp only at h
      split at h
      · cases h
        intro x hx
        simp only [List.mem_singleton] at hx
        subst hx
        exact ⟨o + skB false s, rfl, by omega, by omega⟩
      · rename_i h6
        have hne : s.drop (skB false s) ≠ [] := fun q => h6 (l3 q)
        obtain ⟨hm, _⟩ := l2 hne
        simp only [List.length_drop] at l1
        cases er : lexF f (s.drop (skB false s + m)) (o + skB false s + m) with
        | bad c q => rw [er] at h; cases h
        | ok r =>
          rw [er] at h
          have h' : LR.ok (⟨k, t, n, (o + skB false s : Nat)⟩ :: r) = LR.ok ts := h
          cases h'
          have ih := lexF_at f _ _ r (by simp only [List.length_drop]; omega) er
          intro x hx
          rcases List.mem_cons.1 hx with rfl | hx
          · exact ⟨o + skB false s, rfl, by omega, by omega⟩
          · obtain ⟨a, a1, a2, a3⟩ := ih x hx
            simp only [List.length_drop] at a3
            exact ⟨a, a1, by omega, by omega⟩

theorem lexF_ins (com : Bs) (hcom : com.all lineB = true) : ∀ (f : Nat) (s : Bs) (o o' : Nat) (ts : List Tk) (i : Nat) (hi : i < ts.length) (p : Nat), s.length < f → lexF f s o = .ok ts → ts[i].at_ = (o + p : Nat) →
    ∃ ts', lexF f (s.take p ++ insB com ++ s.drop p) o' = .ok ts' ∧ sameT false ts ts' = true
  | 0, s, o, o', ts, i, hi, p, h, _, _ => by omega
  | f + 1, s, o, o', ts, i, hi, p, hf, h, hp => by
    have h0 := h
    rw [lexF_step] at h
    have hk := skB_le false s
    cases e : tokS (s.drop (skB false s)) with
    | bad c => rw [e] at h; cases h
    | ok k t n m =>
      rw [e] at h
      obtain ⟨l1, l2, l3⟩ := tokS_len e
      -- in front of the first token
      have front : p = skB false s → ∃ ts', lexF (f + 1) (s.take p ++ insB com ++ s.drop p) o' = .ok ts' ∧ sameT false ts ts' = true := by
        intro hp0
        subst hp0
        obtain ⟨q1, q2⟩ := insB_skip com hcom (s.drop (skB false s))
        have hsk := skB_take false s (insB com ++ s.drop (skB false s)) q1
        rw [q2, skB_idem, Nat.add_zero] at hsk
        rw [List.append_assoc, lexF_step, hsk]
        have hpl : (s.take (skB false s)).length = skB false s := by rw [List.length_take]; omega
        have hd : (s.take (skB false s) ++ (insB com ++ s.drop (skB false s))).drop (skB false s + (insB com).length) = s.drop (skB false s) := by
          rw [← List.drop_drop]
          have : (s.take (skB false s) ++ (insB com ++ s.drop (skB false s))).drop (skB false s) = insB com ++ s.drop (skB false s) := by
            have := List.drop_left (l₁ := s.take (skB false s)) (l₂ := insB com ++ s.drop (skB false s))
            rwa [hpl] at this
          rw [this, List.drop_left]
        have hd2 : (s.take (skB false s) ++ (insB com ++ s.drop (skB false s))).drop (skB false s + (insB com).length + m) = s.drop (skB false s + m) := by
          rw [← List.drop_drop, hd, List.drop_drop]
        rw [hd, e]
        simp only at h ⊢
        split at h
        · rename_i h6
          rw [if_pos h6]
          cases h
          exact ⟨_, rfl, by simp [sameT, tkEq]⟩
        · rename_i h6
          rw [if_neg h6, hd2]
          cases er : lexF f (s.drop (skB false s + m)) (o + skB false s + m) with
          | bad c q => rw [er] at h; cases h
          | ok r =>
            rw [er] at h
            have h' : LR.ok (⟨k, t, n, (o + skB false s : Nat)⟩ :: r) = LR.ok ts := h
            cases h'
            obtain ⟨r', j1, j2⟩ := lexF_same f _ _ (o' + (skB false s + (insB com).length) + m) r er
            rw [j1]
            exact ⟨_, rfl, by simp [sameT, tkEq, j2]⟩
      simp only at h
      split at h
      · rename_i h6
        cases h
        have hi0 : i = 0 := by simpa using hi
        subst hi0
        refine front ?_
        have hp' : ((o + skB false s : Nat) : Int) = (o + p : Nat) := hp
        omega
      · rename_i h6
        have hne : s.drop (skB false s) ≠ [] := fun q => h6 (l3 q)
        obtain ⟨hm, _⟩ := l2 hne
        simp only [List.length_drop] at l1
        cases er : lexF f (s.drop (skB false s + m)) (o + skB false s + m) with
        | bad c q => rw [er] at h; cases h
        | ok r =>
          rw [er] at h
          have h' : LR.ok (⟨k, t, n, (o + skB false s : Nat)⟩ :: r) = LR.ok ts := h
          cases h'
          cases i with
          | zero =>
            refine front ?_
            have hp' : ((o + skB false s : Nat) : Int) = (o + p : Nat) := hp
            omega
          | succ i =>
            have hi' : i < r.length := by simpa using hi
            have hp' : r[i].at_ = (o + p : Nat) := hp
            obtain ⟨a, a1, a2, a3⟩ := lexF_at f _ _ r (by simp only [List.length_drop]; omega) er r[i] (List.getElem_mem _)
            simp only [List.length_drop] at a3
            have hge : o + skB false s + m ≤ o + p := by omega
            obtain ⟨p2, rfl⟩ : ∃ p2, p = skB false s + m + p2 := ⟨p - (skB false s + m), by omega⟩
            obtain ⟨r', j1, j2⟩ := lexF_ins com hcom f (s.drop (skB false s + m)) (o + skB false s + m) (o' + skB false s + m) r i hi' p2 (by simp only [List.length_drop]; omega) er (by rw [hp']; omega)
            have hs2 : s.take (skB false s + m + p2) ++ insB com ++ s.drop (skB false s + m + p2) = s.take (skB false s + m) ++ ((s.drop (skB false s + m)).take p2 ++ insB com ++ (s.drop (skB false s + m)).drop p2) := by
              rw [List.take_add, List.drop_drop]; simp
            have hfol : FolB (s.drop (skB false s + m)) ((s.drop (skB false s + m)).take p2 ++ insB com ++ (s.drop (skB false s + m)).drop p2) := by
              cases p2 with
              | zero => exact .inr (.inr ⟨by simp [insB]; decide, by simp [insB]⟩)
              | succ p2 =>
                cases er2 : s.drop (skB false s + m) with
                | nil =>
                  have := congrArg List.length er2
                  simp only [List.length_drop, List.length_nil] at this
                  omega
                | cons c u => exact .inr (.inl ⟨rfl, by simp⟩)
            rw [hs2, lexF_splice (f := f) (o := o) e h6 hfol, j1]
            exact ⟨_, rfl, by simp [sameT, tkEq, j2]⟩

/-! ### texts -/
theorem spT_tok {t : Tk} (h : poB t = true) (h6 : t.kind ≠ 6) : tokS (spT t) = .ok t.kind t.text t.n (spT t).length := by
  have hkw : ∀ g ∈ kwList, validN g = true := by decide
  have hsg : ∀ g ∈ signList, tokS g = .ok 5 g 0 g.length := by decide
  have word : ∀ w : Bs, validN w = true → tokS w = .ok (if kwB w then 2 else 1) w 0 w.length := by
    intro w hv
    unfold validN at hv
    simp only [Bool.and_eq_true, decide_eq_true_eq] at hv
    obtain ⟨v1, v2, v3, v4⟩ := hv
    cases w with
    | nil => simp at v1
    | cons c r =>
      have hc : letB c = true := v3
      simp only [tokS, hc, if_true]
      rw [takeWhile_all partB _ v4]
      unfold tokW
      rw [if_neg (by omega)]
  obtain ⟨k, tx, n, a⟩ := t
  have hp := h
  unfold poB at hp
  simp only [Bool.and_eq_true, Bool.or_eq_true, decide_eq_true_eq] at hp h6
  obtain ⟨hn, hp⟩ := hp
  by_cases k1 : k = 1
  · subst k1
    simp only [if_true, Bool.and_eq_true, Bool.not_eq_true'] at hp
    have hn0 : n = 0 := by omega
    subst hn0
    show tokS tx = _
    rw [word tx hp.1, hp.2]; rfl
  rw [if_neg k1] at hp
  by_cases k2 : k = 2
  · subst k2
    rw [if_pos rfl] at hp
    have hn0 : n = 0 := by omega
    subst hn0
    show tokS tx = _
    have hv := hkw tx (by unfold kwB at hp; simpa using hp)
    rw [word tx hv, hp]; rfl
  rw [if_neg k2] at hp
  by_cases k3 : k = 3
  · subst k3
    simp only [if_true, Bool.and_eq_true, decide_eq_true_eq] at hp
    obtain ⟨rfl, h0, h1⟩ := hp
    obtain ⟨u, rfl⟩ : ∃ u : Nat, n = u := ⟨n.toNat, by omega⟩
    have hsp : spT ⟨3, [], (u : Int), a⟩ = Lib.decDigits u := by
      rw [spT_int, itoa_nat]
    rw [hsp]
    obtain ⟨d1, d2, d3, d4⟩ := dd_dig u
    show tokS (Lib.decDigits u) = .ok 3 [] (u : Int) _
    generalize Lib.decDigits u = w at *
    cases w with
    | nil => exact absurd rfl d3
    | cons c r =>
      have hc : digB c = true := by rw [List.all_cons, Bool.and_eq_true] at d1; exact d1.1
      have hl : letB c = false := by
        rw [digB_iff] at hc
        simp [letB]; omega
      simp only [tokS, hl, hc, Bool.false_eq_true, if_false, if_true]
      rw [takeWhile_all digB _ d1]
      unfold tokD
      rw [if_neg (fun q => d4 q.1 q.2), if_neg (by rw [d2]; omega), d2]
  rw [if_neg k3] at hp
  have hn0 : n = 0 := by omega
  subst hn0
  by_cases k4 : k = 4
  · subst k4
    rw [if_pos rfl] at hp
    show tokS (39 :: (tx ++ [39])) = .ok 4 tx 0 (39 :: (tx ++ [39])).length
    have hv := hp
    unfold validN at hv
    simp only [Bool.and_eq_true, decide_eq_true_eq] at hv
    have hall : ∀ x ∈ tx, partB x = true := List.all_eq_true.1 hv.2.2.2
    have a1 : letB 39 = false := by decide
    have a2 : digB 39 = false := by decide
    have a3 : ((UInt8.toNat 39 : Nat) : Int) = 39 := by decide
    simp only [tokS, a1, a2, a3, Bool.false_eq_true, if_false, if_true]
    have e1 : (tx ++ [39]).takeWhile partB = tx := by
      rw [List.takeWhile_append_of_pos hall]
      have : ([39] : Bs).takeWhile partB = [] := by decide
      rw [this]; simp
    have e2 : (tx ++ [39]).dropWhile partB = [39] := by
      rw [List.dropWhile_append_of_pos hall]; decide
    rw [e1, e2]
    unfold tokQ
    rw [if_neg (by simp), if_pos hp]
    simp
  rw [if_neg k4] at hp
  by_cases k5 : k = 5
  · subst k5
    rw [if_pos rfl] at hp
    show tokS tx = _
    rw [hsg tx (by unfold signB at hp; simpa using hp)]
    rfl
  · rw [if_neg k5, if_neg h6] at hp
    cases hp

/-- The spelling of a token begins with no blank. -/
theorem spT_head {t : Tk} (h : poB t = true) (h6 : t.kind ≠ 6) (s : Bs) : spT t ≠ [] ∧ skB false (spT t ++ s) = 0 := by
  have ht := spT_tok h h6
  have hlen := tokS_len ht
  have hne : spT t ≠ [] := fun e => h6 (hlen.2.2 e)
  refine ⟨hne, ?_⟩
  cases e : spT t with
  | nil => exact absurd e hne
  | cons c r =>
    rw [e] at ht
    rw [List.cons_append]
    refine skB_other ?_ ?_ _
    · cases hb : blankB c
      · rfl
      · exfalso
        obtain ⟨b1, b2, b3⟩ := blank_not hb
        have hq : ¬ (c.toNat : Int) = 39 := by
          simp only [blankB, Bool.or_eq_true, decide_eq_true_eq] at hb; omega
        simp only [tokS, b1, b2, hq, Bool.false_eq_true, if_false] at ht
        have hs : ∀ x : UInt8, blankB x = true → ∀ g ∈ signList, g.getD 0 0 ≠ x := by
          intro x hx g hg e
          simp only [blankB, Bool.or_eq_true, decide_eq_true_eq] at hx
          have : ∀ g ∈ signList, ¬ blankB (g.getD 0 0) = true := by decide
          exact this g hg (by rw [e]; simp only [blankB, Bool.or_eq_true, decide_eq_true_eq]; exact hx)
        unfold tokG at ht
        split at ht
        · rename_i h2
          have := h2.2
          unfold signB at this
          rw [decide_eq_true_eq] at this
          exact hs c hb _ this rfl
        · split at ht
          · rename_i h2
            unfold signB at h2
            rw [decide_eq_true_eq] at h2
            exact hs c hb _ h2 rfl
          · cases ht
    · intro hh
      have b1 : letB c = false := by simp [letB]; omega
      have b2 : digB c = false := by simp [digB]; omega
      have hq : ¬ (c.toNat : Int) = 39 := by omega
      simp only [tokS, b1, b2, hq, Bool.false_eq_true, if_false] at ht
      have : ∀ g ∈ signList, (g.getD 0 0).toNat ≠ 35 := by decide
      unfold tokG at ht
      split at ht
      · rename_i h2
        have h3 := h2.2
        unfold signB at h3
        rw [decide_eq_true_eq] at h3
        exact this _ h3 (by show c.toNat = 35; omega)
      · split at ht
        · rename_i h2
          unfold signB at h2
          rw [decide_eq_true_eq] at h2
          exact this _ h2 (by show c.toNat = 35; omega)
        · cases ht

theorem lexF_blank (f : Nat) (x : Bs) (o : Nat) : lexF (f + 1) (32 :: x) o = lexF (f + 1) x (o + 1) := by
  rw [lexF_step, lexF_step]
  have h : skB false (32 :: x) = skB false x + 1 := by
    simp only [skB]; rw [if_pos (by decide)]
  rw [h, List.drop_succ_cons, show o + (skB false x + 1) = o + 1 + skB false x by omega]
  cases tokS (x.drop (skB false x)) with
  | bad c => rfl
  | ok k t n m =>
    simp only
    rw [show skB false x + 1 + m = (skB false x + m) + 1 by omega, List.drop_succ_cons]

theorem lexF_one {t : Tk} (h : poB t = true) (h6 : t.kind ≠ 6) {s : Bs} (hs : s = [] ∨ ∃ y, s = 32 :: y) (f : Nat) (o : Nat) :
    lexF (f + 1) (spT t ++ s) o = LR.cons ⟨t.kind, t.text, t.n, (o : Int)⟩ (lexF f s (o + (spT t).length)) := by
  obtain ⟨hne, hsk⟩ := spT_head h h6 s
  have ht := spT_tok h h6
  have htok : tokS (spT t ++ s) = .ok t.kind t.text t.n (spT t).length := by
    have h0 : tokS (spT t ++ []) = .ok t.kind t.text t.n (spT t).length := by rw [List.append_nil]; exact ht
    refine tokS_behind h0 hne ?_
    rcases hs with rfl | ⟨y, rfl⟩
    · exact .inl rfl
    · exact .inr (.inr ⟨by show blankB 32 = true; decide, by simp⟩)
  rw [lexF_step, hsk, List.drop_zero, htok]
  simp only
  rw [if_neg h6, Nat.zero_add, List.drop_left, Nat.add_zero]

theorem lexF_join (e : Tk) (he : e.kind = 6) (he2 : e.text = []) (he3 : e.n = 0) : ∀ (init : List Tk), (∀ t ∈ init, poB t = true ∧ t.kind ≠ 6) → ∀ (f o : Nat), (Lib.join (init.map spT) [32]).length < f →
    ∃ ts', lexF f (Lib.join (init.map spT) [32]) o = .ok ts' ∧ sameT false ts' (init ++ [e]) = true
  | [], _, f, o, hf => by
    have hj : Lib.join ([] : List Bs) [32] = [] := rfl
    rw [List.map_nil, hj] at hf ⊢
    obtain ⟨f, rfl⟩ : ∃ g, f = g + 1 := ⟨f - 1, by simp at hf; omega⟩
    refine ⟨[⟨6, [], 0, (o : Int)⟩], rfl, ?_⟩
    simp [sameT, tkEq, he, he2, he3]
  | [t], h, f, o, hf => by
    obtain ⟨h1, h6⟩ := h t (by simp)
    have hj : Lib.join ([t].map spT) [32] = spT t := by simp [Lib.join]
    rw [hj] at hf ⊢
    have hpos : 0 < (spT t).length := List.length_pos_iff.2 (spT_head h1 h6 []).1
    obtain ⟨f, rfl⟩ : ∃ g, f = g + 2 := ⟨f - 2, by omega⟩
    have := lexF_one h1 h6 (s := []) (.inl rfl) (f + 1) o
    rw [List.append_nil] at this
    rw [this]
    refine ⟨_, rfl, ?_⟩
    simp [sameT, tkEq, he, he2, he3]
  | t :: u :: r, h, f, o, hf => by
    obtain ⟨h1, h6⟩ := h t (by simp)
    have hj : Lib.join ((t :: u :: r).map spT) [32] = spT t ++ 32 :: Lib.join ((u :: r).map spT) [32] := by
      rw [List.map_cons, Lib.join_cons]
      simp [Lib.joinTail, Lib.join_cons]
    rw [hj] at hf ⊢
    simp only [List.length_append, List.length_cons] at hf
    have hpos : 0 < (spT t).length := List.length_pos_iff.2 (spT_head h1 h6 []).1
    obtain ⟨f, rfl⟩ : ∃ g, f = g + 2 := ⟨f - 2, by omega⟩
    rw [lexF_one h1 h6 (.inr ⟨_, rfl⟩) (f + 1) o, lexF_blank]
    obtain ⟨ts', j1, j2⟩ := lexF_join e he he2 he3 (u :: r) (fun x hx => h x (by simp [hx])) (f + 1) (o + (spT t).length + 1) (by omega)
    rw [j1]
    refine ⟨_, rfl, ?_⟩
    rw [List.cons_append]
    simp only [sameT, tkEq, Bool.and_eq_true]
    exact ⟨by simp, j2⟩

theorem okG_parts : ∀ (l : List Tk), l ≠ [] → okG l = true → ∃ init e, l = init ++ [e] ∧ (∀ t ∈ init, poB t = true ∧ t.kind ≠ 6) ∧ poB e = true ∧ e.kind = 6
  | [], h, _ => absurd rfl h
  | [t], _, h => by
    simp only [okG, Bool.and_eq_true, List.isEmpty_nil, beq_iff_eq, decide_eq_true_eq] at h
    exact ⟨[], t, rfl, by simp, h.1.1, h.1.2⟩
  | t :: u :: r, _, h => by
    rw [okG, Bool.and_eq_true, Bool.and_eq_true] at h
    obtain ⟨init, e, h1, h2, h3, h4⟩ := okG_parts (u :: r) (by simp) h.2
    refine ⟨t :: init, e, by rw [h1]; rfl, fun x hx => ?_, h3, h4⟩
    rcases List.mem_cons.1 hx with rfl | hx
    · refine ⟨h.1.1, ?_⟩
      have := h.1.2
      simp only [List.isEmpty_cons, beq_iff_eq, decide_eq_false_iff_not] at this
      exact this
    · exact h2 x hx
/-- The tokens of a text are the tokens that were written. -/
theorem text_lex {l : List Tk} {s : Bs} (h : textT l = (s, 0)) : ∃ ts', lexT s = .ok ts' ∧ sameT false ts' l = true := by
  unfold textT at h
  split at h
  · simp at h
  · rename_i h1
    split at h
    · simp at h
    · rename_i h2
      simp only [Prod.mk.injEq, and_true] at h
      have hne : l ≠ [] := fun e => h1 (.inl e)
      have hok : okG l = true := by
        cases q : okG l
        · exact absurd (.inr q) h1
        · rfl
      obtain ⟨init, e, rfl, i1, i2, i3⟩ := okG_parts l hne hok
      have hsp : spells (init ++ [e]) = init.map spT := by
        unfold spells
        rw [List.filter_append]
        have e1 : init.filter (fun t => !decide (t.kind = 6)) = init := List.filter_eq_self.2 fun t ht => by simpa using (i1 t ht).2
        rw [e1]
        simp [i3]
      rw [hsp] at h h2
      have hpe : e.text = [] ∧ e.n = 0 := by
        unfold poB at i2
        rw [i3] at i2
        simpa [and_comm] using i2
      obtain ⟨ts', j1, j2⟩ := lexF_join e i3 hpe.1 hpe.2 init i1 (s.length + 1) 0 (by rw [h]; omega)
      rw [h] at j1 h2
      refine ⟨ts', ?_, j2⟩
      unfold lexT lexA
      rw [if_neg h2, List.drop_zero]
      exact j1

theorem textT_same : ∀ {a b : List Tk}, sameT false a b = true → okG a = okG b ∧ spells a = spells b ∧ (a = [] ↔ b = [])
  | [], [], _ => ⟨rfl, rfl, Iff.rfl⟩
  | x :: xs, y :: ys, h => by
    simp only [sameT, Bool.and_eq_true] at h
    obtain ⟨h1, h2⟩ := h
    obtain ⟨i1, i2, i3⟩ := textT_same h2
    simp only [tkEq, Bool.and_eq_true, decide_eq_true_eq] at h1
    obtain ⟨e1, e2, e3, _⟩ := h1
    have hpo : poB x = poB y := by unfold poB; rw [e1, e2, e3]
    have hsp : spT x = spT y := by unfold spT; rw [e1, e2, e3]
    have hem : xs.isEmpty = ys.isEmpty := by
      rw [Bool.eq_iff_iff, List.isEmpty_iff, List.isEmpty_iff]; exact i3
    refine ⟨by simp only [okG, hpo, e1, hem, i1], ?_, by simp⟩
    unfold spells at i2 ⊢
    rw [List.filter_cons, List.filter_cons, e1]
    split
    · rw [List.map_cons, List.map_cons, hsp, i2]
    · exact i2
  | [], _ :: _, h => by simp [sameT] at h
  | _ :: _, [], h => by simp [sameT] at h
theorem textT_eq {a b : List Tk} (h : sameT false a b = true) : textT a = textT b := by
  obtain ⟨h1, h2, h3⟩ := textT_same h
  unfold textT
  simp only [h1, h2, h3]
theorem sameT_symm : ∀ {a b : List Tk}, sameT false a b = true → sameT false b a = true
  | [], [], _ => rfl
  | x :: xs, y :: ys, h => by
    simp only [sameT, Bool.and_eq_true] at h ⊢
    refine ⟨?_, sameT_symm h.2⟩
    have h1 := h.1
    simp only [tkEq, Bool.and_eq_true, decide_eq_true_eq, Bool.not_false, Bool.true_or, and_true] at h1 ⊢
    exact ⟨h1.1.symm, h1.2.1.symm, h1.2.2.symm⟩
  | [], _ :: _, h => by simp [sameT] at h
  | _ :: _, [], h => by simp [sameT] at h

/-- A chain's tokens are possible, the end last. -/
theorem chain_ok : ∀ (e : Nat) (s : Bs) (o : Nat) (ts : List Tk), chainT e s o ts → okG ts = true ∧ ts ≠ [] ∧ ts.length ≤ s.length + 1
  | e, s, o, [], h => h.elim
  | e, s, o, t :: r, h => by
    rcases h with ⟨rfl, rfl, _⟩ | ⟨h1, h2, q, h3, h4, h5, h6, h7⟩
    · exact ⟨by simp [okG, poB], by simp, by simp⟩
    · obtain ⟨i1, i2, i3⟩ := chain_ok e _ _ r h7
      refine ⟨?_, by simp, by simp only [List.length_cons, List.length_drop] at i3 ⊢; omega⟩
      have : r.isEmpty = false := by
        cases r with
        | nil => exact absurd rfl i2
        | cons _ _ => rfl
      simp [okG, h1, h2, i1, this]
end Go.Proofs.YtighpnijbnllaaaDoor
