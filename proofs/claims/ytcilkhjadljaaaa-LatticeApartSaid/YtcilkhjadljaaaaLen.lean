/- What is written is read back: plain facts. -/
import Derived.Test.YtcilkhjadljaaaaLm
set_option linter.unusedSimpArgs false
set_option linter.unusedVariables false
set_option maxRecDepth 8000
namespace Go.Proofs.Ytcilkhjadljaaaa
open Gx Go

/-- These bytes stand at this place. -/
def AtL (L : Bs) (p : Nat) (w : Bs) : Prop := ∃ r, L.drop p = w ++ r
theorem AtL.left {L : Bs} {p : Nat} {u v : Bs} (h : AtL L p (u ++ v)) : AtL L p u := by
  obtain ⟨r, h⟩ := h
  exact ⟨v ++ r, by rw [h, List.append_assoc]⟩
theorem AtL.right {L : Bs} {p : Nat} {u v : Bs} (h : AtL L p (u ++ v)) : AtL L (p + u.length) v := by
  obtain ⟨r, h⟩ := h
  refine ⟨r, ?_⟩
  rw [← List.drop_drop, h, List.append_assoc, List.drop_left]
theorem AtL.le {L : Bs} {p : Nat} {w : Bs} (h : AtL L p w) (h0 : 0 < w.length) : p + w.length ≤ L.length := by
  obtain ⟨r, h⟩ := h
  have := congrArg List.length h
  simp only [List.length_drop, List.length_append] at this
  omega
theorem AtL.le' {L : Bs} {p : Nat} {w : Bs} (h : AtL L p w) (hp : p ≤ L.length) : p + w.length ≤ L.length := by
  obtain ⟨r, h⟩ := h
  have := congrArg List.length h
  simp only [List.length_drop, List.length_append] at this
  omega

theorem num_at {L : Bs} {p n : Nat} (h : AtL L p (enc n)) (hn : n < 2^64) : num (L.drop p) = some (n, (enc n).length) := by
  obtain ⟨r, h⟩ := h
  rw [h]; exact num_enc n hn r
theorem uintO_at {L : Bs} {p n : Nat} (h : AtL L p (enc n)) (hn : n < 2^64) : uintO L (some p) = (n, some (p + (enc n).length)) := by
  simp only [uintO, num_at h hn]
theorem countO_at {L : Bs} {p n : Nat} {u : Bs} (h : AtL L p (enc n ++ u)) (hn : n ≤ u.length) (hL : L.length < 2^64) : countO L (some p) = (n, some (p + (enc n).length)) := by
  have h1 := len_enc_pos n
  have h2 := h.le (by simp; omega)
  simp only [List.length_append] at h2
  have : num (L.drop p) = some (n, (enc n).length) := num_at h.left (by omega)
  simp only [countO, this]
  rw [if_pos (by omega)]
theorem textO_at {L : Bs} {p : Nat} {s : Bs} (h : AtL L p (textB s)) (hL : L.length < 2^64) : bytesO L (some p) = (s, some (p + (textB s).length)) := by
  unfold textB at *
  have h1 := len_enc_pos s.length
  have h2 := h.le (by simp; omega)
  simp only [List.length_append] at h2
  have h3 : num (L.drop p) = some (s.length, (enc s.length).length) := num_at h.left (by omega)
  simp only [bytesO, h3]
  rw [if_pos (by omega)]
  obtain ⟨r, h4⟩ := h.right
  rw [h4, List.take_left, List.length_append, Nat.add_assoc]
theorem textsO_at {L : Bs} (hL : L.length < 2^64) : ∀ (l : List Bs) {p : Nat}, AtL L p (l.flatMap textB) → textsO L l.length (some p) = (l, some (p + (l.flatMap textB).length))
  | [], p, _ => by simp [textsO]
  | s :: l, p, h => by
    rw [List.flatMap_cons] at h
    simp only [List.length_cons, textsO, textO_at h.left hL, textsO_at hL l h.right, List.flatMap_cons, List.length_append, Nat.add_assoc]
theorem flat_len {α : Type} {f : α → Bs} (hf : ∀ x, 1 ≤ (f x).length) : ∀ l : List α, l.length ≤ (l.flatMap f).length
  | [] => by simp
  | x :: l => by
    have h1 := flat_len hf l
    have h2 := hf x
    rw [List.flatMap_cons, List.length_append, List.length_cons]; omega
theorem textB_pos (s : Bs) : 1 ≤ (textB s).length := by
  have := len_enc_pos s.length
  unfold textB; rw [List.length_append]; omega
theorem strsB_pos (l : List Bs) : 1 ≤ (strsB l).length := by
  have := len_enc_pos l.length
  unfold strsB; rw [List.length_append]; omega
theorem ruleB_pos (r : Rl) : 1 ≤ (ruleB r).length := by
  have := strsB_pos r.ifs
  unfold ruleB; rw [List.length_append]; omega
theorem listO_at {L : Bs} {p : Nat} {l : List Bs} (h : AtL L p (strsB l)) (hL : L.length < 2^64) : listO L (some p) = (l, some (p + (strsB l).length)) := by
  unfold strsB at *
  have h1 := countO_at h (flat_len textB_pos l) hL
  simp only [listO, h1, textsO_at hL l h.right, List.length_append, Nat.add_assoc]
theorem rulesO_at {L : Bs} (hL : L.length < 2^64) : ∀ (l : List Rl) {p : Nat}, AtL L p (l.flatMap ruleB) → rulesO L l.length (some p) = (l, some (p + (l.flatMap ruleB).length))
  | [], p, _ => by simp [rulesO]
  | r :: l, p, h => by
    rw [List.flatMap_cons] at h
    have h1 := h.left
    unfold ruleB at h1
    have e1 := listO_at h1.left hL
    have e2 := textO_at h1.right hL
    have e3 := rulesO_at hL l h.right
    have e : p + (ruleB r).length = p + (strsB r.ifs).length + (textB r.thn).length := by unfold ruleB; rw [List.length_append]; omega
    rw [e] at e3
    simp only [List.length_cons, rulesO, e1, e2, e3, List.flatMap_cons, List.length_append, e]
    simp only [Prod.mk.injEq, Option.some.injEq, true_and]
    omega

theorem headB_pos (t : Lt) : 1 ≤ (headB t).length := by
  have := len_enc_pos t.kind.toNat
  unfold headB; rw [List.length_append]; omega
theorem encT_pos (t : Lt) : 1 ≤ (encT t).length := by
  have := headB_pos t
  rw [encT_open, List.length_append]; omega
theorem encPs_len (k6 : Bool) : ∀ (ps : List Lt) (ns : List Bs), ps.length ≤ (encPs k6 ps ns).length
  | [], _ => by simp [encPs]
  | p :: ps, ns => by
    have h1 := encPs_len k6 ps ns.tail
    have h2 := encT_pos p
    simp only [encPs, List.length_append, List.length_cons]; omega

theorem partsO_at {L : Bs} (hL : L.length < 2^64) {f : Pl → Lt × Pl} (k6 : Bool) : ∀ (ps : List Lt) (ns : List Bs), (k6 = true → ns.length = ps.length) → (∀ t ∈ ps, ∀ q, AtL L q (encT t) → f (some q) = (t, some (q + (encT t).length))) → ∀ {p : Nat},
    AtL L p (encPs k6 ps ns) → partsO f k6 L ps.length (some p) = (if k6 then ns else [], ps, some (p + (encPs k6 ps ns).length))
  | [], ns, hn, _, p, _ => by
    cases k6
    · simp [partsO, encPs]
    · have : ns = [] := List.eq_nil_of_length_eq_zero (by simpa using hn rfl)
      subst this
      simp [partsO, encPs]
  | t :: ps, ns, hn, hf, p, h => by
    simp only [encPs] at h
    cases k6 with
    | false =>
      have e0 : nameB false ns = [] := rfl
      rw [e0, List.nil_append] at h
      have h1 := hf t (by simp) p h.left
      have h2 := partsO_at hL false ps ns.tail (by simp) (fun t ht => hf t (by simp [ht])) h.right
      simp only [List.length_cons, partsO, Bool.false_eq_true, if_false, h1, h2, encPs, e0, List.nil_append, List.length_append, Nat.add_assoc]
    | true =>
      match ns, hn with
      | [], hn => have := hn rfl; simp at this
      | n :: ns, hn =>
        have e0 : nameB true (n :: ns) = textB n := rfl
        rw [e0] at h
        have h0 := textO_at h.left hL
        have h1 := hf t (by simp) _ h.right.left
        have h2 := partsO_at hL true ps ns (fun _ => by have := hn rfl; simpa using this) (fun t ht => hf t (by simp [ht])) h.right.right
        simp only [List.length_cons, partsO, if_true, h0, h1, h2, encPs, e0, List.tail_cons, List.length_append]
        simp only [Nat.add_assoc]

theorem depTs_mem {k : Nat} : ∀ {ps : List Lt}, depTs ps ≤ k → ∀ p ∈ ps, depT p ≤ k
  | [], _, p, hp => by cases hp
  | q :: ps, h, p, hp => by
    simp only [depTs] at h
    rcases List.mem_cons.1 hp with rfl | hp
    · omega
    · exact depTs_mem (by omega) p hp

theorem visT_zero' {d n : Nat} {l : Lt} (h : (visT d n l).1 = 0) : d ≤ 6 ∧ nodeE l = 0 ∧ ∀ p ∈ l.parts, ∃ m, (visT (d + 1) m p).1 = 0 := by
  rw [visT_open] at h
  split at h
  · cases h
  rename_i h1
  split at h
  · rename_i h2; exact absurd h h2
  rename_i h2
  refine ⟨by omega, by simpa using h2, ?_⟩
  have key : ∀ {ps : List Lt} {d n : Nat}, (visTs d n ps).1 = 0 → ∀ p ∈ ps, ∃ m, (visT d m p).1 = 0 := by
    intro ps
    induction ps with
    | nil => intro d n _ p hp; cases hp
    | cons q ps ih =>
      intro d n h p hp
      simp only [visTs] at h
      split at h
      · rename_i h1; exact absurd h h1
      · rename_i h1
        rcases List.mem_cons.1 hp with rfl | hp
        · exact ⟨n, by simpa using h1⟩
        · exact ih h p hp
  exact key h
theorem nodeE_zero {l : Lt} (h : nodeE l = 0) : shapeT l = true ∧ limT l = false ∧ spellT l = true ∧ rngT l = false ∧ chnT l = false := by
  unfold nodeE at h
  cases e1 : shapeT l
  · rw [e1] at h; cases h
  rw [e1] at h
  simp only [if_true, or4] at h
  cases e2 : limT l <;> cases e3 : spellT l <;> cases e4 : rngT l <;> cases e5 : chnT l <;> simp [e2, e3, e4, e5] at h ⊢

theorem shapeT_spec {l : Lt} (h : shapeT l = true) : 0 ≤ l.kind ∧ l.kind ≤ 10 ∧ 1 ≤ l.kind ∧ (l.kind ≠ 2 → l.kind ≠ 3 → l.lo = 0 ∧ l.hi = 0) ∧ (l.kind ≠ 10 → l.rules = []) ∧ (l.kind = 2 ∨ l.kind = 3 → l.parts = [] ∧ l.names = []) ∧ (l.kind = 4 ∨ l.kind = 8 ∨ l.kind = 10 → l.parts = []) ∧
    (l.kind = 5 → l.parts.length = 1) ∧ (l.kind = 7 → l.parts.length = 2 ∧ l.names = []) ∧ (l.kind = 6 → l.names.length = l.parts.length) ∧ (l.kind = 1 ∨ l.kind = 9 → l.parts = [] ∧ l.names = []) := by
  have e : ∀ {α : Type} (x : List α), x = [] ↔ x.length = 0 := fun x => List.length_eq_zero_iff.symm
  simp only [e]
  simp only [shapeT] at h
  split at h
  · simp only [decide_eq_true_eq] at h; omega
  split at h
  · simp only [decide_eq_true_eq] at h; omega
  split at h
  · simp only [decide_eq_true_eq] at h; omega
  split at h
  · simp only [decide_eq_true_eq] at h; omega
  split at h
  · simp only [decide_eq_true_eq] at h; omega
  split at h
  · simp only [decide_eq_true_eq] at h; omega
  split at h
  · simp only [decide_eq_true_eq] at h; omega
  · cases h

theorem rT_at {L : Bs} (hL : L.length < 2^64) (t : Lt) : ∀ {d n lv p : Nat}, (visT d n t).1 = 0 → depT t ≤ lv → AtL L p (encT t) → rT L lv (some p) = (t, some (p + (encT t).length)) := by
  refine ltInd (P := fun t => ∀ {d n lv p : Nat}, (visT d n t).1 = 0 → depT t ≤ lv → AtL L p (encT t) → rT L lv (some p) = (t, some (p + (encT t).length))) ?_ t
  intro t ih d n lv p hv hd ha
  obtain ⟨h6, hnode, hparts⟩ := visT_zero' hv
  obtain ⟨hsh, hlim, hspell, hrng, hchn⟩ := nodeE_zero hnode
  obtain ⟨s1, s2, s3, s4, s5, s6, s7, s8, s9, s10, s11⟩ := shapeT_spec hsh
  replace hrng := of_decide_eq_false hrng
  rw [depT_open] at hd
  obtain ⟨lv', rfl⟩ : ∃ lv', lv = lv' + 1 := ⟨lv - 1, by omega⟩
  have hdp := depTs_mem (ps := t.parts) (k := lv') (by omega)
  have hread : ∀ u ∈ t.parts, ∀ q, AtL L q (encT u) → rT L lv' (some q) = (u, some (q + (encT u).length)) := by
    intro u hu q hq
    obtain ⟨j, hj, rfl⟩ := List.getElem_of_mem hu
    obtain ⟨m, hm⟩ := hparts _ hu
    exact ih j hj hm (hdp _ hu) hq
  rw [encT_open] at ha
  have hlen : (encT t).length = (headB t).length + ((encPs (decide (t.kind = 6)) t.parts t.names).length + (tailB t).length) := by
    rw [encT_open]; simp only [List.length_append]
  obtain ⟨q6, hq6⟩ : ∃ q, q = decide (t.kind = 6) := ⟨_, rfl⟩
  rw [← hq6] at ha hlen
  have q6t : t.kind = 6 → q6 = true := fun e => by rw [hq6]; exact decide_eq_true e
  have q6f : t.kind ≠ 6 → q6 = false := fun e => by rw [hq6]; exact decide_eq_false e
  clear hq6
  obtain ⟨k, lo, hi, ns, ps, rs⟩ := t
  simp only [Lt.kind, Lt.lo, Lt.hi, Lt.names, Lt.parts, Lt.rules] at s1 s2 s3 s4 s5 s6 s7 s8 s9 s10 s11 q6t q6f hrng ha hlen hparts hd hdp hread ⊢
  have hhead : headB (.mk k lo hi ns ps rs) = enc k.toNat ++ (if k = 2 ∨ k = 3 then enc (zig lo) ++ enc (zig hi) else if k = 4 ∨ k = 8 ∨ k = 5 ∨ k = 10 then strsB ns else if k = 6 then enc ns.length else []) := rfl
  have htail : tailB (.mk k lo hi ns ps rs) = if k = 10 then enc rs.length ++ rs.flatMap ruleB else [] := rfl
  rw [hhead, htail] at ha hlen
  have h1 := uintO_at (n := k.toNat) ha.left.left (by omega)
  have hzl : zig lo < 2^64 := by unfold zig; split <;> omega
  have hzh : zig hi < 2^64 := by unfold zig; split <;> omega
  simp only [rT, h1]
  rw [if_neg (by omega)]
  have hkk : ((k.toNat : Nat) : Int) = k := by omega
  simp only [nodeO, hkk]
  by_cases k2 : k = 2 ∨ k = 3
  · have e : headO L k.toNat (some (p + (enc k.toNat).length)) = ⟨lo, hi, [], 0, some (p + (enc k.toNat).length + (enc (zig lo)).length + (enc (zig hi)).length)⟩ := by
      rw [if_pos k2] at ha
      have h2 := uintO_at (n := zig lo) ha.left.right.left hzl
      have h3 := uintO_at (n := zig hi) ha.left.right.right hzh
      unfold headO
      rw [if_pos (by omega)]
      simp only [h2, h3, zag_zig]
    rw [if_pos k2] at hlen
    obtain ⟨rfl, rfl⟩ := s6 k2
    obtain rfl := s5 (by omega)
    simp only [e, partsO]
    rw [if_neg (by omega)]
    rw [if_neg (by omega)] at hlen
    simp only [encPs, List.length_append, List.length_nil] at hlen
    simp only [List.append_nil, Prod.mk.injEq, Option.some.injEq, true_and]
    rw [hlen]; omega
  rw [if_neg k2] at ha hlen
  obtain ⟨rfl, rfl⟩ := s4 (by omega) (by omega)
  by_cases k10 : k = 10
  · subst k10
    obtain rfl := s7 (by omega)
    simp only [encPs, List.nil_append, List.length_nil, Nat.zero_add, or_true, if_true] at ha hlen
    have h2 := listO_at ha.left.right hL
    have e : headO L (10 : Int).toNat (some (p + (enc (10 : Int).toNat).length)) = ⟨0, 0, ns, 0, some (p + (enc (10 : Int).toNat).length + (strsB ns).length)⟩ := by
      unfold headO
      rw [if_neg (by decide), if_pos (by decide)]
      simp only [h2]
    have h3 := ha.right
    simp only [List.length_append] at h3
    rw [← Nat.add_assoc] at h3
    have h4 := countO_at h3 (flat_len ruleB_pos rs) hL
    have h5 := rulesO_at hL rs h3.right
    simp only [e, partsO, h4, h5]
    rw [if_pos (by decide)]
    simp only [List.append_nil, Prod.mk.injEq, Option.some.injEq, true_and]
    rw [hlen]; simp only [List.length_append]; omega
  obtain rfl := s5 k10
  rw [if_neg k10] at ha hlen
  try simp only [List.append_nil] at ha
  try simp only [List.length_nil, Nat.add_zero] at hlen
  -- the parts
  have parts : ∀ (hd : Hd) (w : Bs), headO L k.toNat (some (p + (enc k.toNat).length)) = hd → hd.n = ps.length → hd.lo = 0 → hd.hi = 0 → hd.s = some (p + (enc k.toNat).length + w.length) → (k = 6 → hd.names = []) → (k ≠ 6 → hd.names = ns) →
      AtL L p ((enc k.toNat ++ w) ++ encPs q6 ps ns) → (encT (.mk k 0 0 ns ps [])).length = (enc k.toNat ++ w).length + (encPs q6 ps ns).length →
      (if k.toNat = 10 then ((.mk k (headO L k.toNat (some (p + (enc k.toNat).length))).lo (headO L k.toNat (some (p + (enc k.toNat).length))).hi ((headO L k.toNat (some (p + (enc k.toNat).length))).names ++ (partsO (rT L lv') (k.toNat == 6) L (headO L k.toNat (some (p + (enc k.toNat).length))).n (headO L k.toNat (some (p + (enc k.toNat).length))).s).1) (partsO (rT L lv') (k.toNat == 6) L (headO L k.toNat (some (p + (enc k.toNat).length))).n (headO L k.toNat (some (p + (enc k.toNat).length))).s).2.1 (rulesO L (countO L (partsO (rT L lv') (k.toNat == 6) L (headO L k.toNat (some (p + (enc k.toNat).length))).n (headO L k.toNat (some (p + (enc k.toNat).length))).s).2.2).1 (countO L (partsO (rT L lv') (k.toNat == 6) L (headO L k.toNat (some (p + (enc k.toNat).length))).n (headO L k.toNat (some (p + (enc k.toNat).length))).s).2.2).2).1, (rulesO L (countO L (partsO (rT L lv') (k.toNat == 6) L (headO L k.toNat (some (p + (enc k.toNat).length))).n (headO L k.toNat (some (p + (enc k.toNat).length))).s).2.2).1 (countO L (partsO (rT L lv') (k.toNat == 6) L (headO L k.toNat (some (p + (enc k.toNat).length))).n (headO L k.toNat (some (p + (enc k.toNat).length))).s).2.2).2).2) : Lt × Pl)
        else (.mk k (headO L k.toNat (some (p + (enc k.toNat).length))).lo (headO L k.toNat (some (p + (enc k.toNat).length))).hi ((headO L k.toNat (some (p + (enc k.toNat).length))).names ++ (partsO (rT L lv') (k.toNat == 6) L (headO L k.toNat (some (p + (enc k.toNat).length))).n (headO L k.toNat (some (p + (enc k.toNat).length))).s).1) (partsO (rT L lv') (k.toNat == 6) L (headO L k.toNat (some (p + (enc k.toNat).length))).n (headO L k.toNat (some (p + (enc k.toNat).length))).s).2.1 [], (partsO (rT L lv') (k.toNat == 6) L (headO L k.toNat (some (p + (enc k.toNat).length))).n (headO L k.toNat (some (p + (enc k.toNat).length))).s).2.2)) = (.mk k 0 0 ns ps [], some (p + (encT (.mk k 0 0 ns ps [])).length)) := by
    intro hd w he hn hlo hhi hs hn6 hn6' hat hle
    rw [he, hn, hlo, hhi, hs]
    have hq : (k.toNat == 6) = q6 := by
      by_cases e : k = 6
      · rw [q6t e]; subst e; rfl
      · rw [q6f e]; simp; omega
    have h3 := hat.right
    simp only [List.length_append] at h3
    rw [← Nat.add_assoc] at h3
    have hnl : q6 = true → ns.length = ps.length := by
      intro e
      refine s10 ?_
      by_cases e6 : k = 6
      · exact e6
      · rw [q6f e6] at e; cases e
    have h4 := partsO_at hL q6 ps ns hnl hread h3
    rw [hq, h4, if_neg (by omega)]
    have hnn : hd.names ++ (if q6 = true then ns else []) = ns := by
      by_cases e : k = 6
      · rw [hn6 e, q6t e]; simp
      · rw [hn6' e, q6f e]; simp
    rw [hnn]
    simp only [Prod.mk.injEq, Option.some.injEq, true_and]
    rw [hle]; simp only [List.length_append]; omega
  by_cases kn : k = 4 ∨ k = 8 ∨ k = 5 ∨ k = 10
  · rw [if_pos kn] at ha hlen
    have h2 := listO_at ha.left.right hL
    by_cases k5 : k = 5
    · refine parts _ (strsB ns) (by unfold headO; rw [if_neg (by omega), if_neg (by omega), if_pos (by omega)]) ?_ rfl rfl (by simp only [h2]) (fun e => by omega) (fun _ => by simp only [h2]) ha hlen
      exact (s8 k5).symm
    · refine parts _ (strsB ns) (by unfold headO; rw [if_neg (by omega), if_pos (by omega)]) ?_ rfl rfl (by simp only [h2]) (fun e => by omega) (fun _ => by simp only [h2]) ha hlen
      rw [s7 (by omega)]; rfl
  rw [if_neg kn] at ha hlen
  by_cases k6 : k = 6
  · rw [if_pos k6] at ha hlen
    have hnl : ps.length = ns.length := (s10 k6).symm
    have h3 := ha
    rw [List.append_assoc] at h3
    have h4 := countO_at h3.right (by have := encPs_len q6 ps ns; omega) hL
    refine parts _ (enc ns.length) (by unfold headO; rw [if_neg (by omega), if_neg (by omega), if_neg (by omega), if_neg (by omega), if_pos (by omega)]) (by simp only [h4]; omega) rfl rfl (by simp only [h4]) (fun _ => rfl) (fun e => absurd k6 e) ha hlen
  rw [if_neg k6] at ha hlen
  simp only [List.append_nil] at ha hlen
  have hns : ns = [] := by
    by_cases k7 : k = 7
    · exact (s9 k7).2
    · exact (s11 (by omega)).2
  by_cases k7 : k = 7
  · refine parts _ [] (by unfold headO; rw [if_neg (by omega), if_neg (by omega), if_neg (by omega), if_pos (by omega)]) ?_ rfl rfl (by simp) (fun e => by omega) (fun _ => hns.symm) (by simpa using ha) (by simpa using hlen)
    exact (s9 k7).1.symm
  · refine parts _ [] (by unfold headO; rw [if_neg (by omega), if_neg (by omega), if_neg (by omega), if_neg (by omega), if_neg (by omega)]) ?_ rfl rfl (by simp) (fun e => by omega) (fun _ => hns.symm) (by simpa using ha) (by simpa using hlen)
    rw [(s11 (by omega)).1]; rfl

end Go.Proofs.Ytcilkhjadljaaaa
