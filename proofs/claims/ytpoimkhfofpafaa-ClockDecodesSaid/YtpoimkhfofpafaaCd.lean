/- Decoding of version vectors: the plain facts. -/
import Derived.Test.YtpoimkhfofpafaaNu
import Derived.Test.YtpoimkhfofpafaaCe
set_option linter.unusedSimpArgs false
set_option linter.unusedVariables false
set_option maxRecDepth 8000
namespace Go.Proofs.Ytpoimkhfofpafaa
open Gx Go

/-- The pairs that the program reads: none where one is too great. -/
def decF (b : List UInt8) : Nat → Nat → Nat → List Tk → Option (List Tk × Nat × Nat)
  | 0, at_, err, out => some (out, at_, err)
  | k + 1, at_, err, out =>
    let x := uintR b at_ err
    let y := uintR b x.2.1 x.2.2
    if 63 < x.1 ∨ 1000000000000000 < y.1 then none else decF b k y.2.1 y.2.2 (out ++ [((x.1 : Int), (y.1 : Int))])

def okT (b : List UInt8) (x : List Tk × Nat × Nat) : Bool := decide (x.2.2 = 0) && decide (x.2.1 = b.length) && valid x.1
def decT (b : List UInt8) : List Tk × Int :=
  let c := countR b 0 0
  match decF b c.1 c.2.1 c.2.2 [] with
  | some x => if okT b x then (x.1, 0) else ([], 2)
  | none => ([], 2)

theorem uintR_err {l : List UInt8} {a e : Nat} (h : e ≠ 0) : uintR l a e = (0, a, e) := by unfold uintR; rw [if_neg h]
theorem uintR_ok {l : List UInt8} {a e n a' : Nat} (h : uintR l a e = (n, a', 0)) (ha : a ≤ l.length) : e = 0 ∧ n < 2^64 ∧ l.take a' = l.take a ++ enc n ∧ a ≤ a' ∧ a' ≤ l.length := by
  by_cases he : e = 0
  · subst he
    unfold uintR at h
    rw [if_pos rfl] at h
    split at h
    · rename_i m k hn
      simp at h
      obtain ⟨rfl, rfl⟩ := h
      have hb := num_bound hn
      have hc := num_canon hn
      simp only [List.length_drop] at hb
      refine ⟨rfl, hb.1, ?_, by omega, by omega⟩
      rw [← hc, List.take_add]
    · simp at h
  · rw [uintR_err he] at h
    simp at h
    exact absurd h.2.2 he

theorem decF_none_ok {b : List UInt8} : ∀ {k a e : Nat} {out : List Tk} {x : List Tk × Nat × Nat}, decF b k a e out = some x → x.2.2 = 0 → a ≤ b.length →
    e = 0 ∧ ∃ l, x.1 = out ++ l ∧ l.length = k ∧ b.take x.2.1 = b.take a ++ encsK l ∧ x.2.1 ≤ b.length
  | 0, a, e, out, x, h, h0, ha => by
    simp [decF] at h; subst h
    exact ⟨h0, [], by simp, rfl, by simp [encsK], ha⟩
  | k + 1, a, e, out, x, h, h0, ha => by
    simp only [decF] at h
    split at h
    · cases h
    rcases hx : uintR b a e with ⟨p, a1, e1⟩
    rw [hx] at h
    rcases hy : uintR b a1 e1 with ⟨n, a2, e2⟩
    simp only [hy] at h
    have ha2 : ∀ e', e1 = e' → a1 ≤ b.length := fun e' _ => by
      by_cases he : e = 0
      · subst he
        unfold uintR at hx
        rw [if_pos rfl] at hx
        split at hx
        · rename_i m j hn
          have := num_bound hn
          simp at hx; simp only [List.length_drop] at this; omega
        · simp at hx; omega
      · rw [uintR_err he] at hx; simp at hx; omega
    have ha3 : a2 ≤ b.length := by
      by_cases he : e1 = 0
      · subst he
        unfold uintR at hy
        rw [if_pos rfl] at hy
        split at hy
        · rename_i m j hn
          have := num_bound hn
          have := ha2 0 rfl
          simp at hy; simp only [List.length_drop] at *; omega
        · have := ha2 0 rfl
          simp at hy; omega
      · have := ha2 e1 rfl
        rw [uintR_err he] at hy; simp at hy; omega
    obtain ⟨q0, l, q1, q2, q3, q4⟩ := decF_none_ok h h0 ha3
    subst q0
    obtain ⟨r0, r1, r2, r3, r4⟩ := uintR_ok hy (ha2 e1 rfl)
    subst r0
    obtain ⟨s0, s1, s2, s3, s4⟩ := uintR_ok hx ha
    refine ⟨s0, ((p : Int), (n : Int)) :: l, by rw [q1]; simp, by simp [q2], ?_, q4⟩
    rw [q3, r2, s2]
    simp [encsK, encK]

theorem countR_ok {b : List UInt8} {n a : Nat} (h : countR b 0 0 = (n, a, 0)) : b.take a = enc n ∧ a ≤ b.length := by
  unfold countR at h
  rw [if_pos rfl] at h
  simp only [List.drop_zero] at h
  split at h
  · rename_i m k hn
    have hb := num_bound hn
    split at h
    · simp at h; obtain ⟨rfl, rfl⟩ := h
      exact ⟨num_canon hn, by omega⟩
    · simp at h
  · simp at h

/-- What is decoded is the encoding. -/
theorem dec_sound {b : List UInt8} {l : List Tk} (h : decT b = (l, 0)) : valid l = true ∧ b = encT l := by
  unfold decT at h
  simp only at h
  split at h
  · rename_i x hx
    split at h
    · rename_i hok
      simp only [okT, Bool.and_eq_true, decide_eq_true_eq] at hok
      simp at h; subst h
      rcases hc : countR b 0 0 with ⟨n, a, e⟩
      rw [hc] at hx
      have ha : a ≤ b.length := by
        unfold countR at hc
        rw [if_pos rfl] at hc
        simp only [List.drop_zero] at hc
        split at hc
        · split at hc <;> simp at hc <;> omega
        · simp at hc; omega
      obtain ⟨q0, l, q1, q2, q3, q4⟩ := decF_none_ok hx hok.1.1 ha
      subst q0
      obtain ⟨c1, c2⟩ := countR_ok hc
      simp at q1
      refine ⟨hok.2, ?_⟩
      have e1 : b = b.take x.2.1 := by rw [hok.1.2]; simp
      unfold encT
      rw [if_pos hok.2, q1, q2, e1, q3, c1]
    · simp at h
  · simp at h

theorem decF_enc (pre r : List UInt8) : ∀ (l : List Tk) (out : List Tk) (pre : List UInt8), (∀ t ∈ l, 0 ≤ t.1 ∧ t.1 ≤ 63 ∧ 1 ≤ t.2 ∧ t.2 ≤ 1000000000000000) →
    decF (pre ++ (encsK l ++ r)) l.length pre.length 0 out = some (out ++ l, pre.length + (encsK l).length, 0)
  | [], out, pre, _ => by simp [decF, encsK]
  | t :: l, out, pre, h => by
    obtain ⟨h1, h2, h3, h4⟩ := h t (by simp)
    have e1 : pre ++ (encsK (t :: l) ++ r) = pre ++ (enc t.1.toNat ++ (enc t.2.toNat ++ (encsK l ++ r))) := by simp [encsK, encK]
    have e2 : pre ++ (encsK (t :: l) ++ r) = (pre ++ enc t.1.toNat) ++ (enc t.2.toNat ++ (encsK l ++ r)) := by simp [encsK, encK]
    have e3 : pre ++ (encsK (t :: l) ++ r) = (pre ++ encK t) ++ (encsK l ++ r) := by simp [encsK, encK]
    have u1 : uintR (pre ++ (encsK (t :: l) ++ r)) pre.length 0 = (t.1.toNat, pre.length + (enc t.1.toNat).length, 0) := by rw [e1]; exact uintR_at _ _ _ (by omega)
    have u2 : uintR (pre ++ (encsK (t :: l) ++ r)) (pre.length + (enc t.1.toNat).length) 0 = (t.2.toNat, pre.length + (enc t.1.toNat).length + (enc t.2.toNat).length, 0) := by
      rw [e2]
      have := uintR_at (pre ++ enc t.1.toNat) (encsK l ++ r) t.2.toNat (by omega)
      simpa using this
    simp only [List.length_cons, decF, u1, u2]
    rw [if_neg (by omega)]
    have ih := decF_enc pre r l (out ++ [t]) (pre ++ encK t) (fun s hs => h s (by simp [hs]))
    have e4 : ((t.1.toNat : Nat) : Int) = t.1 := by omega
    have e5 : ((t.2.toNat : Nat) : Int) = t.2 := by omega
    have e6 : (pre ++ encK t).length = pre.length + (enc t.1.toNat).length + (enc t.2.toNat).length := by simp [encK, Nat.add_assoc]
    rw [e4, e5, e3, ← e6, show ((t.1, t.2) : Tk) = t from rfl, ih]
    simp only [encsK, List.flatMap_cons, List.length_append, List.append_assoc, List.cons_append, List.nil_append, Option.some.injEq, Prod.mk.injEq, true_and, and_true]
    omega

theorem len_encsK_ge : ∀ l : List Tk, 2 * l.length ≤ (encsK l).length
  | [] => by simp
  | t :: l => by
    have := len_enc_pos t.1.toNat
    have := len_enc_pos t.2.toNat
    have := len_encsK_ge l
    simp [encsK, encK] at *; omega
theorem len_valid {l : List Tk} {x : Int} : validF x l = true → -1 ≤ x → x + l.length ≤ 63 ∨ l = [] := by
  induction l generalizing x with
  | nil => intro _ _; exact .inr rfl
  | cons t l ih =>
    intro h hx
    simp only [validF, Bool.and_eq_true, decide_eq_true_eq] at h
    refine .inl ?_
    rcases ih h.2 (by omega) with h' | h'
    · simp; omega
    · subst h'; simp; omega

/-- What the program reads of an encoding with bytes behind it. -/
theorem run_enc {l : List Tk} (hv : valid l = true) (r : List UInt8) :
    decF (encT l ++ r) (countR (encT l ++ r) 0 0).1 (countR (encT l ++ r) 0 0).2.1 (countR (encT l ++ r) 0 0).2.2 [] = some (l, (encT l).length, 0) := by
  have hE : encT l = enc l.length ++ encsK l := by unfold encT; rw [hv]; rfl
  have hlen := len_encsK_ge l
  have hl64 : l.length < 2^64 := by
    rcases len_valid hv (by decide) with h | h
    · omega
    · subst h; decide
  have hc : countR (encT l ++ r) 0 0 = (l.length, (enc l.length).length, 0) := by
    unfold countR
    rw [if_pos rfl, hE, List.append_assoc]
    simp only [List.drop_zero, num_enc _ hl64]
    rw [if_pos (by simp; omega)]
    simp
  rw [hc, hE, List.append_assoc]
  have := decF_enc [] r l [] (enc l.length) (valid_mem hv (by decide))
  simpa using this

theorem dec_enc {l : List Tk} (hv : valid l = true) : decT (encT l) = (l, 0) := by
  have := run_enc hv []
  simp only [List.append_nil] at this
  unfold decT
  simp only [this]
  rw [if_pos]
  simp [okT, hv]

/-- An encoding with bytes behind it is none. -/
theorem dec_more {l : List Tk} (hv : valid l = true) {r : List UInt8} (hr : r ≠ []) : decT (encT l ++ r) = ([], 2) := by
  have := run_enc hv r
  unfold decT
  simp only [this]
  rw [if_neg]
  simp only [okT, Bool.and_eq_true, decide_eq_true_eq, List.length_append]
  have : 0 < r.length := List.length_pos_iff.2 hr
  omega

theorem decT_cases (b : List UInt8) : (decT b = ([], 2)) ∨ ∃ l, decT b = (l, 0) := by
  unfold decT
  simp only
  split
  · split
    · exact .inr ⟨_, rfl⟩
    · exact .inl rfl
  · exact .inl rfl

/-- An encoding that is cut off is none. -/
theorem dec_cut {l : List Tk} (hv : valid l = true) {k : Nat} (hk : k < (encT l).length) : decT ((encT l).take k) = ([], 2) := by
  rcases decT_cases ((encT l).take k) with h | ⟨m, h⟩
  · exact h
  · exfalso
    obtain ⟨h1, h2⟩ := dec_sound h
    have e : encT l = encT m ++ (encT l).drop k := by rw [← h2]; simp
    have r1 := run_enc hv []
    have r2 := run_enc h1 ((encT l).drop k)
    rw [← e] at r2
    simp only [List.append_nil] at r1
    rw [r1] at r2
    simp only [Option.some.injEq, Prod.mk.injEq, and_true] at r2
    have h3 := congrArg List.length h2
    rw [List.length_take] at h3
    omega

/-! ### the reference -/

def rnum (l : List UInt8) : Option (Nat × Nat) := match num l with
  | some (n, k) => if k ≤ 8 then some (n, k) else none
  | none => none

def rdecF (b : List UInt8) : Nat → Nat → List Tk → Option (List Tk × Nat)
  | 0, at_, out => some (out, at_)
  | k + 1, at_, out => match rnum (b.drop at_) with
    | none => none
    | some (p, i) => if 63 < p then none else match rnum (b.drop (at_ + i)) with
      | none => none
      | some (n, j) => if 1000000000000000 < n then none else rdecF b k (at_ + i + j) (out ++ [((p : Int), (n : Int))])

def rdecT (b : List UInt8) : List Tk × Int := match rnum b with
  | none => ([], 2)
  | some (n, k) => if 64 < n then ([], 2) else match rdecF b n k [] with
    | none => ([], 2)
    | some x => if x.2 = b.length ∧ valid x.1 = true then (x.1, 0) else ([], 2)

theorem rnum_canon {l : List UInt8} {v k : Nat} (h : rnum l = some (v, k)) : l.take k = enc v ∧ k ≤ l.length ∧ k ≤ 8 := by
  unfold rnum at h
  split at h
  · rename_i n i hn
    split at h
    · simp at h; obtain ⟨rfl, rfl⟩ := h
      have := num_bound hn
      exact ⟨num_canon hn, by omega, by assumption⟩
    · cases h
  · cases h
theorem rnum_enc {n : Nat} (h : n < 2^56) (r : List UInt8) : rnum (enc n ++ r) = some (n, (enc n).length) := by
  unfold rnum
  rw [num_enc n (by omega)]
  simp only
  rw [if_pos (len_enc (f := 8) (by omega) (by decide))]

theorem rdecF_ok {b : List UInt8} : ∀ {k a : Nat} {out : List Tk} {x : List Tk × Nat}, rdecF b k a out = some x → a ≤ b.length →
    ∃ l, x.1 = out ++ l ∧ l.length = k ∧ b.take x.2 = b.take a ++ encsK l ∧ x.2 ≤ b.length
  | 0, a, out, x, h, ha => by
    simp [rdecF] at h; subst h
    exact ⟨[], by simp, rfl, by simp [encsK], ha⟩
  | k + 1, a, out, x, h, ha => by
    simp only [rdecF] at h
    split at h
    · cases h
    rename_i p i hp
    split at h
    · cases h
    split at h
    · cases h
    rename_i n j hn
    split at h
    · cases h
    obtain ⟨c1, c2, _⟩ := rnum_canon hp
    obtain ⟨d1, d2, _⟩ := rnum_canon hn
    simp only [List.length_drop] at c2 d2
    obtain ⟨l, q1, q2, q3, q4⟩ := rdecF_ok h (by omega)
    refine ⟨((p : Int), (n : Int)) :: l, by rw [q1]; simp, by simp [q2], ?_, q4⟩
    rw [q3, List.take_add, d1, List.take_add, c1]
    simp [encsK, encK]

theorem rdec_sound {b : List UInt8} {l : List Tk} (h : rdecT b = (l, 0)) : valid l = true ∧ b = encT l := by
  unfold rdecT at h
  split at h
  · simp at h
  rename_i n k hn
  split at h
  · simp at h
  split at h
  · simp at h
  rename_i x hx
  split at h
  · rename_i hok
    simp at h; subst h
    obtain ⟨c1, c2, _⟩ := rnum_canon hn
    obtain ⟨l, q1, q2, q3, q4⟩ := rdecF_ok hx c2
    simp at q1
    refine ⟨hok.2, ?_⟩
    have e1 : b = b.take x.2 := by rw [hok.1]; simp
    unfold encT
    rw [if_pos hok.2, q1, q2, e1, q3, c1]
  · simp at h

theorem rdecF_enc (r : List UInt8) : ∀ (l : List Tk) (out : List Tk) (pre : List UInt8), (∀ t ∈ l, 0 ≤ t.1 ∧ t.1 ≤ 63 ∧ 1 ≤ t.2 ∧ t.2 ≤ 1000000000000000) →
    rdecF (pre ++ (encsK l ++ r)) l.length pre.length out = some (out ++ l, pre.length + (encsK l).length)
  | [], out, pre, _ => by simp [rdecF, encsK]
  | t :: l, out, pre, h => by
    obtain ⟨h1, h2, h3, h4⟩ := h t (by simp)
    have e1 : (pre ++ (encsK (t :: l) ++ r)).drop pre.length = enc t.1.toNat ++ (enc t.2.toNat ++ (encsK l ++ r)) := by simp [encsK, encK]
    have e2 : (pre ++ (encsK (t :: l) ++ r)).drop (pre.length + (enc t.1.toNat).length) = enc t.2.toNat ++ (encsK l ++ r) := by
      rw [← List.drop_drop, e1]; simp
    have e3 : pre ++ (encsK (t :: l) ++ r) = (pre ++ encK t) ++ (encsK l ++ r) := by simp [encsK, encK]
    simp only [List.length_cons, rdecF, e1, rnum_enc (n := t.1.toNat) (by omega), e2, rnum_enc (n := t.2.toNat) (by omega)]
    rw [if_neg (by omega), if_neg (by omega)]
    have ih := rdecF_enc r l (out ++ [t]) (pre ++ encK t) (fun s hs => h s (by simp [hs]))
    have e4 : ((t.1.toNat : Nat) : Int) = t.1 := by omega
    have e5 : ((t.2.toNat : Nat) : Int) = t.2 := by omega
    have e6 : (pre ++ encK t).length = pre.length + (enc t.1.toNat).length + (enc t.2.toNat).length := by simp [encK, Nat.add_assoc]
    rw [e4, e5, e3, ← e6, show ((t.1, t.2) : Tk) = t from rfl, ih]
    simp only [encsK, List.flatMap_cons, List.length_append, List.append_assoc, List.cons_append, List.nil_append, Option.some.injEq, Prod.mk.injEq, true_and, and_true]
    omega

theorem rdec_enc {l : List Tk} (hv : valid l = true) : rdecT (encT l) = (l, 0) := by
  have hE : encT l = enc l.length ++ encsK l := by unfold encT; rw [hv]; rfl
  have hl64 : l.length ≤ 64 := by
    rcases len_valid hv (by decide) with h | h
    · omega
    · subst h; decide
  unfold rdecT
  rw [hE, rnum_enc (by omega)]
  simp only
  rw [if_neg (by omega)]
  have := rdecF_enc [] l [] (enc l.length) (valid_mem hv (by decide))
  simp only [List.append_nil, List.nil_append] at this
  rw [this]
  simp [hv]

theorem rdecT_cases (b : List UInt8) : (rdecT b = ([], 2)) ∨ ∃ l, rdecT b = (l, 0) := by
  unfold rdecT
  split
  · exact .inl rfl
  split
  · exact .inl rfl
  split
  · exact .inl rfl
  split
  · exact .inr ⟨_, rfl⟩
  · exact .inl rfl

/-- Both decode the same. -/
theorem dec_eq (b : List UInt8) : decT b = rdecT b := by
  rcases decT_cases b with h | ⟨l, h⟩
  · rcases rdecT_cases b with h' | ⟨l', h'⟩
    · rw [h, h']
    · obtain ⟨h1, h2⟩ := rdec_sound h'
      rw [h2, dec_enc h1] at h
      simp at h
  · obtain ⟨h1, h2⟩ := dec_sound h
    rw [h2, dec_enc h1, rdec_enc h1]
end Go.Proofs.Ytpoimkhfofpafaa
