/- Messages as data: their form, their bytes, and the reading of them: plain facts. -/
import Derived.Test.YtdhlibkdcldioaaGreatFb
set_option linter.unusedSimpArgs false
set_option linter.unusedVariables false
set_option maxRecDepth 8000
namespace Go.Proofs.YtdhlibkdcldioaaGreat
open Gx Go

def decDen : (t : Ty) → DecidableEq (den t)
  | .num => inferInstanceAs (DecidableEq Int)
  | .bool => inferInstanceAs (DecidableEq Bool)
  | .bytes => inferInstanceAs (DecidableEq (List UInt8))
  | .text => inferInstanceAs (DecidableEq (List UInt8))
  | .list t => have := decDen t; inferInstanceAs (DecidableEq (List (den t)))
  | .pair a b => have := decDen a; have := decDen b; inferInstanceAs (DecidableEq (den a × den b))
instance (t : Ty) : DecidableEq (den t) := decDen t

structure Msg where
  kind : Int
  src : Int
  dst : Int
  round : den tRound
  reads : List (den tRead)
  base : List (den tBase)
  state : List (den tCmd)
  acks : List (den tAck)
  proof : List (den tProof)
  digests : List (den tDigest)
  objects : List Bs
  seq : Int
  items : List (den tItem)

def Msg.tup (m : Msg) : den tMsg := (m.kind, m.src, m.dst, m.round, m.reads, m.base, m.state, m.acks, m.proof, m.digests, m.objects, m.seq, m.items)
def Msg.of (d : den tMsg) : Msg := ⟨d.1, d.2.1, d.2.2.1, d.2.2.2.1, d.2.2.2.2.1, d.2.2.2.2.2.1, d.2.2.2.2.2.2.1, d.2.2.2.2.2.2.2.1, d.2.2.2.2.2.2.2.2.1, d.2.2.2.2.2.2.2.2.2.1, d.2.2.2.2.2.2.2.2.2.2.1, d.2.2.2.2.2.2.2.2.2.2.2.1, d.2.2.2.2.2.2.2.2.2.2.2.2⟩
theorem tup_of (d : den tMsg) : (Msg.of d).tup = d := rfl
theorem of_tup (m : Msg) : Msg.of m.tup = m := rfl
theorem tup_inj {a b : Msg} (h : a.tup = b.tup) : a = b := by rw [← of_tup a, ← of_tup b, h]
def Msg.zero : Msg := ⟨0, 0, 0, (0, 0, 0), [], [], [], [], [], [], [], 0, []⟩

/-- What follows the kind, by kind. -/
def payT : Nat → Ty
  | 1 => .pair tRound (.pair (.list tRead) (.pair (.list tBase) (.list tCmd)))
  | 2 => .pair tRound (.pair (.list tCmd) (.pair (.list tBase) (.list tAck)))
  | 3 => .pair (.list tProof) (.list tCmd)
  | 4 => .list tDigest
  | 5 => .list tCmd
  | 6 => .list tCmd
  | 7 => .pair (.list tRead) (.list .text)
  | _ => .pair (.list tProof) (.pair (.list tRead) (.pair .num (.list tItem)))
def payD (m : Msg) : (k : Nat) → den (payT k)
  | 0 => (m.proof, m.reads, m.seq, m.items)
  | 1 => (m.round, m.reads, m.base, m.state)
  | 2 => (m.round, m.state, m.base, m.acks)
  | 3 => (m.proof, m.state)
  | 4 => m.digests
  | 5 => m.state
  | 6 => m.state
  | 7 => (m.reads, m.objects)
  | _ + 8 => (m.proof, m.reads, m.seq, m.items)
/-- The message of a payload. -/
def mkM (k : Nat) (src dst : Int) (d : den (payT k)) : Msg :=
  match k, d with
  | 0, d => { Msg.zero with kind := 0, src, dst, proof := d.1, reads := d.2.1, seq := d.2.2.1, items := d.2.2.2 }
  | 1, d => { Msg.zero with kind := 1, src, dst, round := d.1, reads := d.2.1, base := d.2.2.1, state := d.2.2.2 }
  | 2, d => { Msg.zero with kind := 2, src, dst, round := d.1, state := d.2.1, base := d.2.2.1, acks := d.2.2.2 }
  | 3, d => { Msg.zero with kind := 3, src, dst, proof := d.1, state := d.2 }
  | 4, d => { Msg.zero with kind := 4, src, dst, digests := d }
  | 5, d => { Msg.zero with kind := 5, src, dst, state := d }
  | 6, d => { Msg.zero with kind := 6, src, dst, state := d }
  | 7, d => { Msg.zero with kind := 7, src, dst, reads := d.1, objects := d.2 }
  | k + 8, d => { Msg.zero with kind := (k + 8 : Nat), src, dst, proof := d.1, reads := d.2.1, seq := d.2.2.1, items := d.2.2.2 }
theorem payD_mkM {k : Nat} (src dst : Int) (d : den (payT k)) : payD (mkM k src dst d) k = d := by
  match k with
  | 0 | 1 | 2 | 3 | 4 | 5 | 6 | 7 | _ + 8 => rfl
theorem kind_mkM {k : Nat} (src dst : Int) (d : den (payT k)) : (mkM k src dst d).kind = k := by
  match k with
  | 0 | 1 | 2 | 3 | 4 | 5 | 6 | 7 | _ + 8 => rfl
theorem src_mkM {k : Nat} (src dst : Int) (d : den (payT k)) : (mkM k src dst d).src = src := by
  match k with
  | 0 | 1 | 2 | 3 | 4 | 5 | 6 | 7 | _ + 8 => rfl
theorem dst_mkM {k : Nat} (src dst : Int) (d : den (payT k)) : (mkM k src dst d).dst = dst := by
  match k with
  | 0 | 1 | 2 | 3 | 4 | 5 | 6 | 7 | _ + 8 => rfl

/-- Which fields are there, as bits. -/
def hasB (m : Msg) : List Bool := [decide (m.round ≠ (0, 0, 0)), decide (0 < m.reads.length), decide (0 < m.base.length), decide (0 < m.state.length), decide (0 < m.acks.length), decide (0 < m.proof.length), decide (0 < m.digests.length), decide (0 < m.objects.length), decide (m.seq ≠ 0), decide (0 < m.items.length)]
def useB : Int → List Bool
  | 1 => [true, true, true, true, false, false, false, false, false, false]
  | 2 => [true, false, true, true, true, false, false, false, false, false]
  | 3 => [false, false, false, true, false, true, false, false, false, false]
  | 4 => [false, false, false, false, false, false, true, false, false, false]
  | 5 => [false, false, false, true, false, false, false, false, false, false]
  | 6 => [false, false, false, true, false, false, false, false, false, false]
  | 7 => [false, true, false, false, false, false, false, true, false, false]
  | 8 => [false, true, false, false, false, true, false, false, true, true]
  | _ => [false, false, false, false, false, false, false, false, false, false]
def fitB : List Bool → List Bool → Bool
  | h :: hs, u :: us => (!h || u) && fitB hs us
  | _, _ => true
def countB (m : Msg) : Bool :=
  if m.kind = 1 then decide (m.base.length = 1)
  else if m.kind = 2 then decide (m.base.length ≤ 1) && decide (m.acks.length ≤ 1)
  else if m.kind = 3 then decide (m.proof.length = 1)
  else if m.kind = 6 then decide (m.state.length = 1)
  else if m.kind = 7 then decide (m.reads.length = 1)
  else if m.kind = 8 then decide (m.proof.length = 1) && ((decide (m.reads.length = 1) && decide (m.seq = 0)) || (decide (m.reads.length = 0) && decide (1 ≤ m.seq)))
  else true
def headB (m : Msg) : Bool := decide (1 ≤ m.kind) && decide (m.kind ≤ 8) && decide (0 ≤ m.src) && decide (m.src ≤ 63) && decide (0 ≤ m.dst) && decide (m.dst ≤ 63)
/-- The form. -/
def formB (m : Msg) : Bool := headB m && fitB (hasB m) (useB m.kind) && countB m

theorem form_head {m : Msg} (h : formB m = true) : 1 ≤ m.kind ∧ m.kind ≤ 8 ∧ 0 ≤ m.src ∧ m.src ≤ 63 ∧ 0 ≤ m.dst ∧ m.dst ≤ 63 := by
  simp only [formB, headB, Bool.and_eq_true, decide_eq_true_eq] at h
  obtain ⟨⟨⟨⟨⟨⟨⟨h1, h2⟩, h3⟩, h4⟩, h5⟩, h6⟩, _⟩, _⟩ := h
  exact ⟨h1, h2, h3, h4, h5, h6⟩
/-- What has the form holds nothing that its kind does not use. -/
theorem form_mkM {m : Msg} (h : formB m = true) {k : Nat} (hk : m.kind = k) : m = mkM k m.src m.dst (payD m k) := by
  have hh := form_head h
  have hk' : k = 1 ∨ k = 2 ∨ k = 3 ∨ k = 4 ∨ k = 5 ∨ k = 6 ∨ k = 7 ∨ k = 8 := by omega
  obtain ⟨kind, src, dst, round, reads, base, state, acks, proof, digests, objects, seq, items⟩ := m
  simp only at hk
  subst hk
  simp only [formB, Bool.and_eq_true] at h
  have h2 := h.1.2
  rcases hk' with rfl | rfl | rfl | rfl | rfl | rfl | rfl | rfl <;>
  · simp [hasB, useB, fitB] at h2
    simp [mkM, payD, Msg.zero, h2]

/-- The bytes of a message without its sum. -/
def encM (m : Msg) : Bs := enc m.kind.toNat ++ (enc (zig m.src) ++ (enc (zig m.dst) ++ encT (payT m.kind.toNat) (payD m m.kind.toNat)))
def okM (m : Msg) : Prop := okT tMsg m.tup
/-- The reading of a message. -/
def decM (L : Bs) : Option Msg :=
  let k := uintO L (some 0)
  let f := dT L .num k.2
  let t := dT L .num f.2
  if k.1 = 0 ∨ 8 < k.1 then none
  else
    let d := dT L (payT k.1) t.2
    if d.2 = some L.length then some (mkM k.1 f.1 t.1 d.1) else none
def decF (L : Bs) : Option Msg :=
  match decM L with
  | some m => if formB m then some m else none
  | none => none

theorem okM_pay {m : Msg} (h : okM m) : ∀ k, okT (payT k) (payD m k) := by
  obtain ⟨h1, h2, h3, h4, h5, h6, h7, h8, h9, h10, h11, h12, h13⟩ := h
  intro k
  match k with
  | 0 => exact ⟨h9, h5, h12, h13⟩
  | 1 => exact ⟨h4, h5, h6, h7⟩
  | 2 => exact ⟨h4, h7, h6, h8⟩
  | 3 => exact ⟨h9, h7⟩
  | 4 => exact h10
  | 5 => exact h7
  | 6 => exact h7
  | 7 => exact ⟨h5, h11⟩
  | _ + 8 => exact ⟨h9, h5, h12, h13⟩
theorem decM_encM {m : Msg} (hf : formB m = true) (ho : okM m) (hl : (encM m).length < 2^63) : decM (encM m) = some m := by
  have hh := form_head hf
  obtain ⟨k, hk⟩ : ∃ k : Nat, m.kind = k := ⟨m.kind.toNat, by omega⟩
  have hkn : m.kind.toNat = k := by omega
  have hE : encM m = enc k ++ (encT .num m.src ++ (encT .num m.dst ++ encT (payT k) (payD m k))) := by rw [encM, hkn]; rfl
  have hw := okM_pay ho k
  have a0 : AtL (encM m) 0 (enc k ++ (encT .num m.src ++ (encT .num m.dst ++ encT (payT k) (payD m k)))) := ⟨[], by rw [hE]; simp⟩
  have r0 := uintO_at a0.left (by omega)
  have a1 := a0.right
  have r1 := dT_at hl .num m.src ho.2.1 a1.left
  have a2 := a1.right
  have r2 := dT_at hl .num m.dst ho.2.2.1 a2.left
  have a3 := a2.right
  have r3 := dT_at hl (payT k) (payD m k) hw a3
  unfold decM
  rw [r0]
  simp only
  rw [r1]
  simp only
  rw [r2]
  simp only
  rw [if_neg (by omega), r3]
  simp only
  rw [if_pos (by rw [hE]; simp only [List.length_append]; congr 1; omega), ← form_mkM hf hk]
theorem decM_some {L : Bs} {m : Msg} (h : decM L = some m) : encM m = L := by
  unfold decM at h
  simp only at h
  split at h
  · cases h
  rename_i hk
  split at h
  · rename_i hd
    simp only [Option.some.injEq] at h
    generalize hu : uintO L (some 0) = u at h hd hk
    obtain ⟨k, s1⟩ := u
    simp only at h hd hk
    generalize hf : dT L .num s1 = f at h hd
    obtain ⟨f, s2⟩ := f
    simp only at h hd
    generalize ht : dT L .num s2 = t at h hd
    obtain ⟨t, s3⟩ := t
    simp only at h hd
    generalize hp : dT L (payT k) s3 = d at h hd
    obtain ⟨d, s4⟩ := d
    simp only at h hd
    subst hd
    cases s3 with
    | none => have := dT_none L (payT k); rw [hp] at this; cases this
    | some p3 =>
      cases s2 with
      | none => have := dT_none L .num; rw [ht] at this; cases this
      | some p2 =>
        cases s1 with
        | none => have := dT_none L .num; rw [hf] at this; cases this
        | some p1 =>
          have q1 := span_uint hu
          have q2 := dT_span L .num hf
          have q3 := dT_span L .num ht
          have q4 := dT_span L (payT k) hp
          have q := q1.app (q2.app (q3.app q4))
          obtain ⟨p, e, ⟨r, hr⟩, hq⟩ := q
          cases e
          have hm : encM m = enc k ++ (encT .num f ++ (encT .num t ++ encT (payT k) d)) := by
            subst h
            unfold encM
            have e1 : (mkM k f t d).kind.toNat = k := by rw [kind_mkM]; rfl
            rw [e1, src_mkM, dst_mkM, payD_mkM]; rfl
          rw [hm]
          simp only [List.drop_zero] at hr
          have : r = [] := by
            have hl := congrArg List.length hr
            simp only [List.length_append] at hl hq
            exact List.eq_nil_of_length_eq_zero (by omega)
          rw [this, List.append_nil] at hr
          exact hr.symm
  · cases h
theorem decF_some {L : Bs} {m : Msg} (h : decF L = some m) : encM m = L ∧ formB m = true := by
  unfold decF at h
  split at h
  · rename_i m' hm
    split at h
    · rename_i hf
      cases h
      exact ⟨decM_some hm, hf⟩
    · cases h
  · cases h
theorem decF_encM {m : Msg} (hf : formB m = true) (ho : okM m) (hl : (encM m).length < 2^63) : decF (encM m) = some m := by
  unfold decF
  rw [decM_encM hf ho hl]
  simp only [hf, if_true]
theorem okM_mkM {k : Nat} {f t : Int} {d : den (payT k)} (hk : k ≤ 8) (hf : -2^63 ≤ f ∧ f < 2^63) (ht : -2^63 ≤ t ∧ t < 2^63) (hd : okT (payT k) d) : okM (mkM k f t d) := by
  have hz : ∀ t : Ty, okT (.list t) [] := fun t => ⟨by simp, by simp⟩
  have hn : okT .num 0 := by constructor <;> decide
  have hr : okT tRound (0, 0, 0) := ⟨hn, hn, hn⟩
  have hk1 : ∀ n : Int, 0 ≤ n → n ≤ 8 → okT .num n := fun n h1 h2 => by show -2^63 ≤ n ∧ n < 2^63; omega
  match k with
  | 0 => exact ⟨hn, hf, ht, hr, hd.2.1, hz _, hz _, hz _, hd.1, hz _, hz _, hd.2.2.1, hd.2.2.2⟩
  | 1 => exact ⟨hk1 1 (by decide) (by decide), hf, ht, hd.1, hd.2.1, hd.2.2.1, hd.2.2.2, hz _, hz _, hz _, hz _, hn, hz _⟩
  | 2 => exact ⟨hk1 2 (by decide) (by decide), hf, ht, hd.1, hz _, hd.2.2.1, hd.2.1, hd.2.2.2, hz _, hz _, hz _, hn, hz _⟩
  | 3 => exact ⟨hk1 3 (by decide) (by decide), hf, ht, hr, hz _, hz _, hd.2, hz _, hd.1, hz _, hz _, hn, hz _⟩
  | 4 => exact ⟨hk1 4 (by decide) (by decide), hf, ht, hr, hz _, hz _, hz _, hz _, hz _, hd, hz _, hn, hz _⟩
  | 5 => exact ⟨hk1 5 (by decide) (by decide), hf, ht, hr, hz _, hz _, hd, hz _, hz _, hz _, hz _, hn, hz _⟩
  | 6 => exact ⟨hk1 6 (by decide) (by decide), hf, ht, hr, hz _, hz _, hd, hz _, hz _, hz _, hz _, hn, hz _⟩
  | 7 => exact ⟨hk1 7 (by decide) (by decide), hf, ht, hr, hd.1, hz _, hz _, hz _, hz _, hz _, hd.2, hn, hz _⟩
  | k + 8 => exact ⟨hk1 ((k + 8 : Nat) : Int) (by omega) (by omega), hf, ht, hr, hd.2.1, hz _, hz _, hz _, hd.1, hz _, hz _, hd.2.2.1, hd.2.2.2⟩
theorem decM_ok {L : Bs} {m : Msg} (hL : L.length < 2^63) (h : decM L = some m) : okM m := by
  unfold decM at h
  simp only at h
  split at h
  · cases h
  split at h
  · cases h
    exact okM_mkM (by omega) (dT_ok hL .num _) (dT_ok hL .num _) (dT_ok hL _ _)
  · cases h
/-- The encodings of messages part. -/
theorem encM_free {a b : Msg} (ha : formB a = true) (hb : formB b = true) (oa : okM a) (ob : okM b) {r r' : Bs} (hl : (encM a ++ r).length < 2^63) (he : encM a ++ r = encM b ++ r') : a = b ∧ r = r' := by
  have hha := form_head ha
  have hhb := form_head hb
  obtain ⟨k, hk⟩ : ∃ k : Nat, a.kind = k := ⟨a.kind.toNat, by omega⟩
  obtain ⟨j, hj⟩ : ∃ k : Nat, b.kind = k := ⟨b.kind.toNat, by omega⟩
  have hkn : a.kind.toNat = k := by omega
  have hjn : b.kind.toNat = j := by omega
  have hE : encM a = enc k ++ (encT .num a.src ++ (encT .num a.dst ++ encT (payT k) (payD a k))) := by rw [encM, hkn]; rfl
  have hE' : encM b = enc j ++ (encT .num b.src ++ (encT .num b.dst ++ encT (payT j) (payD b j))) := by rw [encM, hjn]; rfl
  have a0 : AtL (encM a ++ r) 0 (enc k) := ⟨encT .num a.src ++ (encT .num a.dst ++ encT (payT k) (payD a k)) ++ r, by rw [hE]; simp⟩
  have b0 : AtL (encM a ++ r) 0 (enc j) := ⟨encT .num b.src ++ (encT .num b.dst ++ encT (payT j) (payD b j)) ++ r', by rw [he, hE']; simp⟩
  have e0 := (uintO_at a0 (by omega)).symm.trans (uintO_at b0 (by omega))
  simp only [Prod.mk.injEq] at e0
  obtain ⟨rfl, _⟩ := e0
  rw [hE, hE'] at he
  have he2 : encT (.pair .num (.pair .num (payT k))) (a.src, a.dst, payD a k) ++ r = encT (.pair .num (.pair .num (payT k))) (b.src, b.dst, payD b k) ++ r' := by
    simp only [encT, List.append_assoc] at he ⊢
    exact List.append_cancel_left he
  have hl2 : (encT (.pair .num (.pair .num (payT k))) (a.src, a.dst, payD a k) ++ r).length < 2^63 := by
    rw [hE] at hl
    simp only [encT, List.length_append] at hl ⊢
    omega
  obtain ⟨h1, h2⟩ := encT_free (t := .pair .num (.pair .num (payT k))) (d := (a.src, a.dst, payD a k)) (d' := (b.src, b.dst, payD b k)) ⟨oa.2.1, oa.2.2.1, okM_pay oa k⟩ ⟨ob.2.1, ob.2.2.1, okM_pay ob k⟩ hl2 he2
  simp only [Prod.mk.injEq] at h1
  obtain ⟨h3, h4, h5⟩ := h1
  refine ⟨?_, h2⟩
  rw [form_mkM ha hk, form_mkM hb hj, h3, h4, h5]
end Go.Proofs.YtdhlibkdcldioaaGreat
