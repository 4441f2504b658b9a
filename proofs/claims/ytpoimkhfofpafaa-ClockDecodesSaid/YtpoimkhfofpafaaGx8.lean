/- Lists of operations: soundness. -/
import Derived.Test.YtpoimkhfofpafaaGx7
namespace Gx
open Go

section
variable {P : Program} {n : Nat} {ops : Array Oper}

theorem Fits.putE {ρ : Env} {a : Act} (h : Fits n ρ a) {d : Option Nat} (hd : dstOk n d = true) (v : Value) : Fits n (putE d v ρ) (a.put d v) := by
  cases d with
  | none => exact h
  | some d => exact h.put (by simpa [dstOk] using hd) v

theorem Fits.cons {ρ : Env} {a : Act} (h : Fits n ρ a) {t : Nat} {v : Value} (ht : ρ.get t = some v) : Fits n ((t, v) :: ρ) a :=
  h.weaken fun s u hu => by
    simp only [Env.get] at hu
    split at hu
    · rename_i e; subst e; rw [ht]; exact hu
    · exact hu

theorem del_get {ds : List Nat} : ∀ {ρ : Env} {t : Nat} {v : Value}, (Env.del ds ρ).get t = some v → ρ.get t = some v ∧ t ∉ ds
  | [], t, v, h => by simp [Env.del, Env.get] at h
  | (i, u) :: r, t, v, h => by
    simp only [Env.del] at h
    split at h
    · rename_i hi
      obtain ⟨h1, h2⟩ := del_get h
      refine ⟨?_, h2⟩
      simp only [Env.get]
      rw [if_neg (by rintro rfl; exact h2 (by simpa using hi))]
      exact h1
    · rename_i hi
      simp only [Env.get] at h ⊢
      split at h
      · rename_i e; subst e; exact ⟨by rw [if_pos rfl]; exact h, by simpa using hi⟩
      · rename_i e; rw [if_neg e]; exact del_get h

/-- Slots apart from `ds` keep their values when one of `ds` is written. -/
theorem Fits.put_del {ρ : Env} {a : Act} {ds : List Nat} (h : Fits n (Env.del ds ρ) a) {d : Nat} (hd : d ∈ ds) (v : Value) : Fits n (Env.del ds ρ) (a.put (some d) v) := by
  refine ⟨by simp [Act.put, h.size], by simp [Act.put, h.defers], fun t u hu => ?_⟩
  have := (del_get hu).2
  have hne : d ≠ t := by rintro rfl; exact this hd
  simp [Act.put, Array.getElem?_setIfInBounds_ne hne, h.get t u hu]

theorem Fits.del {ρ : Env} {a : Act} (h : Fits n ρ a) (ds : List Nat) : Fits n (Env.del ds ρ) a :=
  h.weaken fun _ _ hv => (del_get hv).1

theorem guardSlot_none {g : Option (Nat × Bool)} (h : guardSlot ops.toList g = some none) : g = none := by
  cases g with
  | none => rfl
  | some p =>
    obtain ⟨j, b⟩ := p
    simp only [guardSlot] at h
    split at h
    · split at h <;> simp at h
    · simp at h

theorem guardSlot_some {g : Option (Nat × Bool)} {t : Nat} {b : Bool} (h : guardSlot ops.toList g = some (some (t, b))) : ∃ j o, g = some (j, b) ∧ ops[j]? = some o ∧ o.dst = some t := by
  cases g with
  | none => simp [guardSlot] at h
  | some p =>
    obtain ⟨j, b'⟩ := p
    simp only [guardSlot] at h
    split at h
    · rename_i o ho
      split at h
      · rename_i d hd
        simp at h; obtain ⟨rfl, rfl⟩ := h
        exact ⟨j, o, rfl, by simpa using ho, hd⟩
      · simp at h
    · simp at h

theorem wanted_none {o : Oper} {f : Nat → Option Bool} (h : o.guard = none) : Region.wanted o f = true := by simp [Region.wanted, h]

theorem wanted_bool {o : Oper} {a : Act} {ρ : Env} (hf : Fits n ρ a) {t : Nat} {b c : Bool} (hg : guardSlot ops.toList o.guard = some (some (t, b))) (ht : ρ.get t = some (.bool c)) :
    Region.wanted o (yielded ops a.tmps) = (c == b) := by
  obtain ⟨j, o', e1, e2, e3⟩ := guardSlot_some hg
  simp only [Region.wanted, e1, yielded, e2, Option.bind_some, e3, hf.get t _ ht]
  cases c <;> cases b <;> rfl

theorem wanted_undef {o : Oper} {a : Act} {ρ : Env} (hf : Fits n ρ a) {t : Nat} {b : Bool} (hg : guardSlot ops.toList o.guard = some (some (t, b))) (ht : ρ.get t = some (.tuple #[])) :
    Region.wanted o (yielded ops a.tmps) = false := by
  obtain ⟨j, o', e1, e2, e3⟩ := guardSlot_some hg
  simp [Region.wanted, e1, yielded, e2, e3, hf.get t _ ht]

theorem stripG_spec {o : Oper} {g : GOp} (h : stripG P n ops.toList o = some g) : dstOk n o.dst = true ∧ ∃ gd s, guardSlot ops.toList o.guard = some gd ∧ stripOp P o = some s ∧ g = .op gd o.dst s := by
  unfold stripG at h
  split at h
  · rename_i hd
    split at h
    · rename_i gd s h1 h2
      simp at h
      exact ⟨hd, gd, s, h1, h2, h.symm⟩
    · simp at h
  · simp at h

theorem guardOf_bool {x : Option Value} {c : Bool} (h : guardOf x = some (some c)) : x = some (.bool c) := by
  unfold guardOf at h
  split at h
  · simp at h; subst h; rfl
  · split at h <;> simp at h
  · simp at h

theorem guardOf_undef {x : Option Value} (h : guardOf x = some none) : x = some (.tuple #[]) := by
  unfold guardOf at h
  split at h
  · simp at h
  · rename_i vs
    split at h
    · rename_i e; rw [Array.isEmpty_iff.1 e]
    · simp at h
  · simp at h

def GOp.allowed (S : Sense P) : GOp → Bool
  | .op _ _ s => S.allow s
  | .sel _ _ _ _ _ _ => true

/-- One operation, not fused. -/
theorem step_sound {o : Oper} {g : GOp} {r : List GOp} {lr : List Oper} {Q : Act → Heap → Prop} {K : Env → Heap → Prop} (S : Sense P) (hs : stripG P n ops.toList o = some g) (hal : g.allowed S = true)
    (ih : ∀ ρ a H, Fits n ρ a → vcOps P r ρ H K → RunL S ops Q lr a H)
    {ρ : Env} {a : Act} {H : Heap} (hf : Fits n ρ a) (hv : vcOps P (g :: r) ρ H K) : RunL S ops Q (o :: lr) a H := by
  obtain ⟨hd, gd, s, h1, h2, rfl⟩ := stripG_spec hs
  unfold RunL
  cases gd with
  | none =>
    rw [if_pos (wanted_none (guardSlot_none h1))]
    simp only [vcOps] at hv
    exact S.mono (S.ok h2 hal hf hv) fun v H' h => ih _ _ _ (hf.putE hd v) h
  | some p =>
    obtain ⟨t, b⟩ := p
    simp only [vcOps] at hv
    split at hv
    · rename_i c hc
      replace hc := guardOf_bool hc
      rw [wanted_bool hf h1 hc]
      by_cases e : c = b
      · subst e
        rw [if_pos (by simp)]
        have hf' := hf.cons hc
        exact S.mono (S.ok h2 hal hf' (hv.1 rfl)) fun v H' h => ih _ _ _ (hf'.putE hd v) h
      · have e' : c = !b := by cases c <;> cases b <;> simp_all
        rw [if_neg (by simpa using e)]
        subst e'
        exact ih _ _ _ ((hf.cons hc).putE hd undef) (hv.2 rfl)
    · rename_i hc
      replace hc := guardOf_undef hc
      rw [wanted_undef hf h1 hc, if_neg (by simp)]
      exact ih _ _ _ (hf.putE hd undef) hv
    · exact hv.elim

/-- What a reading operation yields. -/
theorem rd_ok {o : Oper} {s : SOp} {ρ : Env} {a : Act} {H : Heap} {p : Prop} {v : Value} (hs : stripOp P o = some s) (hf : Fits n ρ a) (hr : s.rd ρ H = some (p, v)) (hp : p) : OpVal P o a.eval H v := by
  unfold stripOp at hs
  split at hs
  · rename_i e he
    simp at hs; subst hs
    exact fun w _ => stripPE_ok he hf hr hp w
  · split at hs
    case h_1 t x ho => -- load
      have key : ∀ sz, (sz = none ∧ isAggB P t = some false ∨ ∃ n, sz = some n ∧ isAggB P t = some true ∧ sizeOfB P t = some n) → (SOp.ld sz x).rd ρ H = some (p, v) → OpVal P o a.eval H v := by
        intro sz hsz hr
        have hld := mvN_some hr
        unfold ldN at hld
        split at hld
        · rename_i ad hx
          intro w hw
          simp [execOp, ho, hf.ev hx, Instr.loadAt, Instr.sureAddr, run_ld hsz (hw ▸ hld)]
        · simp at hld
      split at hs
      · rename_i hag; simp at hs; subst hs; exact key none (.inl ⟨rfl, hag⟩) hr
      · rename_i hag
        simp only [Option.map_eq_some_iff] at hs
        obtain ⟨k, hk, rfl⟩ := hs
        exact key (some k) (.inr ⟨k, rfl, hag, hk⟩) hr
      · simp at hs
    case h_6 src dst x ho => -- convert
      split at hs
      · rename_i el h1 h2
        split at hs
        · rename_i h3
          simp at hs; subst hs
          have hb := mvN_some hr
          intro w hw
          cases hx : ρ.ev x with
          | none => rw [hx] at hb; simp [b2sN] at hb
          | some u =>
            rw [hx] at hb
            have hr := run_b2s (P := P) (hw ▸ hb)
            cases u with
            | slice ad l c => simp [execOp, ho, hf.ev hx, run_convert_bytes_string w src dst el ad l c h1 h3 h2, hr]
            | _ => simp [b2sN] at hb
        · simp at hs
      · split at hs
        · simp at hs; subst hs; simp [SOp.rd] at hr
        · simp at hs
      · simp at hs
    all_goals (exfalso; revert hs; (repeat' split) <;> intro hs <;> (try simp at hs) <;> (try (subst hs; simp [SOp.rd] at hr)) <;> (try (obtain ⟨_, _, rfl⟩ := hs; simp [SOp.rd] at hr)))


def Sense.quiet (P : Program) : Sense P where
  good := fun o ev H R => ∃ v, OpVal P o ev H v ∧ R v H
  allow := SOp.reads
  mono := fun ⟨v, h, hR⟩ h' => ⟨v, h, h' _ _ hR⟩
  ok := fun {o s n ρ a H R} h hr hf hv => by
    have : ∃ p v, s.rd ρ H = some (p, v) ∧ p ∧ R v H := by
      cases s <;> simp only [SOp.reads, Bool.false_eq_true] at hr
      · simp only [SOp.vc, vN] at hv
        split at hv
        · rename_i p v e; exact ⟨p, v, e, hv.1, hv.2⟩
        · exact hv.elim
      · simp only [SOp.vc, rdN] at hv
        split at hv
        · rename_i v e; exact ⟨True, v, by simp [SOp.rd, e, mvN], trivial, hv⟩
        · exact hv.elim
      · simp only [SOp.vc, rdN] at hv
        split at hv
        · rename_i v e; exact ⟨True, v, by simp [SOp.rd, e, mvN], trivial, hv⟩
        · exact hv.elim
    obtain ⟨p, v, e, hp, hR⟩ := this
    exact ⟨v, rd_ok h hf e hp, hR⟩
  ofVal := fun h hR => ⟨_, h, hR⟩

theorem wpQuiet_of_runL {H : Heap} {Q : Act → Heap → Prop} {w0 : World} : ∀ (l : List Oper) (a : Act), RunL (Sense.quiet P) ops Q l a H → wpQuiet P ops (fun w => w.heap = H ∧ Same w0 w) (fun a => Q a H) l a
  | [], a, hr => hr
  | o :: r, a, hr => by
    unfold RunL at hr
    unfold wpQuiet
    split
    · rename_i hw; rw [if_pos hw] at hr
      obtain ⟨v, hv, hr⟩ := hr
      refine ⟨v, fun w hw => ?_, wpQuiet_of_runL r _ hr⟩
      unfold Oper.quietAt
      rw [hv w hw.1]
      exact ⟨rfl, rfl⟩
    · rename_i hw; rw [if_neg hw] at hr
      exact wpQuiet_of_runL r _ hr

/-! ### guarded choices -/

/-- The operations that `selInner` takes, as they stand in the region. -/
theorem inner_sound (S : Sense P) {t : Nat} {b : Bool} {Q : Act → Heap → Prop} {d : Nat} {x y : Operand} {rest : List GOp} : ∀ (inner : List (Nat × SOp)) (gs : List GOp) (l : List Oper),
    (l.length = gs.length ∧ ∀ (j : Nat) o, l[j]? = some o → ∃ g, gs[j]? = some g ∧ stripG P n ops.toList o = some g) → selInner t b gs = some (inner, d, x, y, rest) →
    ∃ (li : List Oper) (o : Oper) (lr : List Oper), l = li ++ o :: lr ∧ stripOp P o = some (.v (.pick (.tmp t) x y)) ∧ o.dst = some d ∧ d < n ∧ o.guard = none ∧
      (lr.length = rest.length ∧ ∀ (j : Nat) o, lr[j]? = some o → ∃ g, rest[j]? = some g ∧ stripG P n ops.toList o = some g) ∧
      (∀ {ρ ρ' : Env} {a : Act} {H : Heap} {p : Prop}, Fits n ρ a → ρ.get t = some (.bool b) → (∀ q ∈ inner, q.1 ≠ t) → innerE H inner ρ = some (p, ρ') → p →
        (∀ a', Fits n ρ' a' → ρ'.get t = some (.bool b) → RunL S ops Q (o :: lr) a' H) → RunL S ops Q l a H) ∧
      (∀ {ρ : Env} {a : Act} {H : Heap} {ds : List Nat}, Fits n (Env.del ds ρ) a → (∀ q ∈ inner, q.1 ∈ ds) → (Env.del ds ρ).get t = some (.bool !b) →
        (∀ a', Fits n (Env.del ds ρ) a' → RunL S ops Q (o :: lr) a' H) → RunL S ops Q l a H) := by
  intro inner
  induction inner with
  | nil =>
    intro gs l hl hsel
    cases gs with
    | nil => simp [selInner] at hsel
    | cons g gs =>
      cases l with
      | nil => simp at hl
      | cons o lr =>
        obtain ⟨g', hg', hstrip⟩ := hl.2 0 o rfl
        simp at hg'; subst hg'
        obtain ⟨hd, gd, s, h1, h2, rfl⟩ := stripG_spec hstrip
        unfold selInner at hsel
        split at hsel
        · split at hsel
          · split at hsel <;> simp at hsel
          · simp at hsel
        · rename_i e
          split at hsel
          · rename_i et
            simp at hsel e
            obtain ⟨rfl, rfl, rfl, rfl⟩ := hsel
            obtain ⟨⟨e1, e2, e3⟩, rfl⟩ := e
            subst e1; subst et
            subst e3
            refine ⟨[], o, lr, rfl, h2, e2, by rw [e2] at hd; simpa [dstOk] using hd, guardSlot_none h1, ⟨by simpa using hl.1, fun j o' hj => ?_⟩, ?_, ?_⟩
            · simpa using hl.2 (j + 1) o' (by simpa using hj)
            · intro ρ ρ' a H p hf ht _ hi _ hk
              simp [innerE] at hi
              obtain ⟨_, rfl⟩ := hi
              exact hk a hf ht
            · intro ρ a H ds hf _ _ hk
              exact hk a hf
          · simp at hsel
        · simp at hsel
  | cons q inner ih =>
    intro gs l hl hsel
    cases gs with
    | nil => simp [selInner] at hsel
    | cons g gs =>
      cases l with
      | nil => simp at hl
      | cons o l =>
        obtain ⟨g', hg', hstrip⟩ := hl.2 0 o rfl
        simp at hg'; subst hg'
        obtain ⟨hd, gd, s, h1, h2, rfl⟩ := stripG_spec hstrip
        unfold selInner at hsel
        split at hsel
        · rename_i e
          split at hsel
          · rename_i hc
            split at hsel
            · rename_i inner' rest' hrec
              simp at hsel e
              obtain ⟨⟨rfl, rfl⟩, rfl⟩ := hsel
              obtain ⟨⟨rfl, e2, rfl⟩, rfl⟩ := e
              obtain ⟨rfl, rfl, htot⟩ := hc
              have hl' : l.length = gs.length ∧ ∀ (j : Nat) o, l[j]? = some o → ∃ g, gs[j]? = some g ∧ stripG P n ops.toList o = some g :=
                ⟨by simpa using hl.1, fun j o' hj => by simpa using hl.2 (j + 1) o' (by simpa using hj)⟩
              obtain ⟨li, op, lr, e1, a1, a2, a3, a4, a5, a6, a7⟩ := ih gs l hl' hrec
              refine ⟨o :: li, op, lr, by rw [e1]; rfl, a1, a2, a3, a4, a5, ?_, ?_⟩
              · intro ρ ρ' a H p hf ht hne hi hp hk
                simp only [innerE] at hi
                split at hi
                · rename_i p1 v hr
                  split at hi
                  · rename_i p2 ρ2 hin
                    simp only [Option.some.injEq, Prod.mk.injEq] at hi
                    obtain ⟨rfl, rfl⟩ := hi
                    unfold RunL
                    rw [wanted_bool hf h1 ht, if_pos (by simp)]
                    have hd' := hd
                    rw [e2] at hd'
                    refine S.ofVal (rd_ok h2 hf hr hp.1) ?_
                    refine a6 (ρ := (_, v) :: ρ) (by rw [e2]; exact hf.put (by simpa [dstOk] using hd') v) ?_ (fun q hq => hne q (by simp [hq])) hin hp.2 hk
                    simp only [Env.get]
                    exact (if_neg (hne _ (List.mem_cons_self ..))).trans ht
                  · simp at hi
                · simp at hi
              · intro ρ a H ds hf hin ht hk
                unfold RunL
                rw [wanted_bool hf h1 ht, if_neg (by simp)]
                refine a7 (ρ := ρ) (ds := ds) ?_ (fun q hq => hin q (by simp [hq])) ht hk
                rw [e2]
                exact hf.put_del (hin _ (List.mem_cons_self ..)) undef
            · simp at hsel
          · simp at hsel
        · split at hsel <;> simp at hsel
        · simp at hsel


theorem total_val {s : SOp} : s.total = true → s.reads = true := by
  unfold SOp.total
  split <;> simp [SOp.reads]

theorem innerE_keeps {H : Heap} {t : Nat} : ∀ {inner : List (Nat × SOp)} {ρ ρ' : Env} {p : Prop}, innerE H inner ρ = some (p, ρ') → (∀ q ∈ inner, q.1 ≠ t) → ρ'.get t = ρ.get t
  | [], ρ, ρ', p, h, _ => by simp [innerE] at h; rw [h.2]
  | (d, s) :: r, ρ, ρ', p, h, hn => by
    simp only [innerE] at h
    split at h
    · split at h
      · rename_i h2
        simp only [Option.some.injEq, Prod.mk.injEq] at h
        obtain ⟨_, rfl⟩ := h
        rw [innerE_keeps h2 (fun q hq => hn q (by simp [hq]))]
        simp only [Env.get]
        rw [if_neg (hn _ (List.mem_cons_self ..))]
      · simp at h
    · simp at h

theorem del_get_of {ds : List Nat} : ∀ {ρ : Env} {t : Nat}, t ∉ ds → (Env.del ds ρ).get t = ρ.get t
  | [], t, h => rfl
  | (i, u) :: r, t, h => by
    simp only [Env.del]
    split
    · rename_i hi
      rw [del_get_of h]
      simp only [Env.get]
      rw [if_neg (by rintro rfl; exact h (by simpa using hi))]
    · simp only [Env.get]
      rw [del_get_of h]

theorem del_ev {ds : List Nat} {ρ : Env} {z : Operand} (h : ∀ u, z = .tmp u → u ∉ ds) : (Env.del ds ρ).ev z = ρ.ev z := by
  cases z with
  | tmp u => exact del_get_of (h u rfl)
  | _ => rfl

theorem innerClear_spec {t : Nat} {inner : List (Nat × SOp)} {z : Operand} (h : innerClear t inner z = true) : (∀ q ∈ inner, q.1 ≠ t) ∧ (∀ u, z = .tmp u → u ∉ inner.map (·.1)) := by
  simp only [innerClear, List.all_eq_true, Bool.and_eq_true, bne_iff_ne] at h
  refine ⟨fun q hq => (h q hq).1, fun u hz hu => ?_⟩
  subst hz
  obtain ⟨q, hq, rfl⟩ := List.mem_map.1 hu
  have := (h q hq).2
  simp at this

theorem RunL_pick (S : Sense P) {Q : Act → Heap → Prop} {o : Oper} {lr : List Oper} {a : Act} {H : Heap} {t d : Nat} {x y : Operand} (ho : stripOp P o = some (.v (.pick (.tmp t) x y))) (hd : o.dst = some d) (hg : o.guard = none)
    {ρ : Env} (hf : Fits n ρ a) {v : Value} {p : Prop} (hv : (PE.pick (.tmp t) x y).val ρ = some (p, v)) (hp : p) (hk : RunL S ops Q lr (a.put (some d) v) H) : RunL S ops Q (o :: lr) a H := by
  unfold RunL
  rw [if_pos (wanted_none hg), hd]
  exact S.ofVal (rd_ok ho hf (by simpa [SOp.rd] using hv) hp) hk

theorem pickN_true (a : Bool) (y : Option Value) : pickN (some (.bool true)) (some (.bool a)) y = some (True, .bool a) := by
  cases y with
  | none => rfl
  | some y => cases y <;> rfl
theorem pickN_false (b : Bool) (x : Option Value) : pickN (some (.bool false)) x (some (.bool b)) = some (True, .bool b) := by
  cases x with
  | none => rfl
  | some x => cases x <;> rfl

theorem sel_sound (S : Sense P) {Q : Act → Heap → Prop} {t : Nat} {b : Bool} {inner : List (Nat × SOp)} {d : Nat} {x y : Operand} {rest gs : List GOp} {l : List Oper}
    (hl : l.length = gs.length ∧ ∀ (j : Nat) o, l[j]? = some o → ∃ g, gs[j]? = some g ∧ stripG P n ops.toList o = some g) (hsel : selInner t b gs = some (inner, d, x, y, rest))
    (hcl : innerClear t inner (if b then y else x) = true) {K : Env → Heap → Prop} {r : List GOp}
    (ih : ∀ lr : List Oper, (lr.length = rest.length ∧ ∀ (j : Nat) o, lr[j]? = some o → ∃ g, rest[j]? = some g ∧ stripG P n ops.toList o = some g) → ∀ ρ a H, Fits n ρ a → vcOps P r ρ H K → RunL S ops Q lr a H)
    {ρ : Env} {a : Act} {H : Heap} (hf : Fits n ρ a) (hv : vcOps P (.sel t b inner d x y :: r) ρ H K) : RunL S ops Q l a H := by
  obtain ⟨li, o, lr, _, a1, a2, a3, a4, a5, a6, a7⟩ := inner_sound (S := S) (Q := Q) inner gs l hl hsel
  obtain ⟨hne, hz⟩ := innerClear_spec hcl
  simp only [vcOps] at hv
  unfold vN at hv
  split at hv
  case h_2 => exact hv.elim
  rename_i p v hs
  obtain ⟨hp, hv⟩ := hv
  -- the operations in front are not wanted
  have hskip : ∀ w, v = .bool w → ρ.get t = some (.bool !b) → ρ.ev (if b then y else x) = some (.bool w) → RunL S ops Q l a H := by
    rintro w rfl hc hw
    have hcont : ∀ a', Fits n (Env.del (inner.map (·.1)) ρ) a' → RunL S ops Q lr (a'.put (some d) (.bool w)) H := fun a' h' => ih lr a5 _ _ _ (h'.put a3 (.bool w)) hv
    have hfd := hf.del (inner.map (·.1))
    have htd : (Env.del (inner.map (·.1)) ρ).get t = some (.bool !b) := by
      rw [del_get_of (fun hm => by obtain ⟨q, hq, e⟩ := List.mem_map.1 hm; exact hne q hq e)]
      exact hc
    refine a7 hfd (fun q hq => List.mem_map_of_mem hq) htd fun a' hf' => ?_
    have hval : (PE.pick (.tmp t) x y).val (Env.del (inner.map (·.1)) ρ) = some (True, .bool w) := by
      show pickN ((Env.del (inner.map (·.1)) ρ).get t) ((Env.del (inner.map (·.1)) ρ).ev x) ((Env.del (inner.map (·.1)) ρ).ev y) = _
      rw [htd]
      cases b
      · have hx' : (Env.del (inner.map (·.1)) ρ).ev x = some (.bool w) := (del_ev hz).trans hw
        rw [hx']; exact pickN_true _ _
      · have hy' : (Env.del (inner.map (·.1)) ρ).ev y = some (.bool w) := (del_ev hz).trans hw
        rw [hy']; exact pickN_false _ _
    exact RunL_pick S a1 a2 a4 hf' hval trivial (hcont a' hf')
  unfold selV at hs
  split at hs
  case h_2 =>
    split at hs
    case h_2 => simp at hs
    rename_i c w hc hw
    simp only [Option.some.injEq, Prod.mk.injEq] at hs
    obtain ⟨rfl, rfl⟩ := hs
    exact hskip w rfl (by rw [hc, hp]) hw
  rename_i p' ρ' hin
  split at hs
  case h_2 => simp at hs
  rename_i c v' hc hsn
  simp only [Option.some.injEq, Prod.mk.injEq] at hs
  obtain ⟨rfl, rfl⟩ := hs
  rw [hc] at hsn
  -- the continuation
  have hcont : ∀ a', Fits n (Env.del (inner.map (·.1)) ρ) a' → RunL S ops Q lr (a'.put (some d) v') H := fun a' h' => ih lr a5 _ _ _ (h'.put a3 v') hv
  -- the Booleans
  obtain ⟨bx, bb, hbx, hby, rfl⟩ : ∃ bx bb, (if b then ρ' else ρ).ev x = some (.bool bx) ∧ (if b then ρ else ρ').ev y = some (.bool bb) ∧ v' = .bool (bif c then bx else bb) := by
    unfold selN at hsn
    split at hsn
    · rename_i c' a' b' e1 e2 e3
      simp at e1 hsn; subst e1
      exact ⟨_, _, e2, e3, hsn.symm⟩
    · simp at hsn
  by_cases e : c = b
  · subst e
    have ht' := innerE_keeps hin hne
    refine a6 hf hc hne hin (hp rfl) fun a' hf' ht'' => ?_
    have hfd : Fits n (Env.del (inner.map (·.1)) ρ) a' := hf'.weaken fun s u hu => by
      obtain ⟨h1, h2⟩ := del_get hu
      rw [innerE_keeps hin (t := s) (fun q hq e => h2 (List.mem_map.2 ⟨q, hq, e⟩))]
      exact h1
    have hval : (PE.pick (.tmp t) x y).val ρ' = some (True, .bool (bif c then bx else bb)) := by
      show pickN (ρ'.get t) (ρ'.ev x) (ρ'.ev y) = _
      rw [ht'']
      cases c
      · have hby' : ρ'.ev y = some (.bool bb) := hby
        rw [hby', pickN_false]; rfl
      · have hbx' : ρ'.ev x = some (.bool bx) := hbx
        rw [hbx', pickN_true]; rfl
    exact RunL_pick S a1 a2 a4 hf' hval trivial (hcont a' hfd)
  · have e' : c = !b := by cases c <;> cases b <;> simp_all
    subst e'
    cases b
    · exact hskip bx rfl hc hbx
    · exact hskip bb rfl hc hby

end
end Gx
