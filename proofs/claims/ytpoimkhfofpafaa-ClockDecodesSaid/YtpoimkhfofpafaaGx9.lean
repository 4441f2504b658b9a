/- Stripped code, its verification condition, soundness. -/
import Derived.Test.YtpoimkhfofpafaaGx8b
import Derived.Deep.LoopGhost
namespace Gx
open Go

section
variable {P : Program} {n : Nat} {ops : Array Oper}

def Aligned (P : Program) (n : Nat) (ops : Array Oper) (l : List Oper) (gs : List GOp) : Prop :=
  l.length = gs.length ∧ ∀ (j : Nat) (o : Oper), l[j]? = some o → ∃ g, gs[j]? = some g ∧ stripG P n ops.toList o = some g

theorem Aligned.tail {o : Oper} {l : List Oper} {g : GOp} {gs : List GOp} (h : Aligned P n ops (o :: l) (g :: gs)) : Aligned P n ops l gs :=
  ⟨by simpa using h.1, fun j o' hj => by simpa using h.2 (j + 1) o' (by simpa using hj)⟩

theorem Aligned.head {o : Oper} {l : List Oper} {g : GOp} {gs : List GOp} (h : Aligned P n ops (o :: l) (g :: gs)) : stripG P n ops.toList o = some g := by
  obtain ⟨g', e, hs⟩ := h.2 0 o rfl
  simp at e; subst e; exact hs

theorem selInner_allowed (S : Sense P) {t : Nat} {b : Bool} : ∀ {gs : List GOp} {inner : List (Nat × SOp)} {d : Nat} {x y : Operand} {rest : List GOp}, selInner t b gs = some (inner, d, x, y, rest) →
    gs.all (GOp.allowed S) = true → rest.all (GOp.allowed S) = true ∧ rest.length < gs.length
  | [], _, _, _, _, _, h, _ => by simp [selInner] at h
  | g :: gs, inner, d, x, y, rest, h, ha => by
    simp only [List.all_cons, Bool.and_eq_true] at ha
    unfold selInner at h
    split at h
    · rename_i e
      split at h
      · split at h
        · rename_i inner' rest' hrec
          simp at h e
          obtain ⟨_, rfl⟩ := h
          obtain ⟨_, rfl⟩ := e
          obtain ⟨h1, h2⟩ := selInner_allowed S hrec ha.2
          exact ⟨h1, by simp; omega⟩
        · simp at h
      · simp at h
    · rename_i e
      split at h
      · simp at h e
        obtain ⟨_, _, _, _, rfl⟩ := h
        obtain ⟨_, rfl⟩ := e
        exact ⟨ha.2, by simp⟩
      · simp at h
    · simp at h

theorem fuse_sound (S : Sense P) {Q : Act → Heap → Prop} {K : Env → Heap → Prop} (hK : ∀ ρ a H, Fits n ρ a → K ρ H → Q a H) : ∀ (k : Nat) (gs : List GOp) (l : List Oper), Aligned P n ops l gs → gs.all (GOp.allowed S) = true →
    ∀ ρ a H, Fits n ρ a → vcOps P (fuse k gs) ρ H K → RunL S ops Q l a H := by
  have plain : ∀ (gs : List GOp) (l : List Oper), Aligned P n ops l gs → gs.all (GOp.allowed S) = true → ∀ ρ a H, Fits n ρ a → vcOps P gs ρ H K → RunL S ops Q l a H := by
    intro gs
    induction gs with
    | nil =>
      intro l hl _ ρ a H hf hv
      have : l = [] := List.eq_nil_of_length_eq_zero (by simpa using hl.1)
      subst this
      exact hK ρ a H hf hv
    | cons g gs ih =>
      intro l hl hal ρ a H hf hv
      cases l with
      | nil => simp [Aligned] at hl
      | cons o l =>
        simp only [List.all_cons, Bool.and_eq_true] at hal
        exact step_sound S hl.head hal.1 (fun ρ a H => ih l hl.tail hal.2 ρ a H) hf hv
  intro k
  induction k with
  | zero => intro gs l hl hal ρ a H hf hv; exact plain gs l hl hal ρ a H hf hv
  | succ k ih =>
    intro gs l hl hal ρ a H hf hv
    cases gs with
    | nil =>
      have : l = [] := List.eq_nil_of_length_eq_zero (by simpa using hl.1)
      subst this
      exact hK ρ a H hf hv
    | cons g gs =>
      cases l with
      | nil => simp [Aligned] at hl
      | cons o l =>
        have hal' := hal
        simp only [List.all_cons, Bool.and_eq_true] at hal'
        have hstep : vcOps P (g :: fuse k gs) ρ H K → RunL S ops Q (o :: l) a H := fun hv => step_sound S hl.head hal'.1 (fun ρ a H => ih gs l hl.tail hal'.2 ρ a H) hf hv
        simp only [fuse] at hv
        split at hv
        · rename_i t b d' s'
          split at hv
          · rename_i inner d x y rest hsel
            by_cases hcl : innerClear t inner (if b then y else x) = true
            · rw [if_pos hcl] at hv
              exact sel_sound S hl hsel hcl (fun lr hlr => ih rest lr hlr (selInner_allowed S hsel hal).1) hf hv
            · rw [if_neg hcl] at hv
              exact hstep hv
          · exact hstep hv
        · exact hstep hv

end

inductive SCode where
  | skip
  | ops (l : List GOp) (keep : List Nat)
  | dq (l : List GOp) (keep : List Nat)
  | de (t : DT) (keep : List Nat)
  | seq (a b : SCode)
  | cond (c : Operand) (thn els : SCode)
  | block (id : Nat) (body : SCode)
  | loop (body : SCode)
  | exit (id : Nat)
  | ret
  deriving Inhabited

inductive X where
  | nrm
  | ext (id : Nat)
  | ret

abbrev Post := X → Env → Heap → Prop

def keepK (l : List Nat) (Q : Post) : Env → Heap → Prop := fun ρ H => Q .nrm (ρ.keep l) H

def seqK (F : Env → Heap → Prop) (Q : Post) : Post
  | .nrm, ρ, H => F ρ H
  | .ext i, ρ, H => Q (.ext i) ρ H
  | .ret, ρ, H => Q .ret ρ H

def blockK (id : Nat) (Q : Post) : Post
  | .nrm, ρ, H => Q .nrm ρ H
  | .ext i, ρ, H => if i = id then Q .nrm ρ H else Q (.ext i) ρ H
  | .ret, ρ, H => Q .ret ρ H

def condN (A B : Prop) : Option Value → Prop
  | some (.bool t) => (t = true → A) ∧ (t = false → B)
  | _ => False

/-- A loop: what holds at each round's head; `E` says the slots; `μ` goes down. -/
def loopK {α : Type} (I : α → Heap → Prop) (E : α → Env) (μ : α → Nat) (x : α) : Env → Heap → Prop :=
  fun ρ' H' => ∃ y, μ y < μ x ∧ ρ'.knows (E y) ∧ I y H'

def vc (P : Program) : SCode → Env → Heap → Post → Prop
  | .skip, ρ, H, Q => Q .nrm ρ H
  | .ops l k, ρ, H, Q => vcOps P l ρ H (keepK k Q)
  | .dq l k, ρ, H, Q => vcOps P l ρ H (keepK k Q)
  | .de t k, ρ, H, Q => vcD P t [] ρ H (keepK k Q)
  | .seq a b, ρ, H, Q => vc P a ρ H (seqK (fun ρ H => vc P b ρ H Q) Q)
  | .cond c a b, ρ, H, Q => condN (vc P a ρ H Q) (vc P b ρ H Q) (ρ.ev c)
  | .block id c, ρ, H, Q => vc P c ρ H (blockK id Q)
  | .loop c, ρ, H, Q => ∃ (α : Type) (I : α → Heap → Prop) (E : α → Env) (μ : α → Nat) (x₀ : α), I x₀ H ∧ ρ.knows (E x₀) ∧
      ∀ x H, I x H → vc P c (E x) H (seqK (loopK I E μ x) Q)
  | .exit i, ρ, H, Q => Q (.ext i) ρ H
  | .ret, ρ, H, Q => Q .ret ρ H

def stripOps (P : Program) (n : Nat) (ops : List Oper) : List Oper → Option (List GOp)
  | [] => some []
  | o :: r => match stripG P n ops o, stripOps P n ops r with
    | some g, some gs => some (g :: gs)
    | _, _ => none

def GOp.isRead : GOp → Bool
  | .op _ _ s => s.reads
  | .sel _ _ _ _ _ _ => true

def strip (P : Program) (n : Nat) (keep : List Nat) : Code → Option SCode
  | .skip => some .skip
  | .region _ ops draw =>
    match stripOps P n ops.toList ops.toList with
    | some gs =>
      if draw then
        if gs.all GOp.isRead && Region.lexB .any ops && P.follows .mixedOrders then some (.dq (fuse gs.length gs) keep)
        else if P.follows .mixedOrders && Region.noSelect ops then
          match canonD P n ops ops.toList (ops.toList.map (opReads P)) ops.size (Array.replicate ops.size false) with
          | some t => some (.de t keep)
          | none => none
        else none
      else some (.ops (fuse gs.length gs) keep)
    | none => none
  | .seq a b => match strip P n keep a, strip P n keep b with
    | some x, some y => some (.seq x y)
    | _, _ => none
  | .cond c a b => match strip P n keep a, strip P n keep b with
    | some x, some y => some (.cond c x y)
    | _, _ => none
  | .block id c => match strip P n keep c with
    | some x => some (.block id x)
    | none => none
  | .loop c => match strip P n keep c with
    | some x => some (.loop x)
    | none => none
  | .exit i => some (.exit i)
  | .ret => some .ret
  | _ => none

section
variable {P : Program} {n : Nat}

theorem stripOps_aligned {ops : Array Oper} : ∀ {l : List Oper} {gs : List GOp}, stripOps P n ops.toList l = some gs → Aligned P n ops l gs
  | [], gs, h => by simp [stripOps] at h; subst h; exact ⟨rfl, fun j o hj => by simp at hj⟩
  | o :: l, gs, h => by
    simp only [stripOps] at h
    split at h
    · rename_i g gs' h1 h2
      simp at h; subst h
      have ih := stripOps_aligned h2
      refine ⟨by simp [ih.1], fun j o' hj => ?_⟩
      cases j with
      | zero => simp at hj; subst hj; exact ⟨g, rfl, h1⟩
      | succ j => simpa using ih.2 j o' (by simpa using hj)
    · simp at h

theorem allowed_all {gs : List GOp} : gs.all (GOp.allowed (Sense.all P)) = true := by
  simp only [List.all_eq_true]
  intro g _
  cases g <;> rfl

theorem allowed_quiet {gs : List GOp} (h : gs.all GOp.isRead = true) : gs.all (GOp.allowed (Sense.quiet P)) = true := by
  simp only [List.all_eq_true] at *
  intro g hg
  have := h g hg
  cases g
  · exact this
  · rfl

/-- What a piece of code must come to. -/
def QX (n : Nat) (w0 : World) (Q : Post) : Exit → Act → World → Prop
  | .normal, a, w => Same w0 w ∧ ∃ ρ, Fits n ρ a ∧ Q .nrm ρ w.heap
  | .exit i, a, w => Same w0 w ∧ ∃ ρ, Fits n ρ a ∧ Q (.ext i) ρ w.heap
  | .ret, a, w => Same w0 w ∧ ∃ ρ, Fits n ρ a ∧ Q .ret ρ w.heap
  | _, _, _ => False

theorem wpQuiet_mono {ops : Array Oper} {C : World → Prop} {Q Q' : Act → Prop} (h : ∀ a, Q a → Q' a) : ∀ (l : List Oper) (a : Act), wpQuiet P ops C Q l a → wpQuiet P ops C Q' l a
  | [], a, hq => h a hq
  | o :: l, a, hq => by
    unfold wpQuiet at *
    split
    · rename_i hw; rw [if_pos hw] at hq; exact Oper.quiet_mono (fun a => wpQuiet_mono h l a) hq
    · rename_i hw; rw [if_neg hw] at hq; exact wpQuiet_mono h l _ hq

theorem vc_sound : ∀ (c : Code) {k : List Nat} {s : SCode}, strip P n k c = some s → ∀ {ρ : Env} {a : Act} {w w0 : World} {Q : Post}, Fits n ρ a → Same w0 w → vc P s ρ w.heap Q → c.wp P (QX n w0 Q) a w
  | .skip, k, s, hs, ρ, a, w, w0, Q, hf, hw, hv => by
    simp [strip] at hs; subst hs
    exact wp_skip ⟨hw, ρ, hf, hv⟩
  | .exit i, k, s, hs, ρ, a, w, w0, Q, hf, hw, hv => by
    simp [strip] at hs; subst hs
    exact wp_exit ⟨hw, ρ, hf, hv⟩
  | .ret, k, s, hs, ρ, a, w, w0, Q, hf, hw, hv => by
    simp [strip] at hs; subst hs
    exact wp_ret ⟨hw, ρ, hf, hv⟩
  | .region id ops draw, k, s, hs, ρ, a, w, w0, Q, hf, hw, hv => by
    simp only [strip] at hs
    split at hs
    case h_2 => simp at hs
    rename_i gs hgs
    have hal := stripOps_aligned hgs
    cases draw with
    | false =>
      simp at hs; subst hs
      have := fuse_sound (Sense.all P) (Q := fun a H => ∃ ρ, Fits n ρ a ∧ Q .nrm ρ H) (fun ρ a H hf h => ⟨_, hf.keep k, h⟩) gs.length gs ops.toList hal allowed_all ρ a w.heap hf hv
      exact wp_region_list (wpList_of_runL ops.toList a w w0 hw (fun a w' hs' h => ⟨hs', h⟩) this)
    | true =>
      simp only [if_true] at hs
      split at hs
      · rename_i hc
        simp only [Bool.and_eq_true] at hc
        simp at hs; subst hs
        have := fuse_sound (Sense.quiet P) (Q := fun a H => ∃ ρ, Fits n ρ a ∧ Q .nrm ρ H) (fun ρ a H hf h => ⟨_, hf.keep k, h⟩) gs.length gs ops.toList hal (allowed_quiet hc.1.1) ρ a w.heap hf hv
        have hq := wpQuiet_of_runL (w0 := w0) _ _ this
        refine wp_region_quiet (C := fun w' => w'.heap = w.heap ∧ Same w0 w') hc.2 hc.1.2 ⟨rfl, ⟨hw.os, hw.tape, hw.output⟩⟩ ?_
        refine wpQuiet_mono (fun a h w' hw' => ?_) _ _ hq
        obtain ⟨ρ, h1, h2⟩ := h
        exact ⟨hw'.2, ρ, h1, hw'.1 ▸ h2⟩
      · split at hs
        · rename_i hc
          simp only [Bool.and_eq_true] at hc
          split at hs
          · rename_i dt hdt
            simp at hs; subst hs
            refine wp_region_any hc.1 (wpAny_of_G _ _ _ _ (canonD_sound (w0 := w0) (K := keepK k Q) (fun c a w h => h) (fun ρ a w hf hs hK => ⟨hs, _, hf.keep k, hK⟩) hc.2 _ _ _ hdt ρ a _ [] hf ⟨hw.os, hw.tape, hw.output⟩ (fun e he => by cases he) (fun e he => by cases he) hv))
          · simp at hs
        · simp at hs
  | .seq c d, k, s, hs, ρ, a, w, w0, Q, hf, hw, hv => by
    simp only [strip] at hs
    split at hs
    · rename_i x y h1 h2
      simp at hs; subst hs
      refine wp_seq (wp_mono (vc_sound c h1 hf hw hv) fun e a' w' hq => ?_)
      cases e <;> simp only [QX, Exit.then] at hq ⊢
      · obtain ⟨hw', ρ', hf', hv'⟩ := hq
        exact vc_sound d h2 hf' hw' hv'
      · exact hq
      · exact hq
    · simp at hs
  | .cond x c d, k, s, hs, ρ, a, w, w0, Q, hf, hw, hv => by
    simp only [strip] at hs
    split at hs
    · rename_i s1 s2 h1 h2
      simp at hs; subst hs
      simp only [vc, condN] at hv
      split at hv
      · rename_i t ht
        exact wp_cond_split (hf.ev ht) (fun e => vc_sound c h1 hf hw (hv.1 e)) (fun e => vc_sound d h2 hf hw (hv.2 e))
      · exact hv.elim
    · simp at hs
  | .block id c, k, s, hs, ρ, a, w, w0, Q, hf, hw, hv => by
    simp only [strip] at hs
    split at hs
    · rename_i s1 h1
      simp at hs; subst hs
      refine wp_block (wp_mono (vc_sound c h1 hf hw hv) fun e a' w' hq => ?_)
      cases e <;> simp only [QX, Exit.inBlock, blockK] at hq ⊢
      · exact hq
      · obtain ⟨hw', ρ', hf', hv'⟩ := hq
        split at hv'
        · rename_i e; rw [if_pos e]; exact ⟨hw', ρ', hf', hv'⟩
        · rename_i e; rw [if_neg e]; exact ⟨hw', ρ', hf', hv'⟩
      · exact hq
    · simp at hs
  | .loop c, k, s, hs, ρ, a, w, w0, Q, hf, hw, hv => by
    simp only [strip] at hs
    split at hs
    · rename_i s1 h1
      simp at hs; subst hs
      obtain ⟨α, I, E, μ, x₀, hI, hk, hround⟩ := hv
      refine wp_loop_ghost (fun m a w => Same w0 w ∧ ∃ x, Fits n (E x) a ∧ I x w.heap ∧ μ x = m) (μ x₀) ⟨hw, x₀, hf.of_knows hk, hI, rfl⟩ fun m a w ⟨hw, x, hf, hI, hm⟩ => ?_
      refine wp_mono (vc_sound c h1 hf hw (hround x w.heap hI)) fun e a' w' hq => ?_
      cases e <;> simp only [QX, Exit.then, seqK] at hq ⊢
      · obtain ⟨hw', ρ', hf', y, hlt, hk, hI'⟩ := hq
        exact ⟨μ y, hm ▸ hlt, hw', y, hf'.of_knows hk, hI', rfl⟩
      · exact hq
      · exact hq
    · simp at hs
  | .rangeFunc .., k, s, hs, ρ, a, w, w0, Q, hf, hw, hv => by simp [strip] at hs
  | .scope _, k, s, hs, ρ, a, w, w0, Q, hf, hw, hv => by simp [strip] at hs
  | .label _, k, s, hs, ρ, a, w, w0, Q, hf, hw, hv => by simp [strip] at hs
  | .goto _, k, s, hs, ρ, a, w, w0, Q, hf, hw, hv => by simp [strip] at hs
  | .refuse _, k, s, hs, ρ, a, w, w0, Q, hf, hw, hv => by simp [strip] at hs

end
end Gx
