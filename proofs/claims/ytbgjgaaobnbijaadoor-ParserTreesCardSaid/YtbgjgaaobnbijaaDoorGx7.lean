/- Lists of operations, with operands by position: slots that live on, and a stack of the others. -/
import Derived.Test.YtbgjgaaobnbijaaDoorGx6
import Derived.Deep.Quiet
namespace Gx
open Go

inductive Opd where
  | t (k : Nat)
  | s (k : Nat)
  | c (v : Value)
  | g (n : Nat)
  | f (n : Nat)
  | u

abbrev Slots := List (Option Value)

def jn : Option (Option Value) → Option Value
  | some x => x
  | none => none

def evO (σ : Slots) (τ : List Value) : Opd → Option Value
  | .t k => τ.toArray[k]?
  | .s k => jn (σ.toArray[k]?)
  | .c v => some v
  | .g n => some (.pointer (some ⟨n, 0, none⟩))
  | .f n => some (.func (.func n) #[] #[])
  | .u => none

def posOf : List Nat → Nat → Option Nat
  | [], _ => none
  | x :: r, t => if x = t then some 0 else match posOf r t with
    | some k => some (k + 1)
    | none => none

def cO (keep lay : List Nat) : Operand → Opd
  | .tmp t => match posOf keep t with
    | some k => .s k
    | none => match posOf lay t with
      | some k => .t k
      | none => .u
  | .const v => .c v
  | .global g => .g g
  | .func f => .f f

section
variable {O O' : Type}
def PE.map (m : O → O') : PE O → PE O'
  | .mv x => .mv (m x)
  | .pick c a b => .pick (m c) (m a) (m b)
  | .bin op x y => .bin op (m x) (m y)
  | .beq n x y => .beq n (m x) (m y)
  | .steq n ks x y => .steq n ks (m x) (m y)
  | .isnil n x => .isnil n (m x)
  | .isnils n x => .isnils n (m x)
  | .un op x => .un op (m x)
  | .cvi k x => .cvi k (m x)
  | .cvs x => .cvs (m x)
  | .fa off x => .fa off (m x)
  | .ix s x i => .ix s (m x) (m i)
  | .six x i => .six (m x) (m i)
  | .sl s x lo hi => .sl s (m x) (lo.map m) (hi.map m)
  | .ssl x lo hi => .ssl (m x) (lo.map m) (hi.map m)
  | .len x => .len (m x)
  | .slen x => .slen (m x)
  | .fld1 off x => .fld1 off (m x)
  | .fldA off s x => .fldA off s (m x)
  | .ext x i => .ext (m x) i
  | .mm b x y => .mm b (m x) (m y)
  | .nc x => .nc (m x)
  | .mkf f first caps => .mkf f (first.map m) (caps.map m)
  | .mki t x => .mki t (m x)
  | .isnilf n x => .isnilf n (m x)
  | .tya t z x => .tya t z (m x)
  | .tyb t x => .tyb t (m x)
  | .bld z ps => .bld z (ps.map fun p => (p.1, p.2.1, m p.2.2))
  | .ixa s n x i => .ixa s n (m x) (m i)

def SOp.map (m : O → O') : SOp O → SOp O'
  | .v e => .v (e.map m)
  | .ld sz x => .ld sz (m x)
  | .st n a x => .st n (m a) (m x)
  | .al t z => .al t z
  | .bx t x => .bx t (m x)
  | .bs t n z ps => .bs t n z (ps.map fun p => (p.1, p.2.1, m p.2.2))
  | .ap t tx s x => .ap t tx (m s) (m x)
  | .mk t s b z l c => .mk t s b z (m l) (m c)
  | .call f args => .call f (args.map m)
  | .cv f args => .cv (m f) (args.map m)
  | .b2s x => .b2s (m x)
  | .s2b t x => .s2b t (m x)
  | .pnc x => .pnc (m x)
  | .mks x => .mks (m x)
  | .mm => .mm
  | .ins a k x => .ins (m a) (m k) (m x)
  | .lkp z a k => .lkp z (m a) (m k)

theorem evs_map (m : O → O') (ev : O' → Option Value) : ∀ xs : List O, evs ev (xs.map m) = evs (fun x => ev (m x)) xs
  | [] => rfl
  | x :: xs => by simp only [List.map_cons, evs, evs_map m ev xs]
theorem partsE_map (m : O → O') (ev : O' → Option Value) : ∀ ps : List (Nat × Nat × O), partsE ev (ps.map fun p => (p.1, p.2.1, m p.2.2)) = partsE (fun x => ev (m x)) ps
  | [] => rfl
  | (a, b, x) :: ps => by simp only [List.map_cons, partsE, partsE_map m ev ps]
theorem bnd_map (m : O → O') (ev : O' → Option Value) : ∀ x : Option O, bnd ev (x.map m) = bnd (fun x => ev (m x)) x
  | none => rfl
  | some _ => rfl
theorem val_map (m : O → O') (ev : O' → Option Value) (e : PE O) : (e.map m).val ev = e.val (fun x => ev (m x)) := by
  cases e <;> simp only [PE.map, PE.val, evs_map, partsE_map, bnd_map]
theorem vc_map {P : Program} {E : Chain → Heap → Prop} {H : Heap} {R : Value → Heap → Prop} (m : O → O') (ev : O' → Option Value) (s : SOp O) : (s.map m).vc P E ev H R = s.vc P E (fun x => ev (m x)) H R := by
  cases s <;> simp only [SOp.map, SOp.vc, val_map, evs_map, partsE_map]

def SOp.reads : SOp O → Bool
  | .v _ | .ld _ _ | .b2s _ => true
  | _ => false

/-- What a reading operation yields. -/
def SOp.rd (ev : O → Option Value) (H : Heap) : SOp O → Option (Prop × Value)
  | .v e => e.val ev
  | .ld sz x => mvN (ldN H sz (ev x))
  | .b2s x => mvN (b2sN H (ev x))
  | _ => none
theorem rd_map {H : Heap} (m : O → O') (ev : O' → Option Value) (s : SOp O) : (s.map m).rd ev H = s.rd (fun x => ev (m x)) H := by
  cases s <;> simp only [SOp.map, SOp.rd, val_map]

def SOp.total : SOp O → Bool
  | .v (.mv _) | .v (.un _ _) | .v (.cvi _ _) | .v (.cvs _) | .v (.len _) | .v (.slen _) | .v (.beq _ _ _) | .v (.fa _ _) | .v (.nc _) | .v (.fld1 _ _) | .v (.fldA _ _ _) | .ld _ _ => true
  | .v (.bin op _ _) => match op with | .quo | .rem | .shl | .shr => false | _ => true
  | _ => false
end

/-- Where a result goes. -/
inductive Dst where
  | no
  | t
  | s (k : Nat)

def cD (keep : List Nat) : Option Nat → Dst
  | none => .no
  | some d => match posOf keep d with
    | some k => .s k
    | none => .t
def layD (keep lay : List Nat) : Option Nat → List Nat
  | none => lay
  | some d => match posOf keep d with
    | some _ => lay
    | none => d :: lay
def putS (d : Dst) (v : Value) (σ : Slots) : Slots :=
  match d with
  | .s k => σ.set k (some v)
  | _ => σ
def putT (d : Dst) (v : Value) (τ : List Value) : List Value :=
  match d with
  | .t => v :: τ
  | _ => τ
def setS (x : Opd) (v : Value) (σ : Slots) : Slots :=
  match x with
  | .s k => σ.set k (some v)
  | _ => σ
def setT (x : Opd) (v : Value) (τ : List Value) : List Value :=
  match x with
  | .t k => τ.set k v
  | _ => τ
def gS (first : Bool) (x : Opd) (v : Value) (σ : Slots) : Slots := bif first then setS x v σ else σ
def gT (first : Bool) (x : Opd) (v : Value) (τ : List Value) : List Value := bif first then setT x v τ else τ

/-- What stands inside a guard: readings; and what is picked by a guard inside. -/
inductive In where
  | op (s : SOp Opd)
  | nst (t : Opd) (b : Bool) (inner : List In) (x y : Opd)

/-- Both values Booleans: the Boolean that is picked. -/
def selN : Option Value → Option Value → Option Value → Option Value
  | some (.bool c), some (.bool a), some (.bool b) => some (.bool (bif c then a else b))
  | _, _, _ => none

/-- The value behind a guarded choice: what must hold, and the value. -/
def selV (σ : Slots) (τ : List Value) (t : Opd) (b : Bool) (x y : Opd) : Option (Prop × List Value) → Option (Prop × Value)
  | some (p, τ') => match evO σ τ t, selN (evO σ τ t) (evO σ (if b then τ' else τ) x) (evO σ (if b then τ else τ') y) with
    | some (.bool c), some v => some ((c = b → p), v)
    | _, _ => none
  | none => match evO σ τ t, evO σ τ (if b then y else x) with
    | some (.bool c), some (.bool v) => some ((c = !b), .bool v)
    | _, _ => none

def inPush (v : Option (Prop × Value)) (τ : List Value) : Option (Prop × List Value) :=
  match v with
  | some (p, v) => some (p, v :: τ)
  | none => none
def inThen (f : List Value → Option (Prop × List Value)) : Option (Prop × List Value) → Option (Prop × List Value)
  | some (p, τ') => match f τ' with
    | some (q, τ'') => some (p ∧ q, τ'')
    | none => none
  | none => none

mutual
def inE (H : Heap) (σ : Slots) : In → List Value → Option (Prop × List Value)
  | .op s, τ => inPush (s.rd (evO σ τ) H) τ
  | .nst t b inner x y, τ => inPush (selV σ τ t b x y (innerE H σ inner τ)) τ
def innerE (H : Heap) (σ : Slots) : List In → List Value → Option (Prop × List Value)
  | [], τ => some (True, τ)
  | i :: r, τ => inThen (fun τ' => innerE H σ r τ') (inE H σ i τ)
end

inductive GOp where
  | op (g : Option (Opd × Bool × Bool)) (d : Dst) (s : SOp Opd)
  | sel (t : Opd) (b : Bool) (inner : List In) (d : Dst) (x y : Opd)

/-- What a guard's slot says: a Boolean; or nothing (its operation did not come up). -/
def guardOf : Option Value → Option (Option Bool)
  | some (.bool c) => some (some c)
  | some (.tuple vs) => if vs.isEmpty then some none else none
  | _ => none

def vcOps (P : Program) (E : Chain → Heap → Prop) : List GOp → Slots → List Value → Heap → (Slots → Heap → Prop) → Prop
  | [], σ, _, H, K => K σ H
  | .op none d s :: r, σ, τ, H, K => s.vc P E (evO σ τ) H (fun v H' => vcOps P E r (putS d v σ) (putT d v τ) H' K)
  | .op (some (t, b, fr)) d s :: r, σ, τ, H, K =>
    match guardOf (evO σ τ t) with
    | some (some c) => (c = b → s.vc P E (evO (gS fr t (.bool b) σ) (gT fr t (.bool b) τ)) H (fun v H' => vcOps P E r (putS d v (gS fr t (.bool b) σ)) (putT d v (gT fr t (.bool b) τ)) H' K)) ∧
        (c = (!b) → vcOps P E r (putS d undef (gS fr t (.bool (!b)) σ)) (putT d undef (gT fr t (.bool (!b)) τ)) H K)
    | some none => vcOps P E r (putS d undef σ) (putT d undef τ) H K
    | none => False
  | .sel t b inner d x y :: r, σ, τ, H, K => vN H (fun v H' => vcOps P E r (putS d v σ) (putT d v τ) H' K) (selV σ τ t b x y (innerE H σ inner τ))

/-- What an operation must do, in one of two senses: with all that it may do; or as a mere reading. -/
structure Sense (P : Program) (E : Chain → Heap → Prop) where
  good : Oper → (Operand → Value) → Heap → (Value → Heap → Prop) → Prop
  allow : SOp Operand → Bool
  mono : ∀ {o ev H} {R R' : Value → Heap → Prop}, good o ev H R → (∀ v H', R v H' → R' v H') → good o ev H R'
  ok : ∀ {o s} {ev : Operand → Option Value} {a : Act} {H : Heap} {R : Value → Heap → Prop}, stripOp P o = some s → allow s = true → Agree ev a → s.vc P E ev H R → good o a.eval H R
  ofVal : ∀ {o ev H v} {R : Value → Heap → Prop}, OpVal P o ev H v → R v H → good o ev H R

/-- The operations one after the other. -/
def RunL {P : Program} {E : Chain → Heap → Prop} (S : Sense P E) (ops : Array Oper) (Q : Act → Heap → Prop) : List Oper → Act → Heap → Prop
  | [], a, H => Q a H
  | o :: r, a, H => if Region.wanted o (yielded ops a.tmps) then S.good o a.eval H (fun v H' => RunL S ops Q r (a.put o.dst v) H') else RunL S ops Q r (a.put o.dst undef) H

def Sense.all (P : Program) (E : Chain → Heap → Prop) : Sense P E where
  good := OpOk P E
  allow := fun _ => true
  mono := OpOk.mono
  ok := fun h _ hf hv => stripOp_ok h hf hv
  ofVal := OpVal.ok

/-! ### from code to stripped operations -/

/-- The slot that a guard looks at. -/
def guardSlot (ops : List Oper) : Option (Nat × Bool) → Option (Option (Nat × Bool))
  | none => some none
  | some (j, b) => match ops[j]? with
    | some o => match o.dst with
      | some d => some (some (d, b))
      | none => none
    | none => none

/-- A frame's size, and slots that no operation writes. -/
structure Nx where
  n : Nat
  fx : List Nat
/-- What lies deferred, and what the slots hold that none writes. -/
structure DD where
  defers : List Deferred
  fix : Nat → Value

def dstOk (n : Nx) : Option Nat → Bool
  | some d => decide (d < n.n) && !n.fx.elem d
  | none => true

def Fixed (n : Nx) (dd : DD) (a : Act) : Prop := a.defers = dd.defers ∧ ∀ t, t ∈ n.fx → a.tmps[t]? = some (dd.fix t)

theorem dstOk_lt {n : Nx} {d : Nat} (h : dstOk n (some d) = true) : d < n.n := by
  simp only [dstOk, Bool.and_eq_true, decide_eq_true_eq] at h; exact h.1
theorem dstOk_ne {n : Nx} {d t : Nat} (h : dstOk n (some d) = true) (ht : t ∈ n.fx) : d ≠ t := by
  rintro rfl
  simp only [dstOk, Bool.and_eq_true, Bool.not_eq_true'] at h
  have := h.2
  simp only [List.elem_eq_contains, List.contains_eq_mem, decide_eq_false_iff_not] at this
  exact this ht
theorem put_fx {n : Nx} {d : Option Nat} (h : dstOk n d = true) (v : Value) (a : Act) {t : Nat} (ht : t ∈ n.fx) : (a.put d v).tmps[t]? = a.tmps[t]? := by
  cases d with
  | none => rfl
  | some d => simp [Act.put, Array.getElem?_setIfInBounds_ne (dstOk_ne h ht)]
theorem put_defers (a : Act) (d : Option Nat) (v : Value) : (a.put d v).defers = a.defers := by cases d <;> rfl
theorem Fixed.put {n : Nx} {dd : DD} {a : Act} (h : Fixed n dd a) {d : Option Nat} (hd : dstOk n d = true) (v : Value) : Fixed n dd (a.put d v) :=
  ⟨(put_defers _ _ _).trans h.1, fun t ht => (put_fx hd v a ht).trans (h.2 t ht)⟩
theorem Fixed.unput {n : Nx} {dd : DD} {a : Act} {d : Option Nat} {v : Value} (h : Fixed n dd (a.put d v)) (hd : dstOk n d = true) : Fixed n dd a :=
  ⟨(put_defers _ _ _).symm.trans h.1, fun t ht => (put_fx hd v a ht).symm.trans (h.2 t ht)⟩

theorem wpList_of_runL {P : Program} {E : Chain → Heap → Prop} {n : Nx} {dd : DD} {ops : Array Oper} {Q : Exit → Act → World → Prop} {Q' : Act → Heap → Prop} : ∀ (l : List Oper) (a : Act) (w w0 : World), Same w0 w →
    Fixed n dd a → (∀ o ∈ l, dstOk n o.dst = true) → (∀ a w', Same w0 w' → Q' a w'.heap → Q .normal a w') → (∀ c a w', Fixed n dd a → Same w0 w' → E c w'.heap → Q (.panic c) a w') → RunL (Sense.all P E) ops Q' l a w.heap → wpList P ops Q l a w
  | [], a, w, w0, hs, hd, hl, h, hE, hr => h a w hs hr
  | o :: r, a, w, w0, hs, hd, hl, h, hE, hr => by
    unfold RunL at hr
    unfold wpList
    split
    · rename_i hw; rw [if_pos hw] at hr
      exact .inl (OpOk.wp hr (fun v w' hR hs' => wpList_of_runL r _ w' w0 (hs.trans hs') (hd.put (hl o (by simp)) _) (fun q hq => hl q (by simp [hq])) h hE hR) fun c w' hc hs' => hE c a w' hd (hs.trans hs') hc)
    · rename_i hw; rw [if_neg hw] at hr
      exact wpList_of_runL r _ w w0 hs (hd.put (hl o (by simp)) _) (fun q hq => hl q (by simp [hq])) h hE hr


structure RawG where
  g : Option (Nat × Bool)
  d : Option Nat
  s : SOp Operand

def stripG (P : Program) (n : Nx) (ops : List Oper) (o : Oper) : Option RawG :=
  if dstOk n o.dst then
    match guardSlot ops o.guard, stripOp P o with
    | some g, some s => some ⟨g, o.dst, s⟩
    | _, _ => none
  else none

def known (keep lay : List Nat) (t : Nat) : Bool := (posOf keep t).isSome || (posOf lay t).isSome

structure Grp where
  inner : List In
  d : Nat
  x : Operand
  y : Operand
  lay : List Nat
  rest : List RawG

def consIn (i : In) : Option Grp → Option Grp
  | some g => some { g with inner := i :: g.inner }
  | none => none

/-- The pick on slot `t` under the guard `og`. -/
def asPick (t : Nat) (og : Option (Nat × Bool)) (r : RawG) : Option (Nat × Operand × Operand) :=
  match r.d, r.s with
  | some d, .v (.pick (.tmp t') x y) => if t' = t ∧ r.g = og then some (d, x, y) else none
  | _, _ => none

/-- A reading under the guard (t, b), to a slot that is new. -/
def asRead (keep lay : List Nat) (t : Nat) (b : Bool) (r : RawG) : Option Nat :=
  match r.d with
  | some d => if r.g = some (t, b) ∧ known keep lay d = false ∧ r.s.total = true then some d else none
  | none => none

/-- The guarded operations up to the pick on the guard's slot. -/
def selIn (keep : List Nat) : Nat → Nat → Bool → Option (Nat × Bool) → List Nat → List Nat → List RawG → Option Grp
  | 0, _, _, _, _, _, _ => none
  | _ + 1, _, _, _, _, _, [] => none
  | k + 1, t, b, og, ds, lay, r :: rs =>
    if known keep lay t then
      match asPick t og r with
      | some (d, x, y) => some ⟨[], d, x, y, lay, rs⟩
      | none =>
        match asRead keep lay t b r with
        | some d => consIn (.op (r.s.map (cO keep lay))) (selIn keep k t b og (d :: ds) (d :: lay) rs)
        | none =>
          match r.g with
          | some (t', b') =>
            if ds.elem t' then
              match selIn keep k t' b' (some (t, b)) [] lay (r :: rs) with
              | some g => if known keep lay g.d = false then
                  consIn (.nst (cO keep lay (.tmp t')) b' g.inner (cO keep (if b' then g.lay else lay) g.x) (cO keep (if b' then lay else g.lay) g.y)) (selIn keep k t b og (g.d :: ds) (g.d :: lay) g.rest)
                else none
              | none => none
            else none
          | none => none
    else none

def comp (keep : List Nat) : Nat → Option (Nat × Bool) → List Nat → List RawG → List GOp
  | 0, _, _, _ => [.op none .no (.v (.mv .u))]
  | _ + 1, _, _, [] => []
  | k + 1, pg, lay, r :: rs =>
    match r.g with
    | none => .op none (cD keep r.d) (r.s.map (cO keep lay)) :: comp keep k none (layD keep lay r.d) rs
    | some (t, b) =>
      match (if pg = some (t, b) then none else selIn keep (rs.length + 2) t b none [] lay (r :: rs)) with
      | some g => .sel (cO keep lay (.tmp t)) b g.inner (cD keep (some g.d)) (cO keep (if b then g.lay else lay) g.x) (cO keep (if b then lay else g.lay) g.y) :: comp keep k none (layD keep lay (some g.d)) g.rest
      | none => .op (some (cO keep lay (.tmp t), b, !(pg = some (t, b)))) (cD keep r.d) (r.s.map (cO keep lay)) :: comp keep k (some (t, b)) (layD keep lay r.d) rs

end Gx
