/- Lists of operations. -/
import Derived.Test.YtpoimkhfofpafaaGx6
import Derived.Deep.Quiet
namespace Gx
open Go

inductive GOp where
  | op (g : Option (Nat × Bool)) (d : Option Nat) (s : SOp)
  | sel (t : Nat) (b : Bool) (inner : List (Nat × SOp)) (d : Nat) (x y : Operand)
  deriving Inhabited

def putE (d : Option Nat) (v : Value) (ρ : Env) : Env :=
  match d with
  | some d => (d, v) :: ρ
  | none => ρ

def SOp.reads : SOp → Bool
  | .v _ | .ld _ _ | .b2s _ => true
  | _ => false

/-- What a reading operation yields. -/
def SOp.rd (ρ : Env) (H : Heap) : SOp → Option (Prop × Value)
  | .v e => e.val ρ
  | .ld sz x => mvN (ldN H sz (ρ.ev x))
  | .b2s x => mvN (b2sN H (ρ.ev x))
  | _ => none

def innerE (H : Heap) : List (Nat × SOp) → Env → Option (Prop × Env)
  | [], ρ => some (True, ρ)
  | (d, s) :: r, ρ => match s.rd ρ H with
    | some (p, v) => match innerE H r ((d, v) :: ρ) with
      | some (q, ρ') => some (p ∧ q, ρ')
      | none => none
    | none => none

def Env.del (ds : List Nat) : Env → Env
  | [] => []
  | (i, v) :: r => if ds.elem i then Env.del ds r else (i, v) :: Env.del ds r

/-- Both values Booleans: the Boolean that is picked. -/
def selN : Option Value → Option Value → Option Value → Option Value
  | some (.bool c), some (.bool a), some (.bool b) => some (.bool (bif c then a else b))
  | _, _, _ => none

/-- The value behind a guarded choice: what must hold, and the value. -/
def selV (ρ : Env) (t : Nat) (b : Bool) (x y : Operand) : Option (Prop × Env) → Option (Prop × Value)
  | some (p, ρ') => match ρ.get t, selN (ρ.get t) ((if b then ρ' else ρ).ev x) ((if b then ρ else ρ').ev y) with
    | some (.bool c), some v => some ((c = b → p), v)
    | _, _ => none
  | none => match ρ.get t, ρ.ev (if b then y else x) with
    | some (.bool c), some (.bool v) => some ((c = !b), .bool v)
    | _, _ => none

/-- What a guard's slot says: a Boolean; or nothing (its operation did not come up). -/
def guardOf : Option Value → Option (Option Bool)
  | some (.bool c) => some (some c)
  | some (.tuple vs) => if vs.isEmpty then some none else none
  | _ => none

def vcOps (P : Program) : List GOp → Env → Heap → (Env → Heap → Prop) → Prop
  | [], ρ, H, K => K ρ H
  | .op none d s :: r, ρ, H, K => s.vc P ρ H (fun v H' => vcOps P r (putE d v ρ) H' K)
  | .op (some (t, b)) d s :: r, ρ, H, K =>
    match guardOf (ρ.get t) with
    | some (some c) => (c = b → s.vc P ((t, .bool b) :: ρ) H (fun v H' => vcOps P r (putE d v ((t, .bool b) :: ρ)) H' K)) ∧
        (c = (!b) → vcOps P r (putE d undef ((t, .bool (!b)) :: ρ)) H K)
    | some none => vcOps P r (putE d undef ρ) H K
    | none => False
  | .sel t b inner d x y :: r, ρ, H, K => vN H (fun v H' => vcOps P r ((d, v) :: ρ.del (inner.map (·.1))) H' K) (selV ρ t b x y (innerE H inner ρ))

def retK (P : Program) (d : Option Nat) (r : List GOp) (ρ : Env) (K : Env → Heap → Prop) : Value → Heap → Prop :=
  fun v H' => vcOps P r (putE d v ρ) H' K

/-- What an operation must do, in one of two senses: with all that it may do; or as a mere reading. -/
structure Sense (P : Program) where
  good : Oper → (Operand → Value) → Heap → (Value → Heap → Prop) → Prop
  allow : SOp → Bool
  mono : ∀ {o ev H} {R R' : Value → Heap → Prop}, good o ev H R → (∀ v H', R v H' → R' v H') → good o ev H R'
  ok : ∀ {o s n} {ρ : Env} {a : Act} {H : Heap} {R : Value → Heap → Prop}, stripOp P o = some s → allow s = true → Fits n ρ a → s.vc P ρ H R → good o a.eval H R
  ofVal : ∀ {o ev H v} {R : Value → Heap → Prop}, OpVal P o ev H v → R v H → good o ev H R

/-- The operations one after the other. -/
def RunL {P : Program} (S : Sense P) (ops : Array Oper) (Q : Act → Heap → Prop) : List Oper → Act → Heap → Prop
  | [], a, H => Q a H
  | o :: r, a, H => if Region.wanted o (yielded ops a.tmps) then S.good o a.eval H (fun v H' => RunL S ops Q r (a.put o.dst v) H') else RunL S ops Q r (a.put o.dst undef) H

def Sense.all (P : Program) : Sense P where
  good := OpOk P
  allow := fun _ => true
  mono := OpOk.mono
  ok := fun h _ hf hv => stripOp_ok h hf hv
  ofVal := OpVal.ok

theorem wpList_of_runL {P : Program} {ops : Array Oper} {Q : Exit → Act → World → Prop} {Q' : Act → Heap → Prop} : ∀ (l : List Oper) (a : Act) (w w0 : World), Same w0 w →
    (∀ a w', Same w0 w' → Q' a w'.heap → Q .normal a w') → RunL (Sense.all P) ops Q' l a w.heap → wpList P ops Q l a w
  | [], a, w, w0, hs, h, hr => h a w hs hr
  | o :: r, a, w, w0, hs, h, hr => by
    unfold RunL at hr
    unfold wpList
    split
    · rename_i hw; rw [if_pos hw] at hr
      exact .inl (OpOk.wp hr fun v w' hR hs' => wpList_of_runL r _ w' w0 (hs.trans hs') h hR)
    · rename_i hw; rw [if_neg hw] at hr
      exact wpList_of_runL r _ w w0 hs h hr

/-! ### from code to stripped operations -/

/-- The slot that a guard looks at. -/
def guardSlot (ops : List Oper) : Option (Nat × Bool) → Option (Option (Nat × Bool))
  | none => some none
  | some (j, b) => match ops[j]? with
    | some o => match o.dst with
      | some d => some (some (d, b))
      | none => none
    | none => none

def dstOk (n : Nat) : Option Nat → Bool
  | some d => d < n
  | none => true

/-- g and o say the same. -/
def stripG (P : Program) (n : Nat) (ops : List Oper) (o : Oper) : Option GOp :=
  if dstOk n o.dst then
    match guardSlot ops o.guard, stripOp P o with
    | some g, some s => some (.op g o.dst s)
    | _, _ => none
  else none

def SOp.total : SOp → Bool
  | .v (.mv _) | .v (.un _ _) | .v (.cvi _ _) | .v (.cvs _) | .v (.len _) | .v (.slen _) | .v (.beq _ _ _) | .v (.fa _ _) | .v (.nc _) | .v (.fld1 _ _) | .v (.fldA _ _ _) | .ld _ _ => true
  | .v (.bin op _ _) => match op with | .quo | .rem | .shl | .shr => false | _ => true
  | _ => false

/-- The guarded operations ahead of a pick on the same slot. -/
def selInner (t : Nat) (b : Bool) : List GOp → Option (List (Nat × SOp) × Nat × Operand × Operand × List GOp)
  | .op (some (t', b')) (some d) s :: r =>
    if t' = t ∧ b' = b ∧ s.total then
      match selInner t b r with
      | some (inner, rest) => some ((d, s) :: inner, rest)
      | none => none
    else none
  | .op none (some d) (.v (.pick (.tmp t') x y)) :: r => if t' = t then some ([], d, x, y, r) else none
  | _ => none

def innerClear (t : Nat) (inner : List (Nat × SOp)) (z : Operand) : Bool :=
  inner.all fun p => p.1 != t && (match z with | .tmp u => p.1 != u | _ => true)

def fuse : Nat → List GOp → List GOp
  | 0, l => l
  | k + 1, l =>
    match l with
    | [] => []
    | g :: r =>
      match g with
      | .op (some (t, b)) _ _ =>
        match selInner t b l with
        | some (inner, d, x, y, rest) => if innerClear t inner (if b then y else x) then .sel t b inner d x y :: fuse k rest else g :: fuse k r
        | none => g :: fuse k r
      | _ => g :: fuse k r

end Gx
