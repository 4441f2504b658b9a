/- A calculus for walking compiled Go code: symbolic environments, heap-only assertions. -/
import Derived.Tactics
import Derived.Orders
import Derived.Laws.AppendOwn
import Derived.WalkKit
import Derived.KernelRfl
namespace Gx
open Go

abbrev Heap := Array Obj
abbrev Env := List (Nat × Value)

def Env.get : Env → Nat → Option Value
  | [], _ => none
  | (i, v) :: r, t => if i = t then some v else Env.get r t

def Env.ev (ρ : Env) : Operand → Option Value
  | .tmp t => ρ.get t
  | .const v => some v
  | .global g => some (.pointer (some ⟨g, 0, none⟩))
  | .func f => some (.func (.func f) #[] #[])

def Env.evs (ρ : Env) : List Operand → Option (List Value)
  | [] => some []
  | x :: r => match ρ.ev x, Env.evs ρ r with
    | some v, some vs => some (v :: vs)
    | _, _ => none

def Env.keep (ρ : Env) : List Nat → Env
  | [] => []
  | t :: r => match ρ.get t with
    | some v => (t, v) :: Env.keep ρ r
    | none => Env.keep ρ r

structure Fits (n : Nat) (ρ : Env) (a : Act) : Prop where
  size : a.tmps.size = n
  defers : a.defers = []
  get : ∀ t v, ρ.get t = some v → a.tmps[t]? = some v

theorem Fits.ev {n : Nat} {ρ : Env} {a : Act} (h : Fits n ρ a) {x : Operand} {v : Value} (hv : ρ.ev x = some v) : a.eval x = v := by
  cases x with
  | tmp t =>
    have := h.get t v hv
    simp [Act.eval, Array.getD_eq_getD_getElem?, this]
  | const u => simpa [Env.ev, Act.eval] using hv
  | global g => simpa [Env.ev, Act.eval] using hv
  | func f => simpa [Env.ev, Act.eval] using hv

theorem Fits.evs {n : Nat} {ρ : Env} {a : Act} (h : Fits n ρ a) : ∀ {xs : List Operand} {vs : List Value}, ρ.evs xs = some vs → xs.map a.eval = vs
  | [], vs, hv => by simp [Env.evs] at hv; simp [← hv]
  | x :: xs, vs, hv => by
    simp only [Env.evs] at hv
    split at hv
    · rename_i v vs' h1 h2
      simp at hv; subst hv
      simp [h.ev h1, h.evs h2]
    · simp at hv

theorem Fits.put {n : Nat} {ρ : Env} {a : Act} (h : Fits n ρ a) {d : Nat} (hd : d < n) (v : Value) : Fits n ((d, v) :: ρ) (a.put (some d) v) := by
  refine ⟨by simp [Act.put, h.size], by simp [Act.put, h.defers], fun t u hu => ?_⟩
  simp only [Env.get] at hu
  by_cases e : d = t
  · subst e
    rw [if_pos rfl] at hu
    simp at hu; subst hu
    simp [Act.put, h.size, hd]
  · rw [if_neg e] at hu
    simp [Act.put, Array.getElem?_setIfInBounds_ne e, h.get t u hu]

theorem Fits.keep {n : Nat} {ρ : Env} {a : Act} (h : Fits n ρ a) (l : List Nat) : Fits n (ρ.keep l) a := by
  refine ⟨h.size, h.defers, ?_⟩
  induction l with
  | nil => intro t v hv; simp [Env.keep, Env.get] at hv
  | cons s l ih =>
    intro t v hv
    simp only [Env.keep] at hv
    split at hv
    · rename_i u hu
      simp only [Env.get] at hv
      split at hv
      · rename_i e; simp at hv; subst e; subst hv; exact h.get _ _ hu
      · exact ih t v hv
    · exact ih t v hv

theorem Fits.weaken {n : Nat} {ρ ρ' : Env} {a : Act} (h : Fits n ρ a) (hs : ∀ t v, ρ'.get t = some v → ρ.get t = some v) : Fits n ρ' a :=
  ⟨h.size, h.defers, fun t v hv => h.get t v (hs t v hv)⟩

/-- `ρ` knows all that `l` says. -/
def Env.knows (ρ : Env) : Env → Prop
  | [] => True
  | (t, v) :: r => ρ.get t = some v ∧ Env.knows ρ r

theorem Fits.of_knows {n : Nat} {ρ : Env} {a : Act} (h : Fits n ρ a) : ∀ {l : Env}, ρ.knows l → Fits n l a
  | [], _ => ⟨h.size, h.defers, fun t v hv => by simp [Env.get] at hv⟩
  | (s, u) :: l, hk => by
    have ih := h.of_knows (l := l) hk.2
    refine ⟨h.size, h.defers, fun t v hv => ?_⟩
    simp only [Env.get] at hv
    split at hv
    · rename_i e; simp at hv; subst e; subst hv; exact h.get _ _ hk.1
    · exact ih.get t v hv

/-! ### worlds -/

structure Same (w w' : World) : Prop where
  os : w'.os = w.os
  tape : w'.tape = w.tape
  output : w'.output = w.output

theorem Same.refl (w : World) : Same w w := ⟨rfl, rfl, rfl⟩
theorem Same.trans {a b c : World} (h : Same a b) (k : Same b c) : Same a c := ⟨k.os.trans h.os, k.tape.trans h.tape, k.output.trans h.output⟩

/-- A call that returns: from every world with this heap. -/
def HCalls (P : Program) (f : FuncId) (args : Array Value) (H : Heap) (R : Value → Heap → Prop) : Prop :=
  ∀ w : World, w.heap = H → Calls P f args w fun e w' => ∃ v, e = .returned v ∧ R v w'.heap ∧ Same w w'

theorem HCalls.mono {P : Program} {f : FuncId} {args : Array Value} {H : Heap} {R R' : Value → Heap → Prop} (h : HCalls P f args H R)
    (hr : ∀ v H', R v H' → R' v H') : HCalls P f args H R' :=
  fun w hw => (h w hw).mono fun _ _ ⟨v, he, hR, hs⟩ => ⟨v, he, hr _ _ hR, hs⟩

def cellAt (H : Heap) (a : Addr) : Option Value :=
  match H[a.block]? with
  | some (.cells c _ _) => if a.spot.isSome then none else c[a.off]?
  | _ => none

theorem cell?_eq (w : World) (a : Addr) : w.cell? a = cellAt w.heap a := rfl

def frozenAt (H : Heap) (a : Addr) : Bool :=
  match H[a.block]? with
  | some (.cells _ _ (lo, hi)) => lo ≤ a.off && a.off < hi
  | _ => false

theorem frozen?_eq (w : World) (a : Addr) : w.frozen? a = frozenAt w.heap a := rfl

def setCellH (H : Heap) (a : Addr) (v : Value) : Heap :=
  H.modify a.block fun
      | .cells c elem frozen => .cells (if a.spot.isSome then c else c.setIfInBounds a.off v) elem frozen
      | o => o

theorem setCell_heap (w : World) (a : Addr) (v : Value) : (w.setCell a v).heap = setCellH w.heap a v := rfl

/-- What an operation must do: with these operands, from every world with this heap. -/
def OpOk (P : Program) (o : Oper) (ev : Operand → Value) (H : Heap) (R : Value → Heap → Prop) : Prop :=
  ∀ w : World, w.heap = H → match (execOp ev o).run P w with
    | .ok (.value v) w' => R v w'.heap ∧ Same w w'
    | .ok .skip w' => R undef w'.heap ∧ Same w w'
    | .ok (.enter f args) w' => Calls P f args w' fun e w'' => ∃ v, e = .returned v ∧ R v w''.heap ∧ Same w w''
    | _ => False

theorem OpOk.mono {P : Program} {o : Oper} {ev : Operand → Value} {H : Heap} {R R' : Value → Heap → Prop} (h : OpOk P o ev H R) (hr : ∀ v H', R v H' → R' v H') : OpOk P o ev H R' := by
  intro w hw
  have := h w hw
  split at this
  · exact ⟨hr _ _ this.1, this.2⟩
  · exact ⟨hr _ _ this.1, this.2⟩
  · exact this.mono fun _ _ ⟨v, he, hR, hs⟩ => ⟨v, he, hr _ _ hR, hs⟩
  · exact this

theorem OpOk.wp {P : Program} {o : Oper} {a : Act} {w : World} {K : Act → World → Prop} {Q : Exit → Act → World → Prop} {R : Value → Heap → Prop}
    (h : OpOk P o a.eval w.heap R) (hK : ∀ v w', R v w'.heap → Same w w' → K (a.put o.dst v) w') : o.wp P a w K Q := by
  have := h w rfl
  unfold Oper.wp
  generalize (execOp a.eval o).run P w = r at *
  cases r with
  | ok n w' =>
    cases n <;> simp only at this <;> try exact this.elim
    · exact hK _ _ this.1 this.2
    · exact hK _ _ this.1 this.2
    · simp only [Oper.upon]
      exact this.mono fun e w'' ⟨v, he, hR, hs⟩ => by subst he; exact hK _ _ hR hs
  | halt x w' => simp only at this

/-- An operation whose value hangs on the heap alone and that leaves the world as it is. -/
def OpVal (P : Program) (o : Oper) (ev : Operand → Value) (H : Heap) (v : Value) : Prop :=
  ∀ w : World, w.heap = H → (execOp ev o).run P w = .ok (.value v) w

theorem OpVal.ok {P : Program} {o : Oper} {ev : Operand → Value} {H : Heap} {v : Value} {R : Value → Heap → Prop} (h : OpVal P o ev H v) (hR : R v H) : OpOk P o ev H R := by
  intro w hw
  rw [h w hw]
  exact ⟨hw ▸ hR, Same.refl _⟩

end Gx
