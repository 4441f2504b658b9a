/- A calculus for walking compiled Go code: symbolic environments, heap-only assertions. -/
import Derived.Tactics
import Derived.Orders
import Derived.Laws.AppendOwn
import Derived.WalkKit
import Derived.KernelRfl
namespace Gx
open Go

abbrev Heap := Array Obj
/-- What is known of the operands. -/
def Agree (ev : Operand → Option Value) (a : Act) : Prop := ∀ x v, ev x = some v → a.eval x = v

def evs {O : Type} (ev : O → Option Value) : List O → Option (List Value)
  | [] => some []
  | x :: r => match ev x, evs ev r with
    | some v, some vs => some (v :: vs)
    | _, _ => none

theorem Agree.ev {ev : Operand → Option Value} {a : Act} (h : Agree ev a) {x : Operand} {v : Value} (hv : ev x = some v) : a.eval x = v := h x v hv

theorem Agree.evs {ev : Operand → Option Value} {a : Act} (h : Agree ev a) : ∀ {xs : List Operand} {vs : List Value}, Gx.evs ev xs = some vs → xs.map a.eval = vs
  | [], vs, hv => by simp [Gx.evs] at hv; simp [← hv]
  | x :: xs, vs, hv => by
    simp only [Gx.evs] at hv
    split at hv
    · rename_i v vs' h1 h2
      simp at hv; subst hv
      simp [h.ev h1, h.evs h2]
    · simp at hv

/-! ### worlds -/

structure Same (w w' : World) : Prop where
  os : w'.os = w.os
  tape : w'.tape = w.tape
  output : w'.output = w.output

theorem Same.refl (w : World) : Same w w := ⟨rfl, rfl, rfl⟩
theorem Same.trans {a b c : World} (h : Same a b) (k : Same b c) : Same a c := ⟨k.os.trans h.os, k.tape.trans h.tape, k.output.trans h.output⟩

abbrev Chain := List PanicEntry
/-- How a call ends: returned, or panicked. -/
def EndH (R : Value → Heap → Prop) (E : Chain → Heap → Prop) (w : World) : Ending → World → Prop
  | .returned v, w' => R v w'.heap ∧ Same w w'
  | .panicked c, w' => E c w'.heap ∧ Same w w'
  | .outgrown, _ => False

/-- A call that returns or panics: from every world with this heap. -/
def PCalls (P : Program) (f : FuncId) (args : Array Value) (H : Heap) (R : Value → Heap → Prop) (E : Chain → Heap → Prop) : Prop :=
  ∀ w : World, w.heap = H → Calls P f args w (EndH R E w)
/-- A call that returns. -/
def HCalls (P : Program) (f : FuncId) (args : Array Value) (H : Heap) (R : Value → Heap → Prop) : Prop := PCalls P f args H R fun _ _ => False

theorem EndH.mono {R R' : Value → Heap → Prop} {E E' : Chain → Heap → Prop} {w : World} (hr : ∀ v H', R v H' → R' v H') (he : ∀ c H', E c H' → E' c H') : ∀ e w', EndH R E w e w' → EndH R' E' w e w'
  | .returned _, _, h => ⟨hr _ _ h.1, h.2⟩
  | .panicked _, _, h => ⟨he _ _ h.1, h.2⟩
  | .outgrown, _, h => h
theorem PCalls.mono {P : Program} {f : FuncId} {args : Array Value} {H : Heap} {R R' : Value → Heap → Prop} {E E' : Chain → Heap → Prop} (h : PCalls P f args H R E)
    (hr : ∀ v H', R v H' → R' v H') (he : ∀ c H', E c H' → E' c H') : PCalls P f args H R' E' :=
  fun w hw => (h w hw).mono (EndH.mono hr he)
theorem HCalls.mono {P : Program} {f : FuncId} {args : Array Value} {H : Heap} {R R' : Value → Heap → Prop} {E' : Chain → Heap → Prop} (h : HCalls P f args H R)
    (hr : ∀ v H', R v H' → R' v H') : PCalls P f args H R' E' := PCalls.mono h hr (fun _ _ h => h.elim)
theorem HCalls.out {P : Program} {f : FuncId} {args : Array Value} {H : Heap} {R : Value → Heap → Prop} (h : HCalls P f args H R) (w : World) (hw : w.heap = H) :
    Calls P f args w fun e w' => ∃ v, e = .returned v ∧ R v w'.heap ∧ Same w w' :=
  (h w hw).mono fun e w' he => by
    cases e with
    | returned v => exact ⟨v, rfl, he.1, he.2⟩
    | panicked c => exact he.1.elim
    | outgrown => exact he.elim

def cellAt (H : Heap) (a : Addr) : Option Value :=
  match H[a.block]? with
  | some (.cells c _ _) => if a.spot.isSome then none else c[a.off]?
  | _ => none

theorem cell?_eq (w : World) (a : Addr) : w.cell? a = cellAt w.heap a := rfl

def frozenAt (H : Heap) (a : Addr) : Bool :=
  match H[a.block]? with
  | some (.cells _ _ (lo, hi)) => lo ≤ a.off && a.off < hi
  | _ => false

theorem frozen?_eq (w : World) (a : Addr) : w.frozen? a = frozenAt w.heap a := rfl

def setCellH (H : Heap) (a : Addr) (v : Value) : Heap :=
  H.modify a.block fun
      | .cells c elem frozen => .cells (if a.spot.isSome then c else c.setIfInBounds a.off v) elem frozen
      | o => o

theorem setCell_heap (w : World) (a : Addr) (v : Value) : (w.setCell a v).heap = setCellH w.heap a v := rfl

/-- What an operation must do: with these operands, from every world with this heap. -/
def OpOk (P : Program) (E : Chain → Heap → Prop) (o : Oper) (ev : Operand → Value) (H : Heap) (R : Value → Heap → Prop) : Prop :=
  ∀ w : World, w.heap = H → match (execOp ev o).run P w with
    | .ok (.value v) w' => R v w'.heap ∧ Same w w'
    | .ok .skip w' => R undef w'.heap ∧ Same w w'
    | .ok (.enter f args) w' => Calls P f args w' (EndH R E w)
    | .halt (.panic v) w' => E [{ v, recovered := false }] w'.heap ∧ Same w w'
    | _ => False

theorem OpOk.mono {P : Program} {E : Chain → Heap → Prop} {o : Oper} {ev : Operand → Value} {H : Heap} {R R' : Value → Heap → Prop} (h : OpOk P E o ev H R) (hr : ∀ v H', R v H' → R' v H') : OpOk P E o ev H R' := by
  intro w hw
  have := h w hw
  split at this
  · exact ⟨hr _ _ this.1, this.2⟩
  · exact ⟨hr _ _ this.1, this.2⟩
  · exact this.mono (EndH.mono hr fun _ _ h => h)
  · exact this
  · exact this

theorem OpOk.wp {P : Program} {E : Chain → Heap → Prop} {o : Oper} {a : Act} {w : World} {K : Act → World → Prop} {Q : Exit → Act → World → Prop} {R : Value → Heap → Prop}
    (h : OpOk P E o a.eval w.heap R) (hK : ∀ v w', R v w'.heap → Same w w' → K (a.put o.dst v) w') (hE : ∀ c w', E c w'.heap → Same w w' → Q (.panic c) a w') : o.wp P a w K Q := by
  have := h w rfl
  unfold Oper.wp
  generalize (execOp a.eval o).run P w = r at *
  cases r with
  | ok n w' =>
    cases n <;> simp only at this <;> try exact this.elim
    · exact hK _ _ this.1 this.2
    · exact hK _ _ this.1 this.2
    · rename_i f args
      simp only [Oper.upon]
      exact this.mono fun e w'' hend => by
        cases e with
        | returned v => exact hK _ _ hend.1 hend.2
        | panicked c => exact hE _ _ hend.1 hend.2
        | outgrown => exact hend.elim
  | halt x w' =>
    cases x <;> simp only at this <;> try exact this.elim
    exact hE _ _ this.1 this.2

/-- An operation whose value hangs on the heap alone and that leaves the world as it is. -/
def OpVal (P : Program) (o : Oper) (ev : Operand → Value) (H : Heap) (v : Value) : Prop :=
  ∀ w : World, w.heap = H → (execOp ev o).run P w = .ok (.value v) w

theorem OpVal.ok {P : Program} {E : Chain → Heap → Prop} {o : Oper} {ev : Operand → Value} {H : Heap} {v : Value} {R : Value → Heap → Prop} (h : OpVal P o ev H v) (hR : R v H) : OpOk P E o ev H R := by
  intro w hw
  rw [h w hw]
  exact ⟨hw ▸ hR, Same.refl _⟩

end Gx
