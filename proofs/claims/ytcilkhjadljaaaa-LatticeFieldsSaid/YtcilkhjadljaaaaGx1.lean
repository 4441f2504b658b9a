/- A calculus for walking compiled Go code: symbolic environments, heap-only assertions. -/
import Derived.Tactics
import Derived.Orders
import Derived.Laws.AppendOwn
import Derived.WalkKit
import Derived.KernelRfl
namespace Gx
open Go

abbrev Heap := Array Obj
/-- What is known of the operands. -/
def Agree (ev : Operand → Option Value) (a : Act) : Prop := ∀ x v, ev x = some v → a.eval x = v

def evs {O : Type} (ev : O → Option Value) : List O → Option (List Value)
  | [] => some []
  | x :: r => match ev x, evs ev r with
    | some v, some vs => some (v :: vs)
    | _, _ => none

theorem Agree.ev {ev : Operand → Option Value} {a : Act} (h : Agree ev a) {x : Operand} {v : Value} (hv : ev x = some v) : a.eval x = v := h x v hv

theorem Agree.evs {ev : Operand → Option Value} {a : Act} (h : Agree ev a) : ∀ {xs : List Operand} {vs : List Value}, Gx.evs ev xs = some vs → xs.map a.eval = vs
  | [], vs, hv => by simp [Gx.evs] at hv; simp [← hv]
  | x :: xs, vs, hv => by
    simp only [Gx.evs] at hv
    split at hv
    · rename_i v vs' h1 h2
      simp at hv; subst hv
      simp [h.ev h1, h.evs h2]
    · simp at hv

/-! ### worlds -/

structure Same (w w' : World) : Prop where
  os : w'.os = w.os
  tape : w'.tape = w.tape
  output : w'.output = w.output

theorem Same.refl (w : World) : Same w w := ⟨rfl, rfl, rfl⟩
theorem Same.trans {a b c : World} (h : Same a b) (k : Same b c) : Same a c := ⟨k.os.trans h.os, k.tape.trans h.tape, k.output.trans h.output⟩

/-- A call that returns: from every world with this heap. -/
def HCalls (P : Program) (f : FuncId) (args : Array Value) (H : Heap) (R : Value → Heap → Prop) : Prop :=
  ∀ w : World, w.heap = H → Calls P f args w fun e w' => ∃ v, e = .returned v ∧ R v w'.heap ∧ Same w w'

theorem HCalls.mono {P : Program} {f : FuncId} {args : Array Value} {H : Heap} {R R' : Value → Heap → Prop} (h : HCalls P f args H R)
    (hr : ∀ v H', R v H' → R' v H') : HCalls P f args H R' :=
  fun w hw => (h w hw).mono fun _ _ ⟨v, he, hR, hs⟩ => ⟨v, he, hr _ _ hR, hs⟩

def cellAt (H : Heap) (a : Addr) : Option Value :=
  match H[a.block]? with
  | some (.cells c _ _) => if a.spot.isSome then none else c[a.off]?
  | _ => none

theorem cell?_eq (w : World) (a : Addr) : w.cell? a = cellAt w.heap a := rfl

def frozenAt (H : Heap) (a : Addr) : Bool :=
  match H[a.block]? with
  | some (.cells _ _ (lo, hi)) => lo ≤ a.off && a.off < hi
  | _ => false

theorem frozen?_eq (w : World) (a : Addr) : w.frozen? a = frozenAt w.heap a := rfl

def setCellH (H : Heap) (a : Addr) (v : Value) : Heap :=
  H.modify a.block fun
      | .cells c elem frozen => .cells (if a.spot.isSome then c else c.setIfInBounds a.off v) elem frozen
      | o => o

theorem setCell_heap (w : World) (a : Addr) (v : Value) : (w.setCell a v).heap = setCellH w.heap a v := rfl

/-- What an operation must do: with these operands, from every world with this heap. -/
def OpOk (P : Program) (o : Oper) (ev : Operand → Value) (H : Heap) (R : Value → Heap → Prop) : Prop :=
  ∀ w : World, w.heap = H → match (execOp ev o).run P w with
    | .ok (.value v) w' => R v w'.heap ∧ Same w w'
    | .ok .skip w' => R undef w'.heap ∧ Same w w'
    | .ok (.enter f args) w' => Calls P f args w' fun e w'' => ∃ v, e = .returned v ∧ R v w''.heap ∧ Same w w''
    | _ => False

theorem OpOk.mono {P : Program} {o : Oper} {ev : Operand → Value} {H : Heap} {R R' : Value → Heap → Prop} (h : OpOk P o ev H R) (hr : ∀ v H', R v H' → R' v H') : OpOk P o ev H R' := by
  intro w hw
  have := h w hw
  split at this
  · exact ⟨hr _ _ this.1, this.2⟩
  · exact ⟨hr _ _ this.1, this.2⟩
  · exact this.mono fun _ _ ⟨v, he, hR, hs⟩ => ⟨v, he, hr _ _ hR, hs⟩
  · exact this

theorem OpOk.wp {P : Program} {o : Oper} {a : Act} {w : World} {K : Act → World → Prop} {Q : Exit → Act → World → Prop} {R : Value → Heap → Prop}
    (h : OpOk P o a.eval w.heap R) (hK : ∀ v w', R v w'.heap → Same w w' → K (a.put o.dst v) w') : o.wp P a w K Q := by
  have := h w rfl
  unfold Oper.wp
  generalize (execOp a.eval o).run P w = r at *
  cases r with
  | ok n w' =>
    cases n <;> simp only at this <;> try exact this.elim
    · exact hK _ _ this.1 this.2
    · exact hK _ _ this.1 this.2
    · simp only [Oper.upon]
      exact this.mono fun e w'' ⟨v, he, hR, hs⟩ => by subst he; exact hK _ _ hR hs
  | halt x w' => simp only at this

/-- An operation whose value hangs on the heap alone and that leaves the world as it is. -/
def OpVal (P : Program) (o : Oper) (ev : Operand → Value) (H : Heap) (v : Value) : Prop :=
  ∀ w : World, w.heap = H → (execOp ev o).run P w = .ok (.value v) w

theorem OpVal.ok {P : Program} {o : Oper} {ev : Operand → Value} {H : Heap} {v : Value} {R : Value → Heap → Prop} (h : OpVal P o ev H v) (hR : R v H) : OpOk P o ev H R := by
  intro w hw
  rw [h w hw]
  exact ⟨hw ▸ hR, Same.refl _⟩

end Gx
