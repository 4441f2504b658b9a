import Derived.Tactics
import Derived.Orders
import Derived.Laws.AppendOwn
import Derived.WalkKit
import Derived.KernelRfl
import Derived.Laws.StructEq
import Derived.Laws.BytesArg
import Derived.Laws.IdiomStrings
import Derived.Laws.MakeOwn
import Derived.MapKept
import Derived.Deep.Quiet
import Derived.OrdersHeld
import Derived.Deep.LoopGhost
import Derived.Scope
section
namespace Gx
open Go
abbrev Heap:=Array Obj
def Agree (ev:Operand→Option Value) (a:Act):Prop:=∀ x v,ev x=some v→a.eval x=v
def evs {O:Type} (ev:O→Option Value):List O→Option (List Value)
 | []=>some []
 | x :: r=>match ev x,evs ev r with
   | some v,some vs=>some (v :: vs)
   | _,_=>none
theorem Agree.ev {ev:Operand→Option Value} {a:Act} (h:Agree ev a) {x:Operand} {v:Value} (hv:ev x=some v):a.eval x=v:=h x v hv
theorem Agree.evs {ev:Operand→Option Value} {a:Act} (h:Agree ev a):∀ {xs:List Operand} {vs:List Value},Gx.evs ev xs=some vs→xs.map a.eval=vs
 | [],vs,hv=>by simp [Gx.evs] at hv; simp [← hv]
 | x :: xs,vs,hv=>by
   simp only [Gx.evs] at hv
   split at hv
   ·rename_i v vs' h1 h2
    simp at hv; subst hv
    simp [h.ev h1,h.evs h2]
   ·simp at hv
structure Same (w w':World):Prop where
 os:w'.os=w.os
 tape:w'.tape=w.tape
 output:w'.output=w.output
theorem Same.refl (w:World):Same w w:=⟨rfl,rfl,rfl⟩
theorem Same.trans {a b c:World} (h:Same a b) (k:Same b c):Same a c:=⟨k.os.trans h.os,k.tape.trans h.tape,k.output.trans h.output⟩
abbrev Chain:=List PanicEntry
def EndH (R:Value→Heap→Prop) (E:Chain→Heap→Prop) (w:World):Ending→World→Prop
 | .returned v,w'=>R v w'.heap∧Same w w'
 | .panicked c,w'=>E c w'.heap∧Same w w'
 | .outgrown,_=>False
def PCalls (P:Program) (f:FuncId) (args:Array Value) (H:Heap) (R:Value→Heap→Prop) (E:Chain→Heap→Prop):Prop:=
 ∀ w:World,w.heap=H→Calls P f args w (EndH R E w)
def HCalls (P:Program) (f:FuncId) (args:Array Value) (H:Heap) (R:Value→Heap→Prop):Prop:=PCalls P f args H R fun _ _=>False
theorem EndH.mono {R R':Value→Heap→Prop} {E E':Chain→Heap→Prop} {w:World} (hr:∀ v H',R v H'→R' v H') (he:∀ c H',E c H'→E' c H'):∀ e w',EndH R E w e w'→EndH R' E' w e w'
 | .returned _,_,h=>⟨hr _ _ h.1,h.2⟩
 | .panicked _,_,h=>⟨he _ _ h.1,h.2⟩
 | .outgrown,_,h=>h
theorem PCalls.mono {P:Program} {f:FuncId} {args:Array Value} {H:Heap} {R R':Value→Heap→Prop} {E E':Chain→Heap→Prop} (h:PCalls P f args H R E)
 (hr:∀ v H',R v H'→R' v H') (he:∀ c H',E c H'→E' c H'):PCalls P f args H R' E':=
 fun w hw=>(h w hw).mono (EndH.mono hr he)
theorem HCalls.mono {P:Program} {f:FuncId} {args:Array Value} {H:Heap} {R R':Value→Heap→Prop} {E':Chain→Heap→Prop} (h:HCalls P f args H R)
 (hr:∀ v H',R v H'→R' v H'):PCalls P f args H R' E':=PCalls.mono h hr (fun _ _ h=>h.elim)
theorem HCalls.out {P:Program} {f:FuncId} {args:Array Value} {H:Heap} {R:Value→Heap→Prop} (h:HCalls P f args H R) (w:World) (hw:w.heap=H) :
 Calls P f args w fun e w'=>∃ v,e= .returned v∧R v w'.heap∧Same w w':=
 (h w hw).mono fun e w' he=>by
  cases e with
  | returned v=>exact ⟨v,rfl,he.1,he.2⟩
  | panicked c=>exact he.1.elim
  | outgrown=>exact he.elim
def cellAt (H:Heap) (a:Addr):Option Value:=
 match H[a.block]? with
 | some (.cells c _ _)=>if a.spot.isSome then none else c[a.off]?
 | _=>none
theorem cell?_eq (w:World) (a:Addr):w.cell? a=cellAt w.heap a:=rfl
def frozenAt (H:Heap) (a:Addr):Bool:=
 match H[a.block]? with
 | some (.cells _ _ (lo,hi))=>lo≤a.off && a.off < hi
 | _=>false
def setCellH (H:Heap) (a:Addr) (v:Value):Heap:=
 H.modify a.block fun
  | .cells c elem frozen=>.cells (if a.spot.isSome then c else c.setIfInBounds a.off v) elem frozen
  | o=>o
def OpOk (P:Program) (E:Chain→Heap→Prop) (o:Oper) (ev:Operand→Value) (H:Heap) (R:Value→Heap→Prop):Prop:=
 ∀ w:World,w.heap=H→match (execOp ev o).run P w with
   | .ok (.value v) w'=>R v w'.heap∧Same w w'
   | .ok .skip w'=>R undef w'.heap∧Same w w'
   | .ok (.enter f args) w'=>Calls P f args w' (EndH R E w)
   | .halt (.panic v) w'=>E [{ v,recovered:=false }] w'.heap∧Same w w'
   | _=>False
theorem OpOk.mono {P:Program} {E:Chain→Heap→Prop} {o:Oper} {ev:Operand→Value} {H:Heap} {R R':Value→Heap→Prop} (h:OpOk P E o ev H R) (hr:∀ v H',R v H'→R' v H'):OpOk P E o ev H R':=by
 intro w hw
 have:=h w hw
 split at this
 ·exact ⟨hr _ _ this.1,this.2⟩
 ·exact ⟨hr _ _ this.1,this.2⟩
 ·exact this.mono (EndH.mono hr fun _ _ h=>h)
 ·exact this
 ·exact this
theorem OpOk.wp {P:Program} {E:Chain→Heap→Prop} {o:Oper} {a:Act} {w:World} {K:Act→World→Prop} {Q:Exit→Act→World→Prop} {R:Value→Heap→Prop}
 (h:OpOk P E o a.eval w.heap R) (hK:∀ v w',R v w'.heap→Same w w'→K (a.put o.dst v) w') (hE:∀ c w',E c w'.heap→Same w w'→Q (.panic c) a w'):o.wp P a w K Q:=by
 have:=h w rfl
 unfold Oper.wp
 generalize (execOp a.eval o).run P w=r at *
 cases r with
 | ok n w'=>
   cases n <;> simp only at this <;> try exact this.elim
   ·exact hK _ _ this.1 this.2
   ·exact hK _ _ this.1 this.2
   ·rename_i f args
    simp only [Oper.upon]
    exact this.mono fun e w'' hend=>by
     cases e with
     | returned v=>exact hK _ _ hend.1 hend.2
     | panicked c=>exact hE _ _ hend.1 hend.2
     | outgrown=>exact hend.elim
 | halt x w'=>
   cases x <;> simp only at this <;> try exact this.elim
   exact hE _ _ this.1 this.2
def OpVal (P:Program) (o:Oper) (ev:Operand→Value) (H:Heap) (v:Value):Prop:=
 ∀ w:World,w.heap=H→(execOp ev o).run P w= .ok (.value v) w
theorem OpVal.ok {P:Program} {E:Chain→Heap→Prop} {o:Oper} {ev:Operand→Value} {H:Heap} {v:Value} {R:Value→Heap→Prop} (h:OpVal P o ev H v) (hR:R v H):OpOk P E o ev H R:=by
 intro w hw
 rw [h w hw]
 exact ⟨hw ▸ hR,Same.refl _⟩
end Gx
end
section
namespace Gx
open Go
inductive LK where
 | i
 | s
 | b
 deriving Inhabited
inductive PE (O:Type) where
 | mv (x:O)
 | pick (c a b:O)
 | bin (op:BinOp) (x y:O)
 | beq (neg:Bool) (x y:O)
 | steq (neg:Bool) (ks:List (Nat × LK)) (x y:O)
 | isnil (neg:Bool) (x:O)
 | isnils (neg:Bool) (x:O)
 | un (op:UnOp) (x:O)
 | cvi (k:IntKind) (x:O)
 | cvs (x:O)
 | fa (off:Nat) (x:O)
 | ix (size:Nat) (x i:O)
 | six (x i:O)
 | sl (size:Nat) (x:O) (lo hi:Option O)
 | ssl (x:O) (lo hi:Option O)
 | len (x:O)
 | slen (x:O)
 | fld1 (off:Nat) (x:O)
 | fldA (off size:Nat) (x:O)
 | ext (x:O) (i:Nat)
 | mm (max:Bool) (x y:O)
 | nc (x:O)
 | mkf (f:Nat) (first caps:List O)
 | mki (t:Nat) (x:O)
 | isnilf (neg:Bool) (x:O)
 | tya (t:Nat) (zero:Value) (x:O)
 | tyb (t:Nat) (x:O)
 | bld (zero:List Value) (parts:List (Nat × Nat × O))
 | ixa (size len:Nat) (x i:O)
 | ixe (size len:Nat) (x i:O)
def shlI (k:IntKind) (a b:Int):Int:=k.wrap (a * 2 ^ (min b.toNat k.bits))
def shrI (k:IntKind) (a b:Int):Int:=a.fdiv (2 ^ (min b.toNat k.bits))
def intV (op:BinOp) (k:IntKind) (a b:Int):Option (Prop × Value):=
 match op with
 | .add=>some (True,.int k (k.wrap (a + b)))
 | .sub=>some (True,.int k (k.wrap (a - b)))
 | .mul=>some (True,.int k (k.wrap (a * b)))
 | .quo=>some (b≠0,.int k (k.wrap (a.tdiv b)))
 | .rem=>some (b≠0,.int k (a.tmod b))
 | .and=>some (True,.int k (bits .and k a b))
 | .or=>some (True,.int k (bits .or k a b))
 | .xor=>some (True,.int k (bits .xor k a b))
 | .andNot=>some (True,.int k (bits .andNot k a b))
 | .eql=>some (True,.bool (decide (a=b)))
 | .neq=>some (True,.bool (!decide (a=b)))
 | .lss=>some (True,.bool (decide (a < b)))
 | .leq=>some (True,.bool (decide (a≤b)))
 | .gtr=>some (True,.bool (decide (b < a)))
 | .geq=>some (True,.bool (decide (b≤a)))
 | .shl=>some (0≤b,.int k (shlI k a b))
 | .shr=>some (0≤b,.int k (shrI k a b))
def strV (op:BinOp) (a b:ByteArray):Option (Prop × Value):=
 match op with
 | .add=>some (a.size + b.size≤9223372036854775807,.string (a ++ b))
 | .eql=>some (True,.bool (decide (a=b)))
 | .neq=>some (True,.bool (!decide (a=b)))
 | .lss=>some (True,.bool (Op.bytesLess a.data.toList b.data.toList))
 | .leq=>some (True,.bool (Op.bytesLess a.data.toList b.data.toList || decide (a=b)))
 | .gtr=>some (True,.bool (!(Op.bytesLess a.data.toList b.data.toList || decide (a=b))))
 | .geq=>some (True,.bool (!Op.bytesLess a.data.toList b.data.toList))
 | _=>none
def binV (op:BinOp):Value→Value→Option (Prop × Value)
 | .int k a,.int k' b=>
   match op with
   | .shl=>intV .shl k a b
   | .shr=>intV .shr k a b
   | op=>if k=k' then intV op k a b else none
 | .string a,.string b=>strV op a b
 | _,_=>none
def unV (op:UnOp):Value→Option (Prop × Value)
 | .int k n=>match op with
   | .neg=>some (True,.int k (k.wrap (0 - n)))
   | .xor=>some (True,.int k (bits .xor k (if k.signed then -1 else k.max) n))
   | _=>none
 | .bool b=>match op with
   | .not=>some (True,.bool (!b))
   | _=>none
 | _=>none
def slV (size:Nat) (a:Option Addr) (len cap:Nat) (lo hi:Option Int):Prop × Value:=
 match lo,hi with
 | none,none=>(True,.slice a len cap)
 | some l,none=>(0≤l∧l≤len,.slice (if cap=l.toNat then a else a.map (·.add (l.toNat * size))) (len - l.toNat) (cap - l.toNat))
 | none,some h=>(0≤h∧h≤cap,.slice a h.toNat cap)
 | some l,some h=>((0≤h∧h≤cap)∧0≤l∧l≤h,.slice (if cap=l.toNat then a else a.map (·.add (l.toNat * size))) (h.toNat - l.toNat) (cap - l.toNat))
def sslV (s:ByteArray) (lo hi:Option Int):Prop × Value:=
 match lo,hi with
 | none,none=>(True,.string (s.extract 0 s.size))
 | some l,none=>(0≤l∧l≤s.size,.string (s.extract l.toNat s.size))
 | none,some h=>(0≤h∧h≤s.size,.string (s.extract 0 h.toNat))
 | some l,some h=>((0≤h∧h≤s.size)∧0≤l∧l≤h,.string (s.extract l.toNat h.toNat))
def bnd {O:Type} (ev:O→Option Value):Option O→Option (Option Int)
 | none=>some none
 | some x=>match ev x with
   | some (.int _ n)=>some (some n)
   | _=>none
def fillV (cells:List Value):List (Nat × Nat × Value)→Option (List Value)
 | []=>some cells
 | (off,size,v) :: rest=>
   match v with
   | .agg cs=>if cs.size=size∧off + size≤cells.length then fillV (cells.take off ++ cs.toList ++ cells.drop (off + size)) rest else none
   | v=>if size=1∧off < cells.length then fillV (cells.set off v) rest else none
def partsE {O:Type} (ev:O→Option Value):List (Nat × Nat × O)→Option (List (Nat × Nat × Value))
 | []=>some []
 | (o,s,x) :: r=>match ev x,partsE ev r with
   | some v,some vs=>some ((o,s,v) :: vs)
   | _,_=>none
def pickV:Value→Value→Value→Option (Prop × Value)
 | .bool true,a,_=>some (True,a)
 | .bool false,_,b=>some (True,b)
 | _,_,_=>none
def pickN:Option Value→Option Value→Option Value→Option (Prop × Value)
 | some (.bool c),some (.bool a),some (.bool b)=>some (True,.bool (bif c then a else b))
 | some (.bool true),some a,_=>some (True,a)
 | some (.bool false),_,some b=>some (True,b)
 | _,_,_=>none
def mvN:Option Value→Option (Prop × Value)
 | some v=>some (True,v)
 | none=>none
def binN (op:BinOp):Option Value→Option Value→Option (Prop × Value)
 | some a,some b=>binV op a b
 | _,_=>none
def beqN (neg:Bool):Option Value→Option Value→Option (Prop × Value)
 | some (.bool a),some (.bool b)=>some (True,.bool (if neg then a != b else a == b))
 | _,_=>none
def leafEq:LK→Option Value→Option Value→Option Bool
 | .i,some (.int k a),some (.int k' b)=>if k=k' then some (decide (a=b)) else none
 | .s,some (.string a),some (.string b)=>some (decide (a=b))
 | .b,some (.bool a),some (.bool b)=>some (a == b)
 | _,_,_=>none
def andB:Option Bool→Option Bool→Option Bool
 | some a,some b=>some (a && b)
 | _,_=>none
def stEq (xs ys:Array Value):List (Nat × LK)→Option Bool
 | []=>some true
 | (o,k) :: r=>andB (leafEq k xs[o]? ys[o]?) (stEq xs ys r)
def negN (neg:Bool):Option Bool→Option (Prop × Value)
 | some b=>some (True,.bool (if neg then !b else b))
 | none=>none
def steqN (neg:Bool) (ks:List (Nat × LK)):Option Value→Option Value→Option (Prop × Value)
 | some (.agg xs),some (.agg ys)=>negN neg (stEq xs ys ks)
 | _,_=>none
def isnilN (neg:Bool):Option Value→Option (Prop × Value)
 | some (.pointer a)=>some (True,.bool (if neg then a.isSome else a.isNone))
 | _=>none
def isnilsN (neg:Bool):Option Value→Option (Prop × Value)
 | some (.slice a _ _)=>some (True,.bool (if neg then a.isSome else a.isNone))
 | _=>none
def unN (op:UnOp):Option Value→Option (Prop × Value)
 | some a=>unV op a
 | _=>none
def cviN (k:IntKind):Option Value→Option (Prop × Value)
 | some (.int _ n)=>some (True,.int k (k.wrap n))
 | _=>none
def cvsN:Option Value→Option (Prop × Value)
 | some (.string s)=>some (True,.string s)
 | _=>none
def faN (off:Nat):Option Value→Option (Prop × Value)
 | some (.pointer (some a))=>some (True,.pointer (some (a.add off)))
 | _=>none
def ixN (size:Nat):Option Value→Option Value→Option (Prop × Value)
 | some (.slice (some a) len _),some (.int _ i)=>some (0≤i∧i < len,.pointer (some (a.add (i.toNat * size))))
 | some (.slice none _ _),some (.int _ _)=>some (False,.pointer none)
 | _,_=>none
def ixaN (size len:Nat):Option Value→Option Value→Option (Prop × Value)
 | some (.pointer (some a)),some (.int _ i)=>some (0≤i∧i < len,.pointer (some (a.add (i.toNat * size))))
 | _,_=>none
def ixeN (size len:Nat):Option Value→Option Value→Option (Prop × Value)
 | some (.agg cs),some (.int _ i)=>match cs[i.toNat * size]? with
   | some v=>some (0≤i∧i < len,v)
   | none=>none
 | _,_=>none
def sixN:Option Value→Option Value→Option (Prop × Value)
 | some (.string s),some (.int _ i)=>some (0≤i∧i < s.size,.int .u8 (s.data.toList.getD i.toNat 0).toNat)
 | _,_=>none
def slN (size:Nat):Option Value→Option (Option Int)→Option (Option Int)→Option (Prop × Value)
 | some (.slice a len cap),some lo,some hi=>some (slV size a len cap lo hi)
 | _,_,_=>none
def sslN:Option Value→Option (Option Int)→Option (Option Int)→Option (Prop × Value)
 | some (.string s),some lo,some hi=>some (sslV s lo hi)
 | _,_,_=>none
def lenN:Option Value→Option (Prop × Value)
 | some (.slice _ n _)=>some (True,.int .i64 n)
 | _=>none
def slenN:Option Value→Option (Prop × Value)
 | some (.string s)=>some (True,.int .i64 s.size)
 | _=>none
def fld1N (off:Nat):Option Value→Option (Prop × Value)
 | some (.agg cs)=>match cs[off]? with
   | some v=>some (True,v)
   | none=>none
 | _=>none
def fldAN (off size:Nat):Option Value→Option (Prop × Value)
 | some (.agg cs)=>some (True,.agg (cs.extract off (off + size)))
 | _=>none
def extN (i:Nat):Option Value→Option (Prop × Value)
 | some (.tuple vs)=>match vs[i]? with
   | some v=>some (True,v)
   | none=>none
 | _=>none
def mmN (max:Bool):Option Value→Option Value→Option (Prop × Value)
 | some (.int k a),some (.int k' b)=>if k=k' then some (True,.int k (if max then (if b > a then b else a) else (if b < a then b else a))) else none
 | _,_=>none
def ncN:Option Value→Option (Prop × Value)
 | some (.pointer (some a))=>some (True,.pointer (some a))
 | some (.func (.func f) c d)=>some (True,.func (.func f) c d)
 | _=>none
def mkfN (f:Nat):Option (List Value)→Option (List Value)→Option (Prop × Value)
 | some us,some vs=>some (True,.func (.func f) us.toArray vs.toArray)
 | _,_=>none
def mkiN (t:Nat):Option Value→Option (Prop × Value)
 | some v=>some (True,.iface t v)
 | none=>none
def isnilfN (neg:Bool):Option Value→Option (Prop × Value)
 | some (.iface _ _)=>some (True,.bool neg)
 | some .nilIface=>some (True,.bool (!neg))
 | _=>none
def tyaN (t:Nat) (zero:Value):Option Value→Option (Prop × Value)
 | some (.iface t' v)=>some (True,if t'=t then .tuple #[v,.bool true] else .tuple #[zero,.bool false])
 | some .nilIface=>some (True,.tuple #[zero,.bool false])
 | _=>none
def tybN (t:Nat):Option Value→Option (Prop × Value)
 | some (.iface t' v)=>some (t'=t,v)
 | _=>none
def bldN (zero:List Value):Option (List (Nat × Nat × Value))→Option (Prop × Value)
 | some ps=>match fillV zero ps with
   | some cs=>some (True,.agg cs.toArray)
   | none=>none
 | _=>none
def PE.val {O:Type} (ev:O→Option Value):PE O→Option (Prop × Value)
 | .mv x=>mvN (ev x)
 | .pick c a b=>pickN (ev c) (ev a) (ev b)
 | .bin op x y=>binN op (ev x) (ev y)
 | .beq n x y=>beqN n (ev x) (ev y)
 | .steq n ks x y=>steqN n ks (ev x) (ev y)
 | .isnil n x=>isnilN n (ev x)
 | .isnils n x=>isnilsN n (ev x)
 | .un op x=>unN op (ev x)
 | .cvi k x=>cviN k (ev x)
 | .cvs x=>cvsN (ev x)
 | .fa off x=>faN off (ev x)
 | .ix s x i=>ixN s (ev x) (ev i)
 | .six x i=>sixN (ev x) (ev i)
 | .sl s x lo hi=>slN s (ev x) (bnd ev lo) (bnd ev hi)
 | .ssl x lo hi=>sslN (ev x) (bnd ev lo) (bnd ev hi)
 | .len x=>lenN (ev x)
 | .slen x=>slenN (ev x)
 | .fld1 off x=>fld1N off (ev x)
 | .fldA off s x=>fldAN off s (ev x)
 | .ext x i=>extN i (ev x)
 | .mm m x y=>mmN m (ev x) (ev y)
 | .nc x=>ncN (ev x)
 | .mkf f first caps=>mkfN f (evs ev first) (evs ev caps)
 | .mki t x=>mkiN t (ev x)
 | .isnilf neg x=>isnilfN neg (ev x)
 | .tya t z x=>tyaN t z (ev x)
 | .tyb t x=>tybN t (ev x)
 | .bld z ps=>bldN z (partsE ev ps)
 | .ixa s n x i=>ixaN s n (ev x) (ev i)
 | .ixe s n x i=>ixeN s n (ev x) (ev i)
def isAggB (P:Program) (t:TypeId):Option Bool:=
 match P.underlying t with
 | some (.struct _) | some (.array _ _)=>some true
 | some _=>some false
 | none=>none
def zeroOf (P:Program) (t:TypeId):Option Value:=(P.info? t).bind (·.zero)
def sizeOfB (P:Program) (t:TypeId):Option Nat:=(P.info? t).map (·.size)
def partOffs (P:Program) (fields:List Field):List (Nat × Operand)→Option (List (Nat × Nat × Operand))
 | []=>some []
 | (i,x) :: r=>
   match fields[i]? with
   | none=>none
   | some f=>match sizeOfB P f.type,partOffs P fields r with
     | some s,some ps=>some ((f.offset,s,x) :: ps)
     | _,_=>none
def arrOffs (size:Nat):List (Nat × Operand)→List (Nat × Nat × Operand)
 | []=>[]
 | (i,x) :: r=>(i * size,size,x) :: arrOffs size r
def leafKinds (P:Program):List Field→Option (List (Nat × LK))
 | []=>some []
 | f :: r=>if f.name= "_" then none else match leafKinds P r with
   | none=>none
   | some ks=>match P.underlying f.type with
     | some (.int _)=>some ((f.offset,.i) :: ks)
     | some .string=>some ((f.offset,.s) :: ks)
     | some .bool=>some ((f.offset,.b) :: ks)
     | _=>none
def steqOf (P:Program) (ty:TypeId) (fields:List Field):Option (List (Nat × LK)):=
 if P.stoodInHeld ty=false∧P.eqGuardType P.depth ty=false then leafKinds P fields else none
def stripPE (P:Program) (op:Op):Option (PE Operand):=
 match op with
 | .move x=>some (.mv x)
 | .assign x=>some (.mv x)
 | .pick c a b=>some (.pick c a b)
 | .binOp op ty x y _=>
   match P.underlying ty with
   | some (.int _)=>some (.bin op x y)
   | some .string=>some (.bin op x y)
   | some .bool=>match op with
     | .eql=>some (.beq false x y)
     | .neq=>some (.beq true x y)
     | _=>none
   | some (.struct fields)=>match steqOf P ty fields.toList with
     | some ks=>match op with
       | .eql=>some (.steq false ks x y)
       | .neq=>some (.steq true ks x y)
       | _=>none
     | none=>none
   | some (.pointer _)=>match y with
     | .const (.pointer none)=>match op with
       | .eql=>some (.isnil false x)
       | .neq=>some (.isnil true x)
       | _=>none
     | _=>none
   | some (.slice _)=>match y with
     | .const (.slice none _ _)=>match op with
       | .eql=>some (.isnils false x)
       | .neq=>some (.isnils true x)
       | _=>none
     | _=>none
   | some (.interface _)=>match y with
     | .const .nilIface=>match op with
       | .eql=>some (.isnilf false x)
       | .neq=>some (.isnilf true x)
       | _=>none
     | _=>none
   | _=>none
 | .unOp op _ x=>some (.un op x)
 | .convert src dst x=>
   match P.underlying src,P.underlying dst with
   | some (.int _),some (.int k)=>some (.cvi k x)
   | some .string,some .string=>some (.cvs x)
   | _,_=>none
 | .fieldAddr s x f=>
   match P.underlying s with
   | some (.struct fields)=>match fields[f]? with
     | some fd=>match sizeOfB P fd.type with
       | some (_ + 1)=>some (.fa fd.offset x)
       | _=>none
     | none=>none
   | _=>none
 | .indexAddr t x i=>
   match P.underlying t with
   | some (.slice e)=>(sizeOfB P e).map fun s=>.ix s x i
   | some (.array n e)=>(sizeOfB P e).map fun s=>.ixa s n x i
   | _=>none
 | .index t x i=>
   match P.underlying t with
   | some .string=>some (.six x i)
   | some (.array n e)=>match isAggB P e,sizeOfB P e with
     | some false,some s=>some (.ixe s n x i)
     | _,_=>none
   | _=>none
 | .slice t x lo hi mx=>
   match P.underlying t,mx with
   | some (.slice e),none=>(sizeOfB P e).map fun s=>.sl s x lo hi
   | some .string,none=>some (.ssl x lo hi)
   | _,_=>none
 | .field t x f=>
   match P.underlying t with
   | some (.struct fields)=>match fields[f]? with
     | some fd=>match isAggB P fd.type,sizeOfB P fd.type with
       | some true,some s=>some (.fldA fd.offset s x)
       | some false,_=>some (.fld1 fd.offset x)
       | _,_=>none
     | none=>none
   | _=>none
 | .extract x i=>some (.ext x i)
 | .nilCheck x=>some (.nc x)
 | .makeFunc (.func f) first captured=>some (.mkf f first.toList captured.toList)
 | .makeInterface t x=>
   match P.underlying t with
   | some (.interface _)=>none
   | some _=>some (.mki t x)
   | none=>none
 | .typeAssert x _ t ok=>
   match P.underlying t with
   | some (.interface _)=>none
   | some _=>if ok then (zeroOf P t).map fun z=>.tya t z x else some (.tyb t x)
   | none=>none
 | .build t parts=>
   match P.underlying t,zeroOf P t with
   | some (.struct fields),some z=>
     if fields.toList.all (fun f=>(sizeOfB P f.type).isSome) then (partOffs P fields.toList parts.toList).map fun ps=>.bld z.cells.toList ps else none
   | some (.array _ e),some z=>(sizeOfB P e).map fun s=>.bld z.cells.toList (arrOffs s parts.toList)
   | _,_=>none
 | .call { callee:=.builtin .len,args,argTypes }=>
   match argTypes.toList,args.toList with
   | [t],[x]=>match P.underlying t with
     | some (.slice _)=>some (.len x)
     | some .string=>some (.slen x)
     | _=>none
   | _,_=>none
 | .call { callee:=.builtin .max,args,argTypes }=>
   match argTypes.toList,args.toList with
   | [t,_],[x,y]=>match P.underlying t with
     | some (.int _)=>some (.mm true x y)
     | _=>none
   | _,_=>none
 | .call { callee:=.builtin .min,args,argTypes }=>
   match argTypes.toList,args.toList with
   | [t,_],[x,y]=>match P.underlying t with
     | some (.int _)=>some (.mm false x y)
     | _=>none
   | _,_=>none
 | _=>none
end Gx
end
section
namespace Gx
open Go
section
variable {P:Program}
theorem mvN_some {x:Option Value} {p:Prop} {v:Value} (h:mvN x=some (p,v)):x=some v:=by
 cases x <;> simp [mvN] at h; simp [h.2]
theorem run_intArith (op:BinOp) (k:IntKind) (a b:Int) (p:Prop) (v:Value) (h:intV op k a b=some (p,v)) (hp:p) (w:World)
 (hns:op≠.shl) (hns':op≠.shr) (ty:TypeId):(binOp op ty (.int k a) (.int k b)).run P w= .ok v w:=by
 cases op <;> simp only [intV,Option.some.injEq,Prod.mk.injEq] at h hns hns' <;> (try exact absurd rfl hns) <;> (try exact absurd rfl hns') <;> obtain ⟨rfl,rfl⟩:=h <;>
  simp [binOp,Op.intArith,Op.intDiv,Op.intBits,Op.intCmp,BEq.beq,bne,bits]
 all_goals (intro h0; exact absurd h0 hp)
theorem run_shift (op:BinOp) (hop:op= .shl∨op= .shr) (k k':IntKind) (a b:Int) (p:Prop) (v:Value) (h:intV op k a b=some (p,v)) (hp:p) (w:World) (ty:TypeId) :
 (binOp op ty (.int k a) (.int k' b)).run P w= .ok v w:=by
 rcases hop with rfl | rfl <;> simp only [intV,Option.some.injEq,Prod.mk.injEq] at h <;> obtain ⟨rfl,rfl⟩:=h <;>
  simp [binOp,Op.shift,show ¬ b < 0 by omega,shlI,shrI]
theorem data_beq (a b:ByteArray):(a.data == b.data)=decide (a=b):=by
 rw [Bool.eq_iff_iff]
 simp only [beq_iff_eq,decide_eq_true_eq]
 constructor
 ·intro h
  cases a; cases b
  simpa using h
 ·rintro rfl; rfl
theorem run_strOp (op:BinOp) (a b:ByteArray) (p:Prop) (v:Value) (h:strV op a b=some (p,v)) (hp:p) (w:World) (ty:TypeId) :
 (binOp op ty (.string a) (.string b)).run P w= .ok v w:=by
 cases op <;> simp only [strV,Option.some.injEq,Prod.mk.injEq,reduceCtorEq] at h <;> obtain ⟨rfl,rfl⟩:=h
 case add=>
  have h0:¬ (((a.size + b.size:Nat):Int) > IntKind.i64.max):=by
   have:IntKind.i64.max=9223372036854775807:=by decide
   rw [this]; omega
  simp only [binOp,Op.stringOp,if_neg h0,Sem.run_pure]
 all_goals simp [binOp,Op.stringOp,ByteArray.toList_eq,data_beq]
theorem run_eqGuard_int (op:BinOp) (ty:TypeId) (x y:Operand) (k k':IntKind) (a b:Int) (w:World):(eqGuard op ty x y (.int k a) (.int k' b)).run P w= .ok () w:=by
 unfold eqGuard; cases op <;> simp
theorem run_eqGuard_str (op:BinOp) (ty:TypeId) (x y:Operand) (a b:ByteArray) (w:World):(eqGuard op ty x y (.string a) (.string b)).run P w= .ok () w:=by
 unfold eqGuard; cases op <;> simp
theorem run_eqGuard_bool (op:BinOp) (ty:TypeId) (x y:Operand) (a b:Bool) (w:World):(eqGuard op ty x y (.bool a) (.bool b)).run P w= .ok () w:=by
 unfold eqGuard; cases op <;> simp
theorem binV_ok {op:BinOp} {a b:Value} {p:Prop} {v:Value} (h:binV op a b=some (p,v)) (hp:p) (w:World) (ty:TypeId) (x y:Operand) :
 ((do eqGuard op ty x y a b; binOp op ty a b):Sem Value).run P w= .ok v w:=by
 unfold binV at h
 split at h
 ·rename_i k a k' b
  simp only [Sem.run_bind,run_eqGuard_int,Result.andThen_ok]
  split at h
  ·exact run_shift _ (.inl rfl) _ _ _ _ _ _ h hp w ty
  ·exact run_shift _ (.inr rfl) _ _ _ _ _ _ h hp w ty
  ·rename_i h1 h2
   split at h
   ·rename_i e; subst e; exact run_intArith _ _ _ _ _ _ h hp w (fun e=>h1 e) (fun e=>h2 e) ty
   ·simp at h
 ·simp only [Sem.run_bind,run_eqGuard_str,Result.andThen_ok]
  exact run_strOp _ _ _ _ _ h hp w ty
 ·simp at h
theorem unV_ok {op:UnOp} {a:Value} {p:Prop} {v:Value} (h:unV op a=some (p,v)) (w:World):(Op.unary op a).run P w= .ok v w:=by
 unfold unV at h
 split at h
 ·split at h <;> simp at h <;> obtain ⟨_,rfl⟩:=h <;> simp [Op.unary,Op.intArith,Op.intBits,bits]
 ·split at h <;> simp at h <;> obtain ⟨_,rfl⟩:=h <;> simp [Op.unary]
 ·simp at h
theorem run_equalIn_bool {ty:TypeId} (ht:P.underlying ty=some .bool) (d:Nat) (a b:Bool) (w:World):(Op.equalIn (d + 1) ty (.bool a) (.bool b)).run P w= .ok (a == b) w:=by
 simp [Op.equalIn,run_underlying ht]
theorem run_equal_bool {ty:TypeId} (ht:P.underlying ty=some .bool) (a b:Bool) (w:World):(Op.equal ty (.bool a) (.bool b)).run P w= .ok (a == b) w:=
 run_equalIn_bool ht 9999 a b w
theorem beq_ok {neg:Bool} {a b:Bool} {ty:TypeId} (ht:P.underlying ty=some .bool) (w:World) (x y:Operand) :
 ((do eqGuard (if neg then .neq else .eql) ty x y (.bool a) (.bool b); binOp (if neg then .neq else .eql) ty (.bool a) (.bool b)):Sem Value).run P w= .ok (.bool (if neg then a != b else a == b)) w:=by
 simp only [Sem.run_bind,run_eqGuard_bool,Result.andThen_ok]
 cases neg
 ·simp only [Bool.false_eq_true,if_false,binOp,Sem.run_bind,run_equal_bool ht,Result.andThen_ok,Sem.run_pure]
 ·simp only [if_true,binOp,Sem.run_bind,run_equal_bool ht,Result.andThen_ok,Sem.run_pure]; rfl
theorem equal_nil_ptr {ty e:TypeId} (ht:P.underlying ty=some (.pointer e)) (a:Option Addr) (w:World):(Op.equal ty (.pointer a) (.pointer none)).run P w= .ok a.isNone w:=by
 have key:∀ d,(Op.equalIn (d + 1) ty (.pointer a) (.pointer none)).run P w= .ok a.isNone w:=by
  intro d
  cases a <;> simp [Op.equalIn,run_underlying ht]
 exact key 9999
theorem equal_nil_slice {ty e:TypeId} (ht:P.underlying ty=some (.slice e)) (a:Option Addr) (n c n' c':Nat) (w:World):(Op.equal ty (.slice a n c) (.slice none n' c')).run P w= .ok a.isNone w:=by
 have key:∀ d,(Op.equalIn (d + 1) ty (.slice a n c) (.slice none n' c')).run P w= .ok a.isNone w:=by
  intro d
  cases a <;> simp [Op.equalIn,run_underlying ht]
 exact key 9999
theorem isnil_ptr_ok {neg:Bool} {ty e:TypeId} (ht:P.underlying ty=some (.pointer e)) (a:Option Addr) (w:World) (x y:Operand) :
 ((do eqGuard (if neg then .neq else .eql) ty x y (.pointer a) (.pointer none); binOp (if neg then .neq else .eql) ty (.pointer a) (.pointer none)):Sem Value).run P w= .ok (.bool (if neg then a.isSome else a.isNone)) w:=by
 have hg:∀ op,(eqGuard op ty x y (.pointer a) (.pointer none)).run P w= .ok () w:=by intro op; unfold eqGuard; cases op <;> simp
 simp only [Sem.run_bind,hg,Result.andThen_ok]
 cases neg
 ·simp only [Bool.false_eq_true,if_false,binOp,Sem.run_bind,equal_nil_ptr ht,Result.andThen_ok,Sem.run_pure]
 ·simp only [if_true,binOp,Sem.run_bind,equal_nil_ptr ht,Result.andThen_ok,Sem.run_pure]; cases a <;> rfl
theorem isnil_slice_ok {neg:Bool} {ty e:TypeId} (ht:P.underlying ty=some (.slice e)) (a:Option Addr) (n c n' c':Nat) (w:World) (x y:Operand) :
 ((do eqGuard (if neg then .neq else .eql) ty x y (.slice a n c) (.slice none n' c'); binOp (if neg then .neq else .eql) ty (.slice a n c) (.slice none n' c')):Sem Value).run P w= .ok (.bool (if neg then a.isSome else a.isNone)) w:=by
 have hg:∀ op,(eqGuard op ty x y (.slice a n c) (.slice none n' c')).run P w= .ok () w:=by intro op; unfold eqGuard; cases op <;> simp
 simp only [Sem.run_bind,hg,Result.andThen_ok]
 cases neg
 ·simp only [Bool.false_eq_true,if_false,binOp,Sem.run_bind,equal_nil_slice ht,Result.andThen_ok,Sem.run_pure]
 ·simp only [if_true,binOp,Sem.run_bind,equal_nil_slice ht,Result.andThen_ok,Sem.run_pure]; cases a <;> rfl
theorem equal_nil_iface {ty:TypeId} {ms:Array (String × TypeId)} (ht:P.underlying ty=some (.interface ms)) (t:TypeId) (v:Value) (w:World):(Op.equal ty (.iface t v) .nilIface).run P w= .ok false w∧(Op.equal ty .nilIface .nilIface).run P w= .ok true w:=by
 have h:∀ d:Nat,(Op.equalIn (d + 1) ty (.iface t v) .nilIface).run P w= .ok false w∧(Op.equalIn (d + 1) ty .nilIface .nilIface).run P w= .ok true w:=fun d=>by
  constructor <;> simp [Op.equalIn,run_underlying ht]
 simpa [Op.equal,Op.maxDepth] using h 9999
def nilI:Value→Bool
 | .nilIface=>true
 | _=>false
theorem isnil_iface_ok {neg:Bool} {ty:TypeId} {ms:Array (String × TypeId)} (ht:P.underlying ty=some (.interface ms)) (u:Value) (hu:(∃ t v,u= .iface t v)∨u= .nilIface) (w:World) (x:Operand) :
 ((do eqGuard (if neg then .neq else .eql) ty x (.const .nilIface) u .nilIface; binOp (if neg then .neq else .eql) ty u .nilIface):Sem Value).run P w= .ok (.bool (if neg then !nilI u else nilI u)) w:=by
 rcases hu with ⟨t,v,rfl⟩ | rfl
 ·have hg:∀ op,(eqGuard op ty x (.const .nilIface) (.iface t v) .nilIface).run P w= .ok () w:=by intro op; unfold eqGuard; cases op <;> simp
  simp only [Sem.run_bind,hg,Result.andThen_ok]
  cases neg
  ·simp only [Bool.false_eq_true,if_false,binOp,Sem.run_bind,(equal_nil_iface ht t v w).1,Result.andThen_ok,Sem.run_pure]; try rfl
  ·simp only [if_true,binOp,Sem.run_bind,(equal_nil_iface ht t v w).1,Result.andThen_ok,Sem.run_pure]; try rfl
 ·have hg:∀ op,(eqGuard op ty x (.const .nilIface) .nilIface .nilIface).run P w= .ok () w:=by intro op; unfold eqGuard; cases op <;> simp
  simp only [Sem.run_bind,hg,Result.andThen_ok]
  cases neg
  ·simp only [Bool.false_eq_true,if_false,binOp,Sem.run_bind,(equal_nil_iface ht 0 undef w).2,Result.andThen_ok,Sem.run_pure]; try rfl
  ·simp only [if_true,binOp,Sem.run_bind,(equal_nil_iface ht 0 undef w).2,Result.andThen_ok,Sem.run_pure]; try rfl
theorem leafEq_part {f:Field} {k:LK} (hu:(∃ i,k= .i∧P.underlying f.type=some (.int i))∨(k= .s∧P.underlying f.type=some .string)∨(k= .b∧P.underlying f.type=some .bool)) (d:Nat) (xs ys:Array Value) {b:Bool}
 (h:leafEq k xs[f.offset]? ys[f.offset]?=some b) (w:World):∃ x y,(part f.type xs f.offset).run P w= .ok x w∧(part f.type ys f.offset).run P w= .ok y w∧(Op.equalIn (d + 1) f.type x y).run P w= .ok b w:=by
 have hpart:∀ (cs:Array Value) v,cs[f.offset]?=some v→(part f.type cs f.offset).run P w= .ok v w:=by
  intro cs v hv
  rcases hu with ⟨i,_,h⟩ | ⟨_,h⟩ | ⟨_,h⟩ <;> simp [part,isAgg,run_underlying h,hv]
 rcases hu with ⟨i,rfl,hu⟩ | ⟨rfl,hu⟩ | ⟨rfl,hu⟩
 ·unfold leafEq at h
  split at h
  ·rename_i k1 a1 k2 a2 _ e2 e3
   split at h
   ·rename_i hk
    simp only [Option.some.injEq] at h; subst h; subst hk
    refine ⟨_,_,hpart _ _ e2,hpart _ _ e3,?_⟩
    rw [run_equalIn_int w d f.type _ i _ _ hu]
    congr 1
   ·cases h
  all_goals simp_all
 ·unfold leafEq at h
  split at h
  ·simp_all
  ·rename_i a1 a2 _ e2 e3
   simp only [Option.some.injEq] at h; subst h
   refine ⟨_,_,hpart _ _ e2,hpart _ _ e3,?_⟩
   rw [run_equalIn_string w d f.type _ _ hu]
   simp [ByteArray.toList_eq,data_beq]
  all_goals simp_all
 ·unfold leafEq at h
  split at h
  ·simp_all
  ·simp_all
  ·rename_i a1 a2 _ e2 e3
   simp only [Option.some.injEq] at h; subst h
   refine ⟨_,_,hpart _ _ e2,hpart _ _ e3,?_⟩
   exact Go.run_equalIn_bool w d f.type _ _ hu
  ·cases h
theorem eqFields_ok (d:Nat) (xs ys:Array Value):∀ {fs:List Field} {ks:List (Nat × LK)} {b:Bool},leafKinds P fs=some ks→stEq xs ys ks=some b→∀ w:World,(Op.eqFields (d + 1) xs ys fs).run P w= .ok b w
 | [],ks,b,hk,h,w=>by
   simp [leafKinds] at hk; subst hk
   simp [stEq] at h; subst h
   simp [Op.eqFields]
 | f :: fs,ks,b,hk,h,w=>by
   simp only [leafKinds] at hk
   split at hk
   ·cases hk
   rename_i hn
   split at hk
   ·cases hk
   rename_i ks' hks
   have key:∀ k,ks=(f.offset,k) :: ks'→((∃ i,k= .i∧P.underlying f.type=some (.int i))∨(k= .s∧P.underlying f.type=some .string)∨(k= .b∧P.underlying f.type=some .bool))→
    (Op.eqFields (d + 1) xs ys (f :: fs)).run P w= .ok b w:=by
    intro k e hu
    subst e
    simp only [stEq] at h
    cases h1:leafEq k xs[f.offset]? ys[f.offset]? with
    | none=>rw [h1] at h; simp [andB] at h
    | some b1=>
      cases h2:stEq xs ys ks' with
      | none=>rw [h1,h2] at h; simp [andB] at h
      | some b2=>
        rw [h1,h2] at h
        simp [andB] at h
        obtain ⟨x,y,e1,e2,e3⟩:=leafEq_part hu d xs ys h1 w
        have ih:=eqFields_ok d xs ys hks h2 w
        simp only [Op.eqFields,ne_eq,hn,not_false_eq_true,if_true,Sem.run_bind,e1,e2,e3,Result.andThen_ok]
        cases b1
        ·simp at h; subst h; simp
        ·simp at h; subst h; simpa using ih
   split at hk
   ·rename_i i hu; simp at hk; exact key .i hk.symm (.inl ⟨i,rfl,hu⟩)
   ·rename_i hu; simp at hk; exact key .s hk.symm (.inr (.inl ⟨rfl,hu⟩))
   ·rename_i hu; simp at hk; exact key .b hk.symm (.inr (.inr ⟨rfl,hu⟩))
   ·cases hk
theorem steq_ok {neg:Bool} {ty:TypeId} {fields:Array Field} {ks:List (Nat × LK)} (ht:P.underlying ty=some (.struct fields)) (hs:steqOf P ty fields.toList=some ks) {xs ys:Array Value} {b:Bool}
 (h:stEq xs ys ks=some b) (w:World) (x y:Operand) :
 ((do eqGuard (if neg then .neq else .eql) ty x y (.agg xs) (.agg ys); binOp (if neg then .neq else .eql) ty (.agg xs) (.agg ys)):Sem Value).run P w= .ok (.bool (if neg then !b else b)) w:=by
 unfold steqOf at hs
 split at hs
 case isFalse=>cases hs
 rename_i hc
 have hf:P.fieldsOf ty=fields:=by simp [Program.fieldsOf,ht]
 have hg:=fun op=>run_eqGuard_agg (P:=P) w op ty x y xs ys hc.2
 have he:(Op.equalIn 10000 ty (.agg xs) (.agg ys)).run P w= .ok b w:=by
  rw [show (10000:Nat)=9998 + 1 + 1 from rfl,run_equalIn_struct w _ ty xs ys (by rw [hf]; exact ht) hc.1,hf]
  exact eqFields_ok 9998 xs ys hs h w
 cases neg
 ·simp only [Bool.false_eq_true,if_false,Sem.run_bind,hg,Result.andThen_ok,run_eql_struct,he]
 ·simp only [if_true,Sem.run_bind,hg,Result.andThen_ok,run_neq_struct,he]
theorem run_info {t:TypeId} {i:TypeInfo} (h:P.info? t=some i) (w:World):(typeInfo t).run P w= .ok i w:=by
 simp [typeInfo,h]
theorem run_size {t:TypeId} {s:Nat} (h:sizeOfB P t=some s) (w:World):(Go.sizeOf t).run P w= .ok s w:=by
 simp only [sizeOfB,Option.map_eq_some_iff] at h
 obtain ⟨i,hi,rfl⟩:=h
 simp [Go.sizeOf,run_info hi]
theorem run_isAgg {t:TypeId} {b:Bool} (h:isAggB P t=some b) (w:World):(isAgg t).run P w= .ok b w:=by
 unfold isAggB at h
 split at h
 ·rename_i hu; simp at h; subst h; simp [isAgg,run_underlying hu]
 ·rename_i hu; simp at h; subst h; simp [isAgg,run_underlying hu]
 ·rename_i d h1 h2 hu
  simp at h; subst h
  simp only [isAgg,Sem.run_bind,run_underlying hu,Result.andThen_ok]
  rfl
 ·simp at h
theorem pickN_ok {c a b:Option Value} {p:Prop} {v:Value} (h:pickN c a b=some (p,v)) :
 ∃ t,c=some (.bool t)∧(t=true→∃ x,a=some x∧v=x)∧(t=false→∃ x,b=some x∧v=x):=by
 unfold pickN at h
 split at h
 ·rename_i c a b
  simp at h; obtain ⟨_,rfl⟩:=h
  exact ⟨c,rfl,fun e=>⟨_,rfl,by simp [e]⟩,fun e=>⟨_,rfl,by simp [e]⟩⟩
 ·rename_i a _ _
  simp at h; obtain ⟨_,rfl⟩:=h
  exact ⟨true,rfl,fun _=>⟨_,rfl,rfl⟩,fun e=>by cases e⟩
 ·rename_i a _ _
  simp at h; obtain ⟨_,rfl⟩:=h
  exact ⟨false,rfl,fun e=>(by cases e),fun _=>⟨_,rfl,rfl⟩⟩
 ·simp at h
theorem run_sliceBound_ok (k:IntKind) (i:Int) (y:Nat) (code:BoundsCode) (h0:0≤i) (h1:i≤y) (w:World) :
 (Instr.sliceBound (.int k i) y code).run P w= .ok i.toNat w:=by
 simp [Instr.sliceBound,asIntOf,h0,h1]
theorem bnd_none {ev:Operand→Option Value} {x:Option Operand} (h:bnd ev x=some none):x=none:=by
 cases x with
 | none=>rfl
 | some y=>simp only [bnd] at h; split at h <;> simp at h
theorem bnd_some {ev:Operand→Option Value} {x:Option Operand} {n:Int} (h:bnd ev x=some (some n)):∃ y k,x=some y∧ev y=some (.int k n):=by
 cases x with
 | none=>simp [bnd] at h
 | some y=>
   simp only [bnd] at h
   split at h
   ·rename_i k m he; simp at h; subst h; exact ⟨y,k,rfl,he⟩
   ·simp at h
theorem run_slice_ok {t e:TypeId} {s:Nat} (ht:P.underlying t=some (.slice e)) (hs:sizeOfB P e=some s) {ev:Operand→Option Value} {a:Act} (hf:Agree ev a)
 {lo hi:Option Operand} {ad:Option Addr} {len cap:Nat} {l h:Option Int} (hl:bnd ev lo=some l) (hh:bnd ev hi=some h) {p:Prop} {v:Value} (hv:slV s ad len cap l h=(p,v)) (hp:p) (w:World) :
 (Instr.sliceAt t (.slice ad len cap) (lo.map a.eval) (hi.map a.eval) none).run P w= .ok v w:=by
 have hsz:=fun w=>run_size hs w
 simp only [Instr.sliceAt,Sem.run_bind,run_underlying ht,Result.andThen_ok,Instr.slice]
 cases l with
 | none=>
   cases bnd_none hl
   cases h with
   | none=>
     cases bnd_none hh
     simp only [slV,Prod.mk.injEq] at hv; obtain ⟨_,rfl⟩:=hv
     simp [Instr.sliceBounds,hsz]
     intro _; cases ad <;> simp [Addr.add]
   | some h=>
     obtain ⟨y,k,rfl,he⟩:=bnd_some hh
     simp only [slV,Prod.mk.injEq] at hv; obtain ⟨rfl,rfl⟩:=hv
     simp only [Option.map_some,Option.map_none,hf.ev he,Instr.sliceBounds,Sem.run_bind,Sem.run_pure,Result.andThen_ok,run_sliceBound_ok k h cap _ hp.1 hp.2,hsz]
     simp
     intro h; cases ad <;> simp [Addr.add]
 | some l=>
   obtain ⟨y,k,rfl,he⟩:=bnd_some hl
   cases h with
   | none=>
     cases bnd_none hh
     simp only [slV,Prod.mk.injEq] at hv; obtain ⟨rfl,rfl⟩:=hv
     simp only [Option.map_some,Option.map_none,hf.ev he,Instr.sliceBounds,Sem.run_bind,Sem.run_pure,Result.andThen_ok,Option.isSome_none,Bool.false_eq_true,if_false,run_sliceBound_ok k l len _ hp.1 hp.2,hsz]
   | some h=>
     obtain ⟨y',k',rfl,he'⟩:=bnd_some hh
     simp only [slV,Prod.mk.injEq] at hv; obtain ⟨rfl,rfl⟩:=hv
     have h2:l≤(h.toNat:Int):=by omega
     simp only [Option.map_some,hf.ev he,hf.ev he',Instr.sliceBounds,Sem.run_bind,Sem.run_pure,Result.andThen_ok,Option.isSome_none,Bool.false_eq_true,if_false,
      run_sliceBound_ok k' h cap _ hp.1.1 hp.1.2,run_sliceBound_ok k l h.toNat _ hp.2.1 h2,hsz]
theorem run_sslice_ok {t:TypeId} (ht:P.underlying t=some .string) {ev:Operand→Option Value} {a:Act} (hf:Agree ev a)
 {lo hi:Option Operand} {x:ByteArray} {l h:Option Int} (hl:bnd ev lo=some l) (hh:bnd ev hi=some h) {p:Prop} {v:Value} (hv:sslV x l h=(p,v)) (hp:p) (w:World) :
 (Instr.sliceAt t (.string x) (lo.map a.eval) (hi.map a.eval) none).run P w= .ok v w:=by
 simp only [Instr.sliceAt,Sem.run_bind,run_underlying ht,Result.andThen_ok,Instr.slice]
 cases l with
 | none=>
   cases bnd_none hl
   cases h with
   | none=>
     cases bnd_none hh
     simp only [sslV,Prod.mk.injEq] at hv; obtain ⟨_,rfl⟩:=hv
     simp [Instr.sliceBounds]
   | some h=>
     obtain ⟨y,k,rfl,he⟩:=bnd_some hh
     simp only [sslV,Prod.mk.injEq] at hv; obtain ⟨rfl,rfl⟩:=hv
     simp [hf.ev he,Instr.sliceBounds,run_sliceBound_ok k h x.size _ hp.1 hp.2]
 | some l=>
   obtain ⟨y,k,rfl,he⟩:=bnd_some hl
   cases h with
   | none=>
     cases bnd_none hh
     simp only [sslV,Prod.mk.injEq] at hv; obtain ⟨rfl,rfl⟩:=hv
     simp [hf.ev he,Instr.sliceBounds,run_sliceBound_ok k l x.size _ hp.1 hp.2]
   | some h=>
     obtain ⟨y',k',rfl,he'⟩:=bnd_some hh
     simp only [sslV,Prod.mk.injEq] at hv; obtain ⟨rfl,rfl⟩:=hv
     have h2:l≤(h.toNat:Int):=by omega
     simp [hf.ev he,hf.ev he',Instr.sliceBounds,run_sliceBound_ok k' h x.size _ hp.1.1 hp.1.2,run_sliceBound_ok k l h.toNat _ hp.2.1 h2]
end
end Gx
end
section
namespace Gx
open Go
section
variable {P:Program}
theorem foldl_set (cs:List Value):∀ (off j:Nat) (cells:List Value),off + j + cs.length≤cells.length→
 ((cs.zipIdx j).foldl (fun (acc:Array Value) (x:Value × Nat)=>acc.setIfInBounds (off + x.2) x.1) cells.toArray).toList=cells.take (off + j) ++ cs ++ cells.drop (off + j + cs.length):=by
 induction cs with
 | nil=>intro off j cells _; simp
 | cons c cs ih=>
   intro off j cells h
   simp only [List.length_cons] at h
   simp only [List.zipIdx_cons,List.foldl_cons,List.setIfInBounds_toArray]
   rw [ih off (j + 1) (cells.set (off + j) c) (by simp; omega)]
   have e1:off + (j + 1)=off + j + 1:=by omega
   rw [e1]
   have e2:(cells.set (off + j) c).take (off + j + 1)=cells.take (off + j) ++ [c]:=by
    rw [List.take_add_one,List.take_set_of_le (Nat.le_refl _)]
    simp [show off + j < cells.length by omega]
   have e3:(cells.set (off + j) c).drop (off + j + 1 + cs.length)=cells.drop (off + j + (cs.length + 1)):=by
    rw [List.drop_set_of_lt (by omega)]; congr 1; omega
   rw [e2,e3]
   simp
theorem fill_ok (place:Nat→Option (Nat × Nat)):∀ (ps:List (Nat × Value)) (qs:List (Nat × Nat × Value)) (cells out:List Value),
 qs.length=ps.length→(∀ (j i:Nat) (v:Value),ps[j]?=some (i,v)→∃ o s,place i=some (o,s)∧qs[j]?=some (o,s,v))→
 fillV cells qs=some out→Instr.fill place cells.toArray ps=some out.toArray
 | [],[],cells,out,_,_,h=>by simp [fillV] at h; simp [Instr.fill,h]
 | [],q :: qs,_,_,hl,_,_=>by simp at hl
 | p :: ps,[],_,_,hl,_,_=>by simp at hl
 | (i,v) :: ps,q :: qs,cells,out,hl,hp,h=>by
   obtain ⟨o,s,h1,h2⟩:=hp 0 i v rfl
   simp at h2; subst h2
   have ih:=fun cells'=>fill_ok place ps qs cells' out (by simpa using hl) (fun j i v hj=>by simpa using hp (j + 1) i v (by simpa using hj))
   simp only [Instr.fill,h1]
   have key:∀ cells',fillV cells' qs=some out→(v.cells.size=s∧o + v.cells.size≤cells.length)→
    cells'=cells.take o ++ v.cells.toList ++ cells.drop (o + v.cells.size)→
    (if v.cells.size≠s || o + v.cells.size > cells.toArray.size then none else Instr.fill place (v.cells.zipIdx.foldl (fun cs (c,j)=>cs.setIfInBounds (o + j) c) cells.toArray) ps)=some out.toArray:=by
    intro cells' hf ⟨hs,hb⟩ he
    rw [if_neg (by simp [hs]; rw [hs] at hb; omega)]
    have e:=foldl_set v.cells.toList o 0 cells (by simpa using hb)
    have e':(v.cells.zipIdx.foldl (fun (cs:Array Value) (x:Value × Nat)=>cs.setIfInBounds (o + x.2) x.1) cells.toArray)=cells'.toArray:=by
     apply Array.toList_inj.1
     rw [← Array.foldl_toList]
     simp only [Array.toList_zipIdx]
     rw [e,he]
     simp
    have:=ih cells' hf
    rw [← e'] at this
    exact this
   unfold fillV at h
   split at h
   ·rename_i cs
    split at h
    ·rename_i hc
     exact key _ h ⟨hc.1,by simp [Value.cells]; omega⟩ (by simp [Value.cells,hc.1])
    ·simp at h
   ·rename_i hv
    split at h
    ·rename_i hc
     have hcell:v.cells=#[v]:=by cases v <;> first | rfl | (exfalso; exact hv _ rfl)
     refine key _ h ⟨by rw [hcell]; simp [hc.1],by rw [hcell]; simp; omega⟩ ?_
     rw [hcell,List.set_eq_take_append_cons_drop,if_pos hc.2]
     simp
    ·simp at h
theorem run_places:∀ (fields:List Field) (w:World),fields.all (fun f=>(sizeOfB P f.type).isSome)=true→
 ((fields.mapM fun f=>do pure (f.offset,← Go.sizeOf f.type)):Sem (List (Nat × Nat))).run P w= .ok (fields.map fun f=>(f.offset,(sizeOfB P f.type).getD 0)) w
 | [],w,_=>by simp
 | f :: fs,w,h=>by
   simp only [List.all_cons,Bool.and_eq_true] at h
   obtain ⟨s,hs⟩:=Option.isSome_iff_exists.1 h.1
   simp only [List.mapM_cons,Sem.run_bind,run_size hs,Result.andThen_ok,Sem.run_pure,run_places fs w h.2,List.map_cons,hs,Option.getD_some]
theorem partOffs_spec {fields:List Field}:∀ {parts:List (Nat × Operand)} {ps:List (Nat × Nat × Operand)},partOffs P fields parts=some ps→
 ps.length=parts.length∧∀ (j i:Nat) (x:Operand),parts[j]?=some (i,x)→∃ f s,fields[i]?=some f∧sizeOfB P f.type=some s∧ps[j]?=some (f.offset,s,x)
 | [],ps,h=>by simp [partOffs] at h; subst h; exact ⟨rfl,fun j i x hj=>by simp at hj⟩
 | (i,x) :: r,ps,h=>by
   simp only [partOffs] at h
   split at h
   ·simp at h
   ·rename_i f hf
    split at h
    ·rename_i s ps' h1 h2
     simp at h; subst h
     obtain ⟨hl,ih⟩:=partOffs_spec h2
     refine ⟨by simp [hl],fun j i' x' hj=>?_⟩
     cases j with
     | zero=>simp at hj; obtain ⟨rfl,rfl⟩:=hj; exact ⟨f,s,hf,h1,rfl⟩
     | succ j=>simpa using ih j i' x' (by simpa using hj)
    ·simp at h
theorem parts_spec {ev:Operand→Option Value}:∀ {ps:List (Nat × Nat × Operand)} {qs:List (Nat × Nat × Value)},partsE ev ps=some qs→
 qs.length=ps.length∧∀ (j o s:Nat) (x:Operand),ps[j]?=some (o,s,x)→∃ v,ev x=some v∧qs[j]?=some (o,s,v)
 | [],qs,h=>by simp [partsE] at h; subst h; exact ⟨rfl,fun j o s x hj=>by simp at hj⟩
 | (o,s,x) :: r,qs,h=>by
   simp only [partsE] at h
   split at h
   ·rename_i v vs h1 h2
    simp at h; subst h
    obtain ⟨hl,ih⟩:=parts_spec h2
    refine ⟨by simp [hl],fun j o' s' x' hj=>?_⟩
    cases j with
    | zero=>simp at hj; obtain ⟨rfl,rfl,rfl⟩:=hj; exact ⟨v,h1,rfl⟩
    | succ j=>simpa using ih j o' s' x' (by simpa using hj)
   ·simp at h
theorem run_build_ok {t:TypeId} {fields:Array Field} {z:Value} (ht:P.underlying t=some (.struct fields)) (hz:zeroOf P t=some z) {parts:Array (Nat × Operand)} {ps:List (Nat × Nat × Operand)}
 (hall:fields.toList.all (fun f=>(sizeOfB P f.type).isSome)=true) (hps:partOffs P fields.toList parts.toList=some ps) {ev:Operand→Option Value} {a:Act} (hf:Agree ev a)
 {qs:List (Nat × Nat × Value)} (hq:partsE ev ps=some qs) {out:List Value} (ho:fillV z.cells.toList qs=some out) (w:World) :
 (Instr.build t (parts.map fun (i,x)=>(i,a.eval x))).run P w= .ok (.agg out.toArray) w:=by
 have hz':(zeroValue t).run P w= .ok z w:=by
  simp only [zeroOf,Option.bind_eq_some_iff] at hz
  obtain ⟨i,hi,hz⟩:=hz
  simp [zeroValue,run_info hi,hz]
 obtain ⟨hl1,h1⟩:=partOffs_spec hps
 obtain ⟨hl2,h2⟩:=parts_spec hq
 have hfill:=fill_ok (fun i=>(fields.toList.map fun f=>(f.offset,(sizeOfB P f.type).getD 0))[i]?) (parts.toList.map fun (i,x)=>(i,a.eval x)) qs z.cells.toList out (by simp [hl1,hl2])
  (fun j i v hj=>by
   simp only [List.getElem?_map,Option.map_eq_some_iff,Prod.mk.injEq] at hj
   obtain ⟨⟨i',x⟩,hp,rfl,rfl⟩:=hj
   obtain ⟨f,s,hf1,hf2,hf3⟩:=h1 j i' x hp
   obtain ⟨v,hv1,hv2⟩:=h2 j _ _ _ hf3
   refine ⟨f.offset,s,?_,?_⟩
   ·simp; exact ⟨f,by simpa using hf1,rfl,by simp [hf2]⟩
   ·rw [hv2]; simp [hf.ev hv1]) ho
 simp only [Instr.build,Sem.run_bind,hz',Result.andThen_ok,run_underlying ht,Array.mapM_eq_mapM_toList,Sem.run_map,run_places _ _ hall]
 simp only [Array.toList_map,List.getElem?_toArray,Array.toArray_toList] at hfill ⊢
 rw [hfill]
 rfl
theorem arrOffs_spec {size:Nat}:∀ {parts:List (Nat × Operand)},(arrOffs size parts).length=parts.length∧∀ (j i:Nat) (x:Operand),parts[j]?=some (i,x)→(arrOffs size parts)[j]?=some (i * size,size,x)
 | []=>⟨rfl,fun j i x hj=>by simp at hj⟩
 | (i,x) :: r=>by
   obtain ⟨hl,ih⟩:=arrOffs_spec (size:=size) (parts:=r)
   refine ⟨by simp [arrOffs,hl],fun j i' x' hj=>?_⟩
   cases j with
   | zero=>simp at hj; obtain ⟨rfl,rfl⟩:=hj; rfl
   | succ j=>simpa [arrOffs] using ih j i' x' (by simpa using hj)
theorem run_build_arr {t n e s:Nat} {z:Value} (ht:P.underlying t=some (.array n e)) (hz:zeroOf P t=some z) {parts:Array (Nat × Operand)} (hs:sizeOfB P e=some s) {ev:Operand→Option Value} {a:Act} (hf:Agree ev a)
 {qs:List (Nat × Nat × Value)} (hq:partsE ev (arrOffs s parts.toList)=some qs) {out:List Value} (ho:fillV z.cells.toList qs=some out) (w:World) :
 (Instr.build t (parts.map fun (i,x)=>(i,a.eval x))).run P w= .ok (.agg out.toArray) w:=by
 have hz':(zeroValue t).run P w= .ok z w:=by
  simp only [zeroOf,Option.bind_eq_some_iff] at hz
  obtain ⟨i,hi,hz⟩:=hz
  simp [zeroValue,run_info hi,hz]
 obtain ⟨hl1,h1⟩:=arrOffs_spec (size:=s) (parts:=parts.toList)
 obtain ⟨hl2,h2⟩:=parts_spec hq
 have hfill:=fill_ok (fun i=>some (i * s,s)) (parts.toList.map fun (i,x)=>(i,a.eval x)) qs z.cells.toList out (by simp [hl1,hl2])
  (fun j i v hj=>by
   simp only [List.getElem?_map,Option.map_eq_some_iff,Prod.mk.injEq] at hj
   obtain ⟨⟨i',x⟩,hp,rfl,rfl⟩:=hj
   obtain ⟨v,hv1,hv2⟩:=h2 j _ _ _ (h1 j i' x hp)
   refine ⟨i' * s,s,rfl,?_⟩
   rw [hv2]; simp [hf.ev hv1]) ho
 simp only [Instr.build,Sem.run_bind,hz',Result.andThen_ok,run_underlying ht,run_size hs]
 simp only [Array.toList_map,Array.toArray_toList] at hfill ⊢
 rw [hfill]
 rfl
end
end Gx
end
section
namespace Gx
open Go
section
variable {P:Program}
theorem evs_some {ev:Operand→Option Value} {a:Act} (hf:Agree ev a) {xs:Array Operand} {vs:List Value} (h:evs ev xs.toList=some vs):xs.map a.eval=vs.toArray:=by
 have:=hf.evs h
 apply Array.toList_inj.1
 simpa using this
theorem stripPE_ok {o:Oper} {ev:Operand→Option Value} {a:Act} {e:PE Operand} {p:Prop} {v:Value} (hs:stripPE P o.op=some e) (hf:Agree ev a)
 (hv:e.val ev=some (p,v)) (hp:p) (w:World):(execOp a.eval o).run P w= .ok (.value v) w:=by
 unfold stripPE at hs
 unfold execOp
 split at hs
 case h_1 x ho=>-- move
  simp at hs; subst hs
  have:=hf.ev (mvN_some hv)
  simp [ho,this]
 case h_2 x ho=>
  simp at hs; subst hs
  have:=hf.ev (mvN_some hv)
  simp [ho,this]
 case h_3 c x y ho=>-- pick
  simp at hs; subst hs
  obtain ⟨t,h1,h2,h3⟩:=pickN_ok hv
  cases t with
  | true=>obtain ⟨x',e1,rfl⟩:=h2 rfl; simp [ho,hf.ev h1,hf.ev e1,asBool]
  | false=>obtain ⟨x',e1,rfl⟩:=h3 rfl; simp [ho,hf.ev h1,hf.ev e1,asBool]
 case h_4 op ty x y yt ho=>-- binOp
  have binok:(PE.bin op x y).val ev=some (p,v)→(do let r ← (do eqGuard op ty x y (a.eval x) (a.eval y); binOp op ty (a.eval x) (a.eval y)); pure (Next.value r):Sem Next).run P w= .ok (.value v) w:=by
   intro hv
   simp only [PE.val,binN] at hv
   split at hv
   ·rename_i u1 u2 h1 h2
    rw [hf.ev h1,hf.ev h2,Sem.run_bind,binV_ok hv hp w ty x y]
    rfl
   ·simp at hv
  have beqok:∀ neg,op=(if neg then .neq else .eql)→P.underlying ty=some .bool→(PE.beq neg x y).val ev=some (p,v)→(do let r ← (do eqGuard op ty x y (a.eval x) (a.eval y); binOp op ty (a.eval x) (a.eval y)); pure (Next.value r):Sem Next).run P w= .ok (.value v) w:=by
   intro neg hop hty hv
   simp only [PE.val,beqN] at hv
   split at hv
   ·rename_i u1 u2 h1 h2
    simp at hv; obtain ⟨_,rfl⟩:=hv
    rw [hf.ev h1,hf.ev h2,Sem.run_bind,hop,beq_ok hty w x y]
    rfl
   ·simp at hv
  rw [ho]
  split at hs
  ·simp at hs; subst hs; exact binok hv
  ·simp at hs; subst hs; exact binok hv
  ·rename_i hty
   split at hs
   ·simp at hs; subst hs; exact beqok false rfl hty hv
   ·simp at hs; subst hs; exact beqok true rfl hty hv
   ·simp at hs
  ·rename_i fields hty
   split at hs
   ·rename_i ks hks
    have st:∀ neg,op=(if neg then .neq else .eql)→(PE.steq neg ks x y).val ev=some (p,v)→(do let r ← (do eqGuard op ty x y (a.eval x) (a.eval y); binOp op ty (a.eval x) (a.eval y)); pure (Next.value r):Sem Next).run P w= .ok (.value v) w:=by
     intro neg hop hv
     simp only [PE.val,steqN] at hv
     split at hv
     ·rename_i xs ys h1 h2
      cases hb:stEq xs ys ks with
      | none=>rw [hb] at hv; simp [negN] at hv
      | some b=>
        rw [hb] at hv
        simp [negN] at hv; obtain ⟨_,rfl⟩:=hv
        rw [hf.ev h1,hf.ev h2,Sem.run_bind,hop,steq_ok hty hks hb w x y]
        rfl
     ·simp at hv
    split at hs
    ·simp at hs; subst hs; exact st false rfl hv
    ·simp at hs; subst hs; exact st true rfl hv
    ·simp at hs
   ·simp at hs
  ·rename_i el hty
   split at hs
   ·have nil:∀ neg,op=(if neg then .neq else .eql)→(PE.isnil neg x).val ev=some (p,v)→(do let r ← (do eqGuard op ty x (.const (.pointer none)) (a.eval x) (a.eval (.const (.pointer none))); binOp op ty (a.eval x) (a.eval (.const (.pointer none)))); pure (Next.value r):Sem Next).run P w= .ok (.value v) w:=by
     intro neg hop hv
     simp only [PE.val,isnilN] at hv
     split at hv
     ·rename_i ad he
      simp at hv; obtain ⟨_,rfl⟩:=hv
      rw [hf.ev he,Sem.run_bind,hop]
      show ((Sem.run P (do eqGuard (if neg then BinOp.neq else BinOp.eql) ty x _ (.pointer ad) (.pointer none); binOp (if neg then BinOp.neq else BinOp.eql) ty (.pointer ad) (.pointer none)) w).andThen _)=_
      rw [isnil_ptr_ok hty]
      rfl
     ·simp at hv
    split at hs
    ·simp at hs; subst hs; exact nil false rfl hv
    ·simp at hs; subst hs; exact nil true rfl hv
    ·simp at hs
   ·simp at hs
  ·rename_i el hty
   split at hs
   ·rename_i n' c'
    have nil:∀ neg,op=(if neg then .neq else .eql)→(PE.isnils neg x).val ev=some (p,v)→(do let r ← (do eqGuard op ty x (.const (.slice none n' c')) (a.eval x) (a.eval (.const (.slice none n' c'))); binOp op ty (a.eval x) (a.eval (.const (.slice none n' c')))); pure (Next.value r):Sem Next).run P w= .ok (.value v) w:=by
     intro neg hop hv
     simp only [PE.val,isnilsN] at hv
     split at hv
     ·rename_i ad m c he
      simp at hv; obtain ⟨_,rfl⟩:=hv
      rw [hf.ev he,Sem.run_bind,hop]
      show ((Sem.run P (do eqGuard (if neg then BinOp.neq else BinOp.eql) ty x _ (.slice ad m c) (.slice none n' c'); binOp (if neg then BinOp.neq else BinOp.eql) ty (.slice ad m c) (.slice none n' c')) w).andThen _)=_
      rw [isnil_slice_ok hty]
      rfl
     ·simp at hv
    split at hs
    ·simp at hs; subst hs; exact nil false rfl hv
    ·simp at hs; subst hs; exact nil true rfl hv
    ·simp at hs
   ·simp at hs
  ·rename_i ms hty
   split at hs
   ·have nil:∀ neg,op=(if neg then .neq else .eql)→(PE.isnilf neg x).val ev=some (p,v)→(do let r ← (do eqGuard op ty x (.const .nilIface) (a.eval x) (a.eval (.const .nilIface)); binOp op ty (a.eval x) (a.eval (.const .nilIface))); pure (Next.value r):Sem Next).run P w= .ok (.value v) w:=by
     intro neg hop hv
     simp only [PE.val,isnilfN] at hv
     have key:∀ u,ev x=some u→((∃ t v,u= .iface t v)∨u= .nilIface)→v= .bool (if neg then !nilI u else nilI u)→(do let r ← (do eqGuard op ty x (.const .nilIface) (a.eval x) (a.eval (.const .nilIface)); binOp op ty (a.eval x) (a.eval (.const .nilIface))); pure (Next.value r):Sem Next).run P w= .ok (.value v) w:=by
      intro u he hu hv
      subst hv
      rw [hf.ev he,Sem.run_bind,hop]
      show ((Sem.run P (do eqGuard (if neg then BinOp.neq else BinOp.eql) ty x (.const .nilIface) u .nilIface; binOp (if neg then BinOp.neq else BinOp.eql) ty u .nilIface) w).andThen _)=_
      rw [isnil_iface_ok hty u hu]
      rfl
     split at hv
     ·rename_i t' u he
      simp at hv; obtain ⟨_,rfl⟩:=hv
      exact key _ he (.inl ⟨_,_,rfl⟩) (by cases neg <;> rfl)
     ·rename_i he
      simp at hv; obtain ⟨_,rfl⟩:=hv
      exact key _ he (.inr rfl) (by cases neg <;> rfl)
     ·simp at hv
    split at hs
    ·simp at hs; subst hs; exact nil false rfl hv
    ·simp at hs; subst hs; exact nil true rfl hv
    ·simp at hs
   ·simp at hs
  ·simp at hs
 case h_5 op ty x ho=>-- unOp
  simp at hs; subst hs
  simp only [PE.val,unN] at hv
  split at hv
  ·rename_i u h1
   simp [ho,hf.ev h1,unV_ok hv]
  ·simp at hv
 case h_6 src dst x ho=>-- convert
  split at hs
  ·rename_i ks kd h1 h2
   simp at hs; subst hs
   simp only [PE.val,cviN] at hv
   split at hv
   ·rename_i k' m he
    simp at hv; obtain ⟨_,rfl⟩:=hv
    simp [ho,hf.ev he,convert,run_underlying h1,run_underlying h2,Conv.intToInt]
   ·simp at hv
  ·rename_i h1 h2
   simp at hs; subst hs
   simp only [PE.val,cvsN] at hv
   split at hv
   ·rename_i u he
    simp at hv; obtain ⟨_,rfl⟩:=hv
    simp [ho,hf.ev he,convert,run_underlying h1,run_underlying h2]
   ·simp at hv
  ·simp at hs
 case h_7 s x f ho=>-- fieldAddr
  split at hs
  ·rename_i fields hu
   split at hs
   ·rename_i fd hfd
    split at hs
    ·rename_i k hk
     simp at hs; subst hs
     simp only [PE.val,faN] at hv
     split at hv
     ·rename_i ad he
      simp at hv; obtain ⟨_,rfl⟩:=hv
      simp [ho,hf.ev he,Instr.fieldAt,run_underlying hu,hfd,Instr.sureAddr,fieldPlace,run_size hk]
     ·simp at hv
    ·simp at hs
   ·simp at hs
  ·simp at hs
 case h_8 t x i ho=>-- indexAddr
  split at hs
  ·rename_i el hu
   simp only [Option.map_eq_some_iff] at hs
   obtain ⟨s,hsz,rfl⟩:=hs
   simp only [PE.val,ixN] at hv
   split at hv
   ·rename_i ad len cap k m h1 h2
    simp only [Option.some.injEq,Prod.mk.injEq] at hv; obtain ⟨rfl,rfl⟩:=hv
    simp [ho,hf.ev h1,hf.ev h2,Instr.indexAt,asIntOf,run_underlying hu,hp,run_size hsz]
   ·simp only [Option.some.injEq,Prod.mk.injEq] at hv; obtain ⟨rfl,_⟩:=hv; exact hp.elim
   ·simp at hv
  ·rename_i len el hu
   simp only [Option.map_eq_some_iff] at hs
   obtain ⟨s,hsz,rfl⟩:=hs
   simp only [PE.val,ixaN] at hv
   split at hv
   ·rename_i ad k m h1 h2
    simp only [Option.some.injEq,Prod.mk.injEq] at hv; obtain ⟨rfl,rfl⟩:=hv
    simp [ho,hf.ev h1,hf.ev h2,Instr.indexAt,Instr.sureAddr,asIntOf,run_underlying hu,hp,run_size hsz]
   ·simp at hv
  ·simp at hs
 case h_9 t x i ho=>-- index
  split at hs
  ·rename_i hu
   simp at hs; subst hs
   simp only [PE.val,sixN] at hv
   split at hv
   ·rename_i s k m h1 h2
    simp only [Option.some.injEq,Prod.mk.injEq] at hv; obtain ⟨rfl,rfl⟩:=hv
    have hlt:m.toNat < s.size:=by omega
    simp [ho,hf.ev h1,hf.ev h2,Instr.index,asIntOf,run_underlying hu,hp.1,hlt]
    rfl
   ·simp at hv
  ·rename_i n el hu
   split at hs
   ·rename_i s hag hsz
    simp at hs; subst hs
    simp only [PE.val,ixeN] at hv
    split at hv
    ·rename_i cs k m h1 h2
     split at hv
     ·rename_i u hc
      simp only [Option.some.injEq,Prod.mk.injEq] at hv; obtain ⟨rfl,rfl⟩:=hv
      simp [ho,hf.ev h1,hf.ev h2,Instr.index,asIntOf,run_underlying hu,hp,run_size hsz,part,run_isAgg hag,hc]
     ·simp at hv
    ·simp at hv
   ·simp at hs
  ·simp at hs
 case h_10 t x lo hi mx ho=>-- slice
  split at hs
  ·rename_i el hu
   simp only [Option.map_eq_some_iff] at hs
   obtain ⟨s,hsz,rfl⟩:=hs
   simp only [PE.val,slN] at hv
   split at hv
   ·rename_i ad len cap l h h1 h2 h3
    simp only [Option.some.injEq] at hv
    simp [ho,hf.ev h1,run_slice_ok hu hsz hf h2 h3 hv hp]
   ·simp at hv
  ·rename_i hu
   simp at hs; subst hs
   simp only [PE.val,sslN] at hv
   split at hv
   ·rename_i s l h h1 h2 h3
    simp only [Option.some.injEq] at hv
    simp [ho,hf.ev h1,run_sslice_ok hu hf h2 h3 hv hp]
   ·simp at hv
  ·simp at hs
 case h_11 t x f ho=>-- field
  split at hs
  ·rename_i fields hu
   split at hs
   ·rename_i fd hfd
    split at hs
    ·rename_i s hag hsz
     simp at hs; subst hs
     simp only [PE.val,fldAN] at hv
     split at hv
     ·rename_i cs he
      simp at hv; obtain ⟨_,rfl⟩:=hv
      simp [ho,hf.ev he,Instr.field,run_underlying hu,hfd,asAgg,part,run_isAgg hag,run_size hsz]
     ·simp at hv
    ·rename_i hag
     simp at hs; subst hs
     simp only [PE.val,fld1N] at hv
     split at hv
     ·rename_i cs he
      split at hv
      ·rename_i u hc
       simp at hv; obtain ⟨_,rfl⟩:=hv
       simp [ho,hf.ev he,Instr.field,run_underlying hu,hfd,asAgg,part,run_isAgg hag,hc]
      ·simp at hv
     ·simp at hv
    ·simp at hs
   ·simp at hs
  ·simp at hs
 case h_12 x i ho=>-- extract
  simp at hs; subst hs
  simp only [PE.val,extN] at hv
  split at hv
  ·rename_i vs he
   split at hv
   ·rename_i u hc
    simp at hv; obtain ⟨_,rfl⟩:=hv
    simp [ho,hf.ev he,Instr.extract,hc]
   ·simp at hv
  ·simp at hv
 case h_13 x ho=>-- nilCheck
  simp at hs; subst hs
  simp only [PE.val,ncN] at hv
  split at hv
  ·rename_i ad he
   simp at hv; obtain ⟨_,rfl⟩:=hv
   simp [ho,hf.ev he]
  ·rename_i f c d he
   simp at hv; obtain ⟨_,rfl⟩:=hv
   simp [ho,hf.ev he]
  ·simp at hv
 case h_14 f first caps ho=>-- makeFunc
  simp at hs; subst hs
  simp only [PE.val,mkfN] at hv
  split at hv
  ·rename_i us vs h1 h2
   simp at hv; obtain ⟨_,rfl⟩:=hv
   simp [ho,Instr.makeFunc,evs_some hf h1,evs_some hf h2]
  ·simp at hv
 case h_15 t x ho=>-- makeInterface
  split at hs
  ·simp at hs
  ·rename_i d hni hu
   simp at hs; subst hs
   simp only [PE.val,mkiN] at hv
   split at hv
   ·rename_i u h1
    simp at hv; obtain ⟨_,rfl⟩:=hv
    have:(Instr.makeInterface t u).run P w= .ok (.iface t u) w:=by
     unfold Instr.makeInterface
     simp only [Sem.run_bind,run_underlying hu,Result.andThen_ok]
     rfl
    simp [ho,hf.ev h1,this]
   ·simp at hv
  ·simp at hs
 case h_16 x xt t ok ho=>-- typeAssert
  split at hs
  ·simp at hs
  ·rename_i d hni hu
   have hd:∀ ms,d≠.interface ms:=fun ms e=>hni ms e
   split at hs
   ·rename_i hok
    simp only [Option.map_eq_some_iff] at hs
    obtain ⟨z,hz,rfl⟩:=hs
    subst hok
    have hz':(zeroValue t).run P w= .ok z w:=by
     simp only [zeroOf,Option.bind_eq_some_iff] at hz
     obtain ⟨i,hi,hz⟩:=hz
     simp [zeroValue,run_info hi,hz]
    simp only [PE.val,tyaN] at hv
    split at hv
    ·rename_i t' u h1
     simp at hv; obtain ⟨_,rfl⟩:=hv
     have:(Instr.typeAssert (.iface t' u) xt t true).run P w= .ok (if t'=t then .tuple #[u,.bool true] else .tuple #[z,.bool false]) w:=by
      unfold Instr.typeAssert
      simp only [Sem.run_bind,run_underlying hu,Result.andThen_ok]
      cases d <;> first
       | exact absurd rfl (hd _)
       | (by_cases hc:t'=t <;> simp [hc,hz'])
     simp [ho,hf.ev h1,this]
    ·rename_i h1
     simp at hv; obtain ⟨_,rfl⟩:=hv
     have:(Instr.typeAssert .nilIface xt t true).run P w= .ok (.tuple #[z,.bool false]) w:=by
      unfold Instr.typeAssert
      simp only [Sem.run_bind,run_underlying hu,Result.andThen_ok]
      cases d <;> first
       | exact absurd rfl (hd _)
       | simp [hz']
     simp [ho,hf.ev h1,this]
    ·simp at hv
   ·rename_i hok
    simp at hs; subst hs
    have hok:ok=false:=by simpa using hok
    subst hok
    simp only [PE.val,tybN] at hv
    split at hv
    ·rename_i t' u h1
     simp only [Option.some.injEq,Prod.mk.injEq] at hv; obtain ⟨rfl,rfl⟩:=hv
     have:(Instr.typeAssert (.iface t' u) xt t false).run P w= .ok u w:=by
      unfold Instr.typeAssert
      simp only [Sem.run_bind,run_underlying hu,Result.andThen_ok]
      cases d <;> first
       | exact absurd rfl (hd _)
       | simp [hp]
     simp [ho,hf.ev h1,this]
    ·simp at hv
  ·simp at hs
 case h_17 t parts ho=>-- build
  split at hs
  ·rename_i fields z hu hz
   split at hs
   ·rename_i hall
    simp only [Option.map_eq_some_iff] at hs
    obtain ⟨ps,hps,rfl⟩:=hs
    simp only [PE.val,bldN] at hv
    split at hv
    ·rename_i qs hq
     split at hv
     ·rename_i cs hc
      simp at hv; obtain ⟨_,rfl⟩:=hv
      simp [ho,run_build_ok hu hz hall hps hf hq hc]
     ·simp at hv
    ·simp at hv
   ·simp at hs
  ·rename_i n el z hu hz
   simp only [Option.map_eq_some_iff] at hs
   obtain ⟨s,hsz,rfl⟩:=hs
   simp only [PE.val,bldN] at hv
   split at hv
   ·rename_i qs hq
    split at hv
    ·rename_i cs hc
     simp at hv; obtain ⟨_,rfl⟩:=hv
     simp [ho,run_build_arr hu hz hsz hf hq hc]
    ·simp at hv
   ·simp at hv
  ·simp at hs
 case h_18 args argTypes ho=>-- len
  split at hs
  ·rename_i t x ht hx
   split at hs
   ·rename_i el hu
    simp at hs; subst hs
    simp only [PE.val,lenN] at hv
    split at hv
    ·rename_i ad m cap he
     simp at hv; obtain ⟨_,rfl⟩:=hv
     have e1:argTypes=#[t]:=Array.toList_inj.1 ht
     have e2:args=#[x]:=Array.toList_inj.1 hx
     simp [ho,e1,e2,resolve,invoke,builtin,Builtin.len_,hf.ev he,run_underlying hu,goInt]
    ·simp at hv
   ·rename_i hu
    simp at hs; subst hs
    simp only [PE.val,slenN] at hv
    split at hv
    ·rename_i s he
     simp at hv; obtain ⟨_,rfl⟩:=hv
     have e1:argTypes=#[t]:=Array.toList_inj.1 ht
     have e2:args=#[x]:=Array.toList_inj.1 hx
     simp [ho,e1,e2,resolve,invoke,builtin,Builtin.len_,hf.ev he,run_underlying hu,goInt]
    ·simp at hv
   ·simp at hs
  ·simp at hs
 case h_19 args argTypes ho=>-- max
  split at hs
  ·rename_i t t' x y ht hx
   split at hs
   ·rename_i k hu
    simp at hs; subst hs
    simp only [PE.val,mmN] at hv
    split at hv
    ·rename_i k1 m1 k2 m2 h1 h2
     split at hv
     ·rename_i e; subst e
      simp at hv; obtain ⟨_,rfl⟩:=hv
      have e2:args=#[x,y]:=Array.toList_inj.1 hx
      simp [ho,e2,resolve,invoke,builtin,run_max_int2,hf.ev h1,hf.ev h2]
     ·simp at hv
    ·simp at hv
   ·simp at hs
  ·simp at hs
 case h_20 args argTypes ho=>-- min
  split at hs
  ·rename_i t t' x y ht hx
   split at hs
   ·rename_i k hu
    simp at hs; subst hs
    simp only [PE.val,mmN] at hv
    split at hv
    ·rename_i k1 m1 k2 m2 h1 h2
     split at hv
     ·rename_i e; subst e
      simp at hv; obtain ⟨_,rfl⟩:=hv
      have e2:args=#[x,y]:=Array.toList_inj.1 hx
      simp [ho,e2,resolve,invoke,builtin,run_min_int2,hf.ev h1,hf.ev h2]
     ·simp at hv
    ·simp at hv
   ·simp at hs
  ·simp at hs
 case h_21=>simp at hs
end
end Gx
end
section
namespace Gx
open Go
inductive SOp (O:Type) where
 | v (e:PE O)
 | ld (sz:Option Nat) (x:O)
 | st (n:Nat) (a x:O)
 | al (t:Nat) (zero:List Value)
 | bx (t:Nat) (x:O)
 | bs (t n:Nat) (zero:List Value) (parts:List (Nat × Nat × O))
 | ap (t tx:Nat) (s x:O)
 | mk (t size bytes:Nat) (zero:Value) (l c:O)
 | call (f:Nat) (args:List O)
 | cv (f:O) (args:List O)
 | b2s (x:O)
 | s2b (t:Nat) (x:O)
 | pnc (x:O)
 | mks (x:O)
 | mm
 | ins (m k x:O)
 | lkp (z:Value) (m k:O)
 | ini (kd:IntKind) (m k x:O)
 | lki (kd:IntKind) (z:Value) (m k:O)
def cellsFrom (H:Heap) (a:Addr) (i:Nat):Nat→Option (List Value)
 | 0=>some []
 | n + 1=>match cellAt H (a.add i),cellsFrom H a (i + 1) n with
   | some v,some vs=>some (v :: vs)
   | _,_=>none
def ldV (H:Heap) (sz:Option Nat) (a:Addr):Option Value:=
 match sz with
 | none=>cellAt H a
 | some n=>match cellsFrom H a 0 n with
   | some vs=>some (.agg vs.toArray)
   | none=>none
def ldN (H:Heap) (sz:Option Nat):Option Value→Option Value
 | some (.pointer (some a))=>ldV H sz a
 | _=>none
def bytesFrom (H:Heap) (a:Addr) (i:Nat):Nat→Option (List UInt8)
 | 0=>some []
 | n + 1=>match cellAt H (a.add i),bytesFrom H a (i + 1) n with
   | some (.int .u8 m),some r=>some (UInt8.ofNat m.toNat :: r)
   | _,_=>none
def b2sN (H:Heap):Option Value→Option Value
 | some (.slice none _ _)=>some (.string ⟨⟨[]⟩⟩)
 | some (.slice (some a) n _)=>match bytesFrom H a 0 n with
   | some l=>some (.string ⟨⟨l⟩⟩)
   | none=>none
 | _=>none
def Sto (H:Heap) (a:Addr):List Value→Nat→(Heap→Prop)→Prop
 | [],_,R=>R H
 | v :: vs,i,R=>v.oneCell'=true∧(∃ u,cellAt H (a.add i)=some u)∧frozenAt H (a.add i)=false∧Sto (setCellH H (a.add i) v) a vs (i + 1) R
def NewP (H:Heap) (t:Nat) (cs:List Value) (R:Value→Heap→Prop):Prop:=R (.pointer (some ⟨H.size,0,none⟩)) (H.push (.cells cs.toArray t))
def NewS (H:Heap) (t n:Nat) (cs:List Value) (R:Value→Heap→Prop):Prop:=R (.slice (some ⟨H.size,0,none⟩) n n) (H.push (.cells cs.toArray t))
def App (P:Program) (ts tx ty:TypeId) (H:Heap) (s x:Value) (R:Value→Heap→Prop):Prop:=
 ∀ w:World,w.heap=H→∃ v w',(Builtin.append_ #[ts,tx] ty #[s,x]).run P w= .ok v w'∧R v w'.heap∧Same w w'
def Mk (H:Heap) (t size:Nat) (zero:Value) (l c:Int) (bytes:Nat) (R:Value→Heap→Prop):Prop:=
 0≤l∧l≤c∧c≤9223372036854775807∧(bytes:Int) * c≤281474976710656∧R (.slice (some ⟨H.size,0,none⟩) l.toNat c.toNat) (H.push (.cells (madeCells zero.cells (c.toNat * size)) t))
def S2b (H:Heap) (t:Nat) (s:ByteArray) (R:Value→Heap→Prop):Prop:=
 ∀ cap,s.size≤cap→R (.slice (some ⟨H.size,0,none⟩) s.size cap) (H.push (.cells (bytesRow s cap) t ((bytesRow s cap).size,(bytesRow s cap).size + 1)))
def hasBody (P:Program) (f:Nat):Bool:=
 match P.funcs[f]? with
 | some fn=>fn.body.isSome && !(fn.name == "runtime.NumGoroutine")
 | none=>false
def vN (H:Heap) (R:Value→Heap→Prop):Option (Prop × Value)→Prop
 | some (p,v)=>p∧R v H
 | none=>False
def rdN (H:Heap) (R:Value→Heap→Prop):Option Value→Prop
 | some v=>R v H
 | none=>False
def stN (H:Heap) (n:Nat) (R:Value→Heap→Prop):Option Value→Option Value→Prop
 | some (.pointer (some a)),some v=>v.cells.size=n∧Sto H a v.cells.toList 0 (R undef)
 | _,_=>False
def bxN (H:Heap) (t:Nat) (R:Value→Heap→Prop):Option Value→Prop
 | some v=>NewP H t v.cells.toList R
 | none=>False
def bsN (H:Heap) (t n:Nat) (zero:List Value) (R:Value→Heap→Prop):Option (List (Nat × Nat × Value))→Prop
 | some ps=>match fillV zero ps with
   | some cs=>NewS H t n cs R
   | none=>False
 | none=>False
def apN (P:Program) (t tx:Nat) (H:Heap) (R:Value→Heap→Prop):Option Value→Option Value→Prop
 | some s,some x=>App P t tx t H s x R
 | _,_=>False
def callN (P:Program) (E:Chain→Heap→Prop) (f:Nat) (H:Heap) (R:Value→Heap→Prop):Option (List Value)→Prop
 | some vs=>PCalls P f vs.toArray H R E
 | none=>False
def cvN (P:Program) (E:Chain→Heap→Prop) (H:Heap) (R:Value→Heap→Prop):Option Value→Option (List Value)→Prop
 | some (.func (.func f) first captured),some vs=>hasBody P f=true∧PCalls P f (first ++ vs.toArray ++ captured) H R E
 | _,_=>False
def mkN (H:Heap) (t size bytes:Nat) (zero:Value) (R:Value→Heap→Prop):Option Value→Option Value→Prop
 | some (.int .i64 l),some (.int .i64 c)=>Mk H t size zero l c bytes R
 | _,_=>False
def pncN (E:Chain→Heap→Prop) (H:Heap):Option Value→Prop
 | some (.iface t v)=>E [{ v:=.iface t v,recovered:=false }] H
 | _=>False
def frzH (H:Heap) (b n:Nat):Heap:=
 H.modify b fun
  | .cells c elem (lo,hi)=>.cells c elem (if lo == hi then (n,n + 1) else (min lo n,max hi (n + 1)))
  | o=>o
def Mks (H:Heap) (a:Addr) (R:Heap→Prop):Prop:=∃ c e f,H[a.block]?=some (.cells c e f)∧R (frzH H a.block c.size)
def mksN (H:Heap) (R:Value→Heap→Prop):Option Value→Prop
 | some (.slice (some a) n c)=>Mks H a (R (.slice (some a) n c))
 | _=>False
def NewM (H:Heap) (R:Value→Heap→Prop):Prop:=R (.map (some H.size)) (H.push (.map #[] 0))
def InsM (H:Heap) (r:Nat) (s:ByteArray) (v:Value) (R:Heap→Prop):Prop:=
 ∃ es c,H[r]?=some (.map es c)∧Instr.findNow .string (.string s) es.toList 0=some none∧R (H.setIfInBounds r (.map (es.push ⟨.string s,v,c⟩) (c + 1)))
def LkpM (H:Heap) (z:Value) (r:Nat) (s:ByteArray) (R:Value→Prop):Prop:=
 ∃ es c,H[r]?=some (.map es c)∧((∃ i v,Instr.findNow .string (.string s) es.toList 0=some (some (i,v))∧R v)∨(Instr.findNow .string (.string s) es.toList 0=some none∧R z))
def insN (H:Heap) (R:Value→Heap→Prop):Option Value→Option Value→Option Value→Prop
 | some (.map (some r)),some (.string s),some v=>InsM H r s v (R undef)
 | _,_,_=>False
def lkpN (H:Heap) (z:Value) (R:Value→Heap→Prop):Option Value→Option Value→Prop
 | some (.map (some r)),some (.string s)=>LkpM H z r s fun v=>R v H
 | _,_=>False
def InsI (H:Heap) (r:Nat) (kd:IntKind) (s:Int) (v:Value) (R:Heap→Prop):Prop:=
 ∃ es c,H[r]?=some (.map es c)∧Instr.findNow (.int kd) (.int kd s) es.toList 0=some none∧R (H.setIfInBounds r (.map (es.push ⟨.int kd s,v,c⟩) (c + 1)))
def LkpI (H:Heap) (z:Value) (r:Nat) (kd:IntKind) (s:Int) (R:Value→Prop):Prop:=
 ∃ es c,H[r]?=some (.map es c)∧((∃ i v,Instr.findNow (.int kd) (.int kd s) es.toList 0=some (some (i,v))∧R v)∨(Instr.findNow (.int kd) (.int kd s) es.toList 0=some none∧R z))
def iniN (H:Heap) (kd:IntKind) (R:Value→Heap→Prop):Option Value→Option Value→Option Value→Prop
 | some (.map (some r)),some (.int k s),some v=>k=kd∧InsI H r kd s v (R undef)
 | _,_,_=>False
def lkiN (H:Heap) (kd:IntKind) (z:Value) (R:Value→Heap→Prop):Option Value→Option Value→Prop
 | some (.map (some r)),some (.int k s)=>k=kd∧LkpI H z r kd s fun v=>R v H
 | _,_=>False
def s2bN (H:Heap) (t:Nat) (R:Value→Heap→Prop):Option Value→Prop
 | some (.string s)=>S2b H t s R
 | _=>False
def SOp.vc {O:Type} (P:Program) (E:Chain→Heap→Prop) (ev:O→Option Value) (H:Heap) (R:Value→Heap→Prop):SOp O→Prop
 | .v e=>vN H R (e.val ev)
 | .ld sz x=>rdN H R (ldN H sz (ev x))
 | .st n a x=>stN H n R (ev a) (ev x)
 | .al t z=>NewP H t z R
 | .bx t x=>bxN H t R (ev x)
 | .bs t n z ps=>bsN H t n z R (partsE ev ps)
 | .ap t tx s x=>apN P t tx H R (ev s) (ev x)
 | .mk t s b z l c=>mkN H t s b z R (ev l) (ev c)
 | .call f args=>callN P E f H R (evs ev args)
 | .cv f args=>cvN P E H R (ev f) (evs ev args)
 | .b2s x=>rdN H R (b2sN H (ev x))
 | .s2b t x=>s2bN H t R (ev x)
 | .pnc x=>pncN E H (ev x)
 | .mks x=>mksN H R (ev x)
 | .mm=>NewM H R
 | .ins m k x=>insN H R (ev m) (ev k) (ev x)
 | .lkp z m k=>lkpN H z R (ev m) (ev k)
 | .ini kd m k x=>iniN H kd R (ev m) (ev k) (ev x)
 | .lki kd z m k=>lkiN H kd z R (ev m) (ev k)
def zeroOffs (size:Nat):List (Nat × Operand)→List (Nat × Nat × Operand)
 | []=>[]
 | (i,x) :: r=>(i * size,size,x) :: zeroOffs size r
def zeroRow (zero:List Value):Nat→List Value
 | 0=>[]
 | n + 1=>zero ++ zeroRow zero n
def stripOp (P:Program) (o:Oper):Option (SOp Operand):=
 match stripPE P o.op with
 | some e=>some (.v e)
 | none=>
 match o.op with
 | .load t x=>
   match isAggB P t with
   | some false=>some (.ld none x)
   | some true=>(sizeOfB P t).map fun n=>.ld (some n) x
   | none=>none
 | .store t a x=>(sizeOfB P t).map fun n=>.st n a x
 | .alloc t=>(zeroOf P t).map fun z=>.al t z.cells.toList
 | .box t x=>some (.bx t x)
 | .buildSlice t n parts=>
   match P.underlying t with
   | some (.slice e)=>match sizeOfB P e,zeroOf P e with
     | some s,some z=>if z.cells.size=s∧0 < s∧n * s≤16777216 then some (.bs e n (zeroRow z.cells.toList n) (zeroOffs s parts.toList)) else none
     | _,_=>none
   | _=>none
 | .convert src dst x=>
   match P.underlying src,P.underlying dst with
   | some (.slice e),some .string=>match P.underlying e with
     | some (.int .u8)=>some (.b2s x)
     | _=>none
   | some .string,some (.slice e)=>match P.underlying e with
     | some (.int .u8)=>some (.s2b e x)
     | _=>none
   | some (.slice _),some (.slice e)=>match P.underlying e with
     | some (.int .u8)=>if src=dst then some (.mks x) else none
     | _=>none
   | _,_=>none
 | .makeSlice t l c=>
   match P.underlying t with
   | some (.slice e)=>match sizeOfB P e,zeroOf P e,(P.info? e).map (·.bytes) with
     | some s,some z,some b=>if z.cells.size=s then some (.mk e s b z l c) else none
     | _,_,_=>none
   | _=>none
 | .call { callee:=.builtin .append,args,argTypes }=>
   match argTypes.toList,args.toList with
   | [t,t'],[s,x]=>some (.ap t t' s x)
   | _,_=>none
 | .call { callee:=.value (.func f),args,argTypes:=_ }=>if hasBody P f then some (.call f args.toList) else none
 | .call { callee:=.value f,args,argTypes:=_ }=>some (.cv f args.toList)
 | .panic x=>some (.pnc x)
 | .makeMap _ none=>some .mm
 | .insert t m k x=>
   match P.underlying t with
   | some (.map kt _)=>match P.underlying kt with
     | some .string=>some (.ins m k x)
     | some (.int kd)=>some (.ini kd m k x)
     | _=>none
   | _=>none
 | .lookup t m k false=>
   match P.underlying t with
   | some (.map kt e)=>match P.underlying kt,zeroOf P e with
     | some .string,some z=>some (.lkp z m k)
     | some (.int kd),some z=>some (.lki kd z m k)
     | _,_=>none
   | _=>none
 | _=>none
section
variable {P:Program}
theorem run_zero {t:TypeId} {z:Value} (h:zeroOf P t=some z) (w:World):(zeroValue t).run P w= .ok z w:=by
 simp only [zeroOf,Option.bind_eq_some_iff] at h
 obtain ⟨i,hi,hz⟩:=h
 simp [zeroValue,run_info hi,hz]
theorem run_cellsFrom:∀ (n i:Nat) (a:Addr) (w:World) (vs:List Value) (acc:Array Value),cellsFrom w.heap a i n=some vs→(loadCellsFrom a i n acc).run P w= .ok (acc ++ vs.toArray) w
 | 0,i,a,w,vs,acc,h=>by simp [cellsFrom] at h; simp [loadCellsFrom,h]
 | n + 1,i,a,w,vs,acc,h=>by
   simp only [cellsFrom] at h
   split at h
   ·rename_i v vs' h1 h2
    simp at h; subst h
    have:w.cell? (a.add i)=some v:=h1
    simp only [loadCellsFrom,Sem.run_bind,run_load,this,Result.andThen_ok,run_cellsFrom n (i + 1) a w vs' _ h2]
    simp
   ·simp at h
theorem run_cells {n:Nat} {a:Addr} {w:World} {vs:List Value} (h:cellsFrom w.heap a 0 n=some vs):(loadCells a n).run P w= .ok vs.toArray w:=by
 simp [loadCells,run_cellsFrom n 0 a w vs #[] h]
theorem run_ld {t:TypeId} {a:Addr} {w:World} {v:Value} {sz:Option Nat} (hsz:sz=none∧isAggB P t=some false∨∃ n,sz=some n∧isAggB P t=some true∧sizeOfB P t=some n)
 (h:ldV w.heap sz a=some v):(loadVar t a).run P w= .ok v w:=by
 rcases hsz with ⟨rfl,ha⟩ | ⟨n,rfl,ha,hn⟩
 ·simp only [ldV] at h
  have:w.cell? a=some v:=h
  simp [loadVar,run_isAgg ha,this]
 ·simp only [ldV] at h
  split at h
  ·rename_i vs hvs
   simp at h; subst h
   simp [loadVar,run_isAgg ha,run_size hn,run_cells hvs]
  ·simp at h
theorem run_sto:∀ (vs:List Value) (i:Nat) (a:Addr) (w:World) (R:Heap→Prop),Sto w.heap a vs i R→∃ w',(storeCells a vs i).run P w= .ok () w'∧R w'.heap∧Same w w'
 | [],i,a,w,R,h=>⟨w,by simp [storeCells],h,Same.refl w⟩
 | v :: vs,i,a,w,R,h=>by
   obtain ⟨h1,⟨u,h2⟩,h3,h4⟩:=h
   obtain ⟨w',e,hR,hs⟩:=run_sto vs (i + 1) a (w.setCell (a.add i) v) R h4
   refine ⟨w',?_,hR,⟨hs.os,hs.tape,hs.output⟩⟩
   have e2:w.cell? (a.add i)=some u:=h2
   have e3:w.frozen? (a.add i)=false:=h3
   simp only [storeCells,Sem.run_bind,run_store P w _ v _ h1,e2,e3,Bool.false_eq_true,if_false,Result.andThen_ok,e]
theorem run_bytes:∀ (n i:Nat) (a:Addr) (w:World) (l:List UInt8),bytesFrom w.heap a i n=some l→∃ ns:List Int,cellsFrom w.heap a i n=some (ns.map (Value.int .u8))∧ns.map (fun m=>UInt8.ofNat m.toNat)=l
 | 0,i,a,w,l,h=>by simp [bytesFrom] at h; subst h; exact ⟨[],rfl,rfl⟩
 | n + 1,i,a,w,l,h=>by
   simp only [bytesFrom] at h
   split at h
   ·rename_i m r h1 h2
    simp at h; subst h
    obtain ⟨ns,e1,e2⟩:=run_bytes n (i + 1) a w r h2
    exact ⟨m :: ns,by simp [cellsFrom,h1,e1],by simp [e2]⟩
   ·simp at h
theorem run_b2s {w:World} {x v:Value} (h:b2sN w.heap (some x)=some v):(Conv.bytesToString x).run P w= .ok v w:=by
 unfold b2sN at h
 split at h
 ·rename_i e; simp at e h; subst e; subst h; simp [Conv.bytesToString]; rfl
 ·rename_i a n c e
  simp at e; subst e
  split at h
  ·rename_i l hl
   simp at h; subst h
   obtain ⟨ns,e1,e2⟩:=run_bytes n 0 a w l hl
   rw [run_bytesToString w a n c ns (run_cells e1),foldl_push_bytes]
   simp [ByteArray.empty,ByteArray.emptyWithCapacity,e2]
   rfl
  ·simp at h
 ·simp at h
theorem run_callFunc {f:Nat} (hb:hasBody P f=true) (args:Array Value) (w:World):(callFunc f args).run P w= .ok (.enter f args) w:=by
 unfold hasBody at hb
 split at hb
 ·rename_i fn hf
  simp only [Bool.and_eq_true,Bool.not_eq_true'] at hb
  have n1:¬ fn.name= "runtime.NumGoroutine":=by simpa using hb.2
  have n2:¬ fn.body=none:=by intro e; simp [e] at hb
  simp [callFunc,hf,n1,n2]
 ·simp at hb
theorem zeroOffs_spec {size:Nat}:∀ {parts:List (Nat × Operand)},(zeroOffs size parts).length=parts.length∧∀ (j i:Nat) (x:Operand),parts[j]?=some (i,x)→(zeroOffs size parts)[j]?=some (i * size,size,x)
 | []=>⟨rfl,fun j i x hj=>by simp at hj⟩
 | (i,x) :: r=>by
   obtain ⟨hl,ih⟩:=zeroOffs_spec (size:=size) (parts:=r)
   refine ⟨by simp [zeroOffs,hl],fun j i' x' hj=>?_⟩
   cases j with
   | zero=>simp at hj; obtain ⟨rfl,rfl⟩:=hj; rfl
   | succ j=>simpa [zeroOffs] using ih j i' x' (by simpa using hj)
theorem zeroRow_eq (z:List Value) (hz:0 < z.length):∀ n,zeroRow z n=(List.range (n * z.length)).map (fun i=>z[i % z.length]!)
 | 0=>by simp [zeroRow]
 | n + 1=>by
   rw [zeroRow,zeroRow_eq z hz n,Nat.add_mul,Nat.one_mul,Nat.add_comm (n * z.length),List.range_add,List.map_append]
   congr 1
   ·apply List.ext_getElem
    ·simp
    ·intro i h1 h2
     simp only [List.getElem_map,List.getElem_range]
     rw [Nat.mod_eq_of_lt h1]
     simp [h1]
   ·simp [Function.comp_def]
theorem call_ok {f:Nat} {args:Array Value} {H:Heap} {R:Value→Heap→Prop} {E:Chain→Heap→Prop} (h:PCalls P f args H R E) {s:Sem Next} (hs:∀ w:World,w.heap=H→s.run P w= .ok (.enter f args) w) :
 ∀ w:World,w.heap=H→match s.run P w with
 | .ok (.value v) w'=>R v w'.heap∧Same w w'
 | .ok .skip w'=>R undef w'.heap∧Same w w'
 | .ok (.enter f args) w'=>Calls P f args w' (EndH R E w)
 | .halt (.panic v) w'=>E [{ v,recovered:=false }] w'.heap∧Same w w'
 | _=>False:=by
 intro w hw
 rw [hs w hw]
 exact h w hw
theorem val_ok {o:Oper} {ev:Operand→Value} {H:Heap} {R:Value→Heap→Prop} {E:Chain→Heap→Prop} (v:Value) (hR:R v H) (h:∀ w:World,w.heap=H→(execOp ev o).run P w= .ok (.value v) w):OpOk P E o ev H R:=
 OpVal.ok (v:=v) h hR
theorem new_ok {o:Oper} {ev:Operand→Value} {H:Heap} {R:Value→Heap→Prop} {E:Chain→Heap→Prop} (v:Value) (ob:Obj) (hR:R v (H.push ob)) (h:∀ w:World,w.heap=H→∃ w',(execOp ev o).run P w= .ok (.value v) w'∧w'.heap=H.push ob∧Same w w'):OpOk P E o ev H R:=by
 intro w hw
 obtain ⟨w',e,e2,e3⟩:=h w hw
 rw [e]
 exact ⟨e2 ▸ hR,e3⟩
theorem stripOp_ok {o:Oper} {ev:Operand→Option Value} {a:Act} {s:SOp Operand} {H:Heap} {R:Value→Heap→Prop} {E:Chain→Heap→Prop} (hs:stripOp P o=some s) (hf:Agree ev a)
 (hv:s.vc P E ev H R):OpOk P E o a.eval H R:=by
 unfold stripOp at hs
 split at hs
 ·rename_i e he
  simp at hs; subst hs
  simp only [SOp.vc,vN] at hv
  split at hv
  ·rename_i p v hval
   exact val_ok v hv.2 fun w _=>stripPE_ok he hf hval hv.1 w
  ·exact hv.elim
 ·split at hs
  case h_1 t x ho=>-- load
   have key:∀ sz,(sz=none∧isAggB P t=some false∨∃ n,sz=some n∧isAggB P t=some true∧sizeOfB P t=some n)→(SOp.ld sz x).vc P E ev H R→OpOk P E o a.eval H R:=by
    intro sz hsz hv
    simp only [SOp.vc,rdN] at hv
    split at hv
    ·rename_i v hld
     unfold ldN at hld
     split at hld
     ·rename_i ad hx
      refine val_ok v hv fun w hw=>?_
      simp [execOp,ho,hf.ev hx,Instr.loadAt,Instr.sureAddr,run_ld hsz (hw ▸ hld)]
     ·simp at hld
    ·exact hv.elim
   split at hs
   ·rename_i hag; simp at hs; subst hs; exact key none (.inl ⟨rfl,hag⟩) hv
   ·rename_i hag
    simp only [Option.map_eq_some_iff] at hs
    obtain ⟨k,hk,rfl⟩:=hs
    exact key (some k) (.inr ⟨k,rfl,hag,hk⟩) hv
   ·simp at hs
  case h_2 t ad x ho=>-- store
   simp only [Option.map_eq_some_iff] at hs
   obtain ⟨k,hk,rfl⟩:=hs
   simp only [SOp.vc,stN] at hv
   split at hv
   ·rename_i p v h1 h2
    intro w hw
    obtain ⟨w',e,hR,hsm⟩:=run_sto (P:=P) v.cells.toList 0 p w (R undef) (hw ▸ hv.2)
    have e':(storeCells p v.cells.toList).run P w= .ok () w':=e
    have:(execOp a.eval o).run P w= .ok .skip w':=by
     simp [execOp,ho,hf.ev h1,hf.ev h2,Instr.storeAt,Instr.sureAddr,storeVar,run_size hk,hv.1,e']
    rw [this]
    exact ⟨hR,hsm⟩
   ·exact hv.elim
  case h_3 t ho=>-- alloc
   simp only [Option.map_eq_some_iff] at hs
   obtain ⟨z,hz,rfl⟩:=hs
   refine new_ok _ _ hv fun w hw=>⟨w.alloc (.cells z.cells t),?_,?_,⟨rfl,rfl,rfl⟩⟩
   ·subst hw; simp [execOp,ho,Instr.alloc,run_zero hz,newVar,newRow]
   ·subst hw; rfl
  case h_4 t x ho=>-- box
   simp at hs; subst hs
   simp only [SOp.vc,bxN] at hv
   split at hv
   ·rename_i v h1
    refine new_ok _ _ hv fun w hw=>⟨w.alloc (.cells v.cells t),?_,?_,⟨rfl,rfl,rfl⟩⟩
    ·subst hw; simp [execOp,ho,hf.ev h1,Instr.box,newVar,newRow]
    ·subst hw; rfl
   ·exact hv.elim
  case h_5 t k parts ho=>-- buildSlice
   split at hs
   ·rename_i el hu
    split at hs
    ·rename_i sz z hsz hz
     split at hs
     ·rename_i hc
      simp at hs; subst hs
      simp only [SOp.vc,bsN] at hv
      split at hv
      ·rename_i qs hq
       split at hv
       ·rename_i cs hcs
        obtain ⟨hl1,h1⟩:=zeroOffs_spec (size:=sz) (parts:=parts.toList)
        obtain ⟨hl2,h2⟩:=parts_spec hq
        have hzl:z.cells.toList.length=sz:=by simpa using hc.1
        have hfill:=fill_ok (fun i=>some (i * sz,sz)) (parts.toList.map fun (i,x)=>(i,a.eval x)) qs _ cs (by simp [hl1,hl2])
         (fun j i v hj=>by
          simp only [List.getElem?_map,Option.map_eq_some_iff,Prod.mk.injEq] at hj
          obtain ⟨⟨i',x⟩,hp,rfl,rfl⟩:=hj
          obtain ⟨v,hv1,hv2⟩:=h2 j _ _ _ (h1 j i' x hp)
          exact ⟨_,_,rfl,by rw [hv2]; simp [hf.ev hv1]⟩) hcs
        have hrow:(zeroRow z.cells.toList k).toArray=(Array.range (k * sz)).map (fun i=>z.cells[i % z.cells.size]!):=by
         rw [zeroRow_eq _ (by omega)]
         apply Array.toList_inj.1
         rw [hzl]
         simp [hc.1]
         intro a _
         rw [getElem!_def]
         cases z.cells[a % sz]? <;> rfl
        refine new_ok _ _ hv fun w hw=>⟨w.alloc (.cells cs.toArray el),?_,by subst hw; rfl,⟨rfl,rfl,rfl⟩⟩
        subst hw
        have hn:¬ k * sz > 2 ^ 24:=by omega
        by_cases h0:k * sz=0
        ·have hk0:k=0:=by
          rcases Nat.mul_eq_zero.1 h0 with h | h
          ·exact h
          ·omega
         subst hk0
         simp only [zeroRow] at hfill
         have e0:(Array.map (fun x=>(#[]:Array Value)[x % (#[]:Array Value).size]!) (Array.range 0))=#[]:=by apply Array.toList_inj.1; simp
         simp only [execOp,ho,Instr.buildSlice,run_underlying hu,run_size hsz,Nat.zero_mul,show ¬ (0 > 2 ^ 24) from by omega,newRow,Sem.run_bind,Result.andThen_ok,if_true,if_false,Sem.run_pure,Array.toList_map,e0]
         rw [hfill]
         rfl
        ·rw [hrow] at hfill
         simp only [execOp,ho,Instr.buildSlice,run_underlying hu,run_size hsz,hn,h0,run_zero hz,newRow,Sem.run_bind,Result.andThen_ok,if_false,Sem.run_pure,Array.toList_map]
         rw [hfill]
         rfl
       ·exact hv.elim
      ·exact hv.elim
     ·simp at hs
    ·simp at hs
   ·simp at hs
  case h_6 src dst x ho=>-- convert
   split at hs
   ·rename_i el h1 h2
    split at hs
    ·rename_i h3
     simp at hs; subst hs
     simp only [SOp.vc,rdN] at hv
     split at hv
     ·rename_i v hb
      refine val_ok v hv fun w hw=>?_
      cases hx:ev x with
      | none=>rw [hx] at hb; simp [b2sN] at hb
      | some u=>
        rw [hx] at hb
        have hr:=run_b2s (P:=P) (hw ▸ hb)
        cases u with
        | slice ad l c=>simp [execOp,ho,hf.ev hx,run_convert_bytes_string w src dst el ad l c h1 h3 h2,hr]
        | _=>simp [b2sN] at hb
     ·exact hv.elim
    ·simp at hs
   ·rename_i el h1 h2
    split at hs
    ·rename_i h3
     simp at hs; subst hs
     simp only [SOp.vc,s2bN] at hv
     split at hv
     ·rename_i str hx
      intro w hw
      have hr:=run_bytes_of_string (P:=P) w src dst el str h1 h2 h3
      have:(execOp a.eval o).run P w= .ok (.value (.slice (some ⟨w.heap.size,0,none⟩) str.size (grownCap w str.size 0 el))) (w.drew.alloc (.cells (bytesRow str (grownCap w str.size 0 el)) el ((bytesRow str (grownCap w str.size 0 el)).size,(bytesRow str (grownCap w str.size 0 el)).size + 1))):=by
       simp [execOp,ho,hf.ev hx,hr]
      rw [this]
      have:=hv (grownCap w str.size 0 el) (grownCap_ge _ _ _ _)
      subst hw
      exact ⟨this,⟨rfl,rfl,rfl⟩⟩
     ·exact hv.elim
    ·simp at hs
   ·rename_i el' el h1 h2
    split at hs
    ·rename_i h3
     split at hs
     ·rename_i hc
      simp at hs; subst hs
      simp only [SOp.vc,mksN] at hv
      split at hv
      ·rename_i ad n c hx
       obtain ⟨cc,ee,ff,hb,hR⟩:=hv
       intro w hw
       have hsh:w.shape? ad.block=some (ee,cc.size):=by
        unfold World.shape?; rw [hw,hb]
       have:(execOp a.eval o).run P w= .ok (.value (.slice (some ad) n c)) (w.freeze ⟨ad.block,cc.size,none⟩ 1):=by
        subst hc
        rw [h1] at h2; cases h2
        simp [execOp,ho,hf.ev hx,convert,run_underlying h1,run_underlying h3,markStringish,hsh]
       rw [this]
       have e:(w.freeze ⟨ad.block,cc.size,none⟩ 1).heap=frzH H ad.block cc.size:=by
        subst hw; rfl
       refine ⟨by rw [e]; exact hR,⟨rfl,rfl,rfl⟩⟩
      ·exact hv.elim
     ·simp at hs
    ·simp at hs
   ·simp at hs
  case h_7 t l c ho=>-- makeSlice
   split at hs
   ·rename_i el hu
    split at hs
    ·rename_i sz z b hsz hz hb
     split at hs
     ·simp at hs; subst hs
      simp only [SOp.vc,mkN] at hv
      split at hv
      ·rename_i lv cv h1 h2
       obtain ⟨g1,g2,g3,g4,g5⟩:=hv
       simp only [zeroOf,Option.bind_eq_some_iff] at hz
       obtain ⟨i,hi,hz⟩:=hz
       simp only [sizeOfB,hi,Option.map_some,Option.some.injEq] at hsz hb
       refine new_ok _ _ g5 fun w hw=>⟨w.alloc (.cells (madeCells z.cells (cv.toNat * sz)) el),?_,by subst hw; rfl,⟨rfl,rfl,rfl⟩⟩
       subst hw
       simp [execOp,ho,hf.ev h1,hf.ev h2,run_make w t el i z hu hi hz .i64 .i64 lv cv g1 g2 (by rw [hb]; exact g4) g3,hsz]
      ·exact hv.elim
     ·simp at hs
    ·simp at hs
   ·simp at hs
  case h_8 args argTypes ho=>-- append
   split at hs
   ·rename_i t t' x y ht hx
    simp at hs; subst hs
    simp only [SOp.vc,apN] at hv
    split at hv
    ·rename_i s' x' h1 h2
     intro w hw
     obtain ⟨v,w',e,hR,hsm⟩:=hv w hw
     have e1:argTypes=#[t,t']:=Array.toList_inj.1 ht
     have e2:args=#[x,y]:=Array.toList_inj.1 hx
     have e3:(Builtin.append_ #[t,t'] o.type #[s',x']).run P w= .ok v w':=e
     have:(execOp a.eval o).run P w= .ok (.value v) w':=by
      simp [execOp,ho,e1,e2,resolve,invoke,builtin,hf.ev h1,hf.ev h2,e3]
     rw [this]
     exact ⟨hR,hsm⟩
    ·exact hv.elim
   ·simp at hs
  case h_9 f args argTypes ho=>-- call
   split at hs
   ·rename_i hb
    simp at hs; subst hs
    simp only [SOp.vc,callN] at hv
    split at hv
    ·rename_i vs he
     exact call_ok hv fun w _=>by
      simp [execOp,ho,resolve,Act.eval,Deferred.ofValue,invoke,evs_some hf he,run_callFunc hb]
    ·exact hv.elim
   ·simp at hs
  case h_10 f args argTypes _ ho=>-- a function value
   simp at hs; subst hs
   simp only [SOp.vc,cvN] at hv
   split at hv
   ·rename_i g first caps vs h1 h2
    obtain ⟨hb,hv⟩:=hv
    exact call_ok hv fun w _=>by
     simp [execOp,ho,resolve,hf.ev h1,Deferred.ofValue,invoke,evs_some hf h2,run_callFunc hb]
   ·exact hv.elim
  case h_11 x ho=>-- panic
   simp at hs; subst hs
   simp only [SOp.vc,pncN] at hv
   split at hv
   ·rename_i t v h1
    intro w hw
    have:(execOp a.eval o).run P w= .halt (.panic (.iface t v)) w:=by
     simp [execOp,ho,hf.ev h1,Instr.panic,goPanic]
    rw [this]
    exact ⟨hw ▸ hv,Same.refl _⟩
   ·exact hv.elim
  case h_12 t ho=>-- makeMap
   simp at hs; subst hs
   refine new_ok _ _ hv fun w hw=>⟨w.alloc (.map #[] 0),?_,by subst hw; rfl,⟨rfl,rfl,rfl⟩⟩
   subst hw
   simp [execOp,ho,Instr.makeMap]
  case h_13 t m k x ho=>-- insert
   split at hs
   ·rename_i kt el hu
    split at hs
    ·rename_i hk
     simp at hs; subst hs
     simp only [SOp.vc,insN] at hv
     split at hv
     ·rename_i r s v h1 h2 h3
      obtain ⟨es,c,hb,hfn,hR⟩:=hv
      intro w hw
      subst hw
      have:(execOp a.eval o).run P w= .ok .skip { w with heap:=w.heap.setIfInBounds r (.map (es.push ⟨.string s,v,c⟩) (c + 1)) }:=by
       simp [execOp,ho,hf.ev h1,hf.ev h2,hf.ev h3,Instr.mapUpdate,run_underlying hu,MapKept.run_getObj_map hb,MapKept.run_checkKey hk (show MapKept.IsKey .string (.string s) from trivial),MapKept.run_findKey hk hfn,MapKept.run_setObj_map _ hb]
      rw [this]
      exact ⟨hR,⟨rfl,rfl,rfl⟩⟩
     ·exact hv.elim
    ·rename_i kd hk
     simp at hs; subst hs
     simp only [SOp.vc,iniN] at hv
     split at hv
     ·rename_i r kd' s v h1 h2 h3
      obtain ⟨rfl,es,c,hb,hfn,hR⟩:=hv
      intro w hw
      subst hw
      have:(execOp a.eval o).run P w= .ok .skip { w with heap:=w.heap.setIfInBounds r (.map (es.push ⟨.int kd' s,v,c⟩) (c + 1)) }:=by
       simp [execOp,ho,hf.ev h1,hf.ev h2,hf.ev h3,Instr.mapUpdate,run_underlying hu,MapKept.run_getObj_map hb,MapKept.run_checkKey hk (show MapKept.IsKey (.int kd') (.int kd' s) from rfl),MapKept.run_findKey hk hfn,MapKept.run_setObj_map _ hb]
      rw [this]
      exact ⟨hR,⟨rfl,rfl,rfl⟩⟩
     ·exact hv.elim
    ·simp at hs
   ·simp at hs
  case h_14 t m k ho=>-- lookup
   split at hs
   ·rename_i kt el hu
    split at hs
    ·rename_i z hk hz
     simp at hs; subst hs
     simp only [SOp.vc,lkpN] at hv
     split at hv
     ·rename_i r s h1 h2
      obtain ⟨es,c,hb,hv⟩:=hv
      rcases hv with ⟨i,v,hfn,hR⟩ | ⟨hfn,hR⟩
      ·refine val_ok v hR fun w hw=>?_
       subst hw
       simp [execOp,ho,hf.ev h1,hf.ev h2,Instr.lookup,run_underlying hu,MapKept.run_getObj_map hb,MapKept.run_checkKey hk (show MapKept.IsKey .string (.string s) from trivial),MapKept.run_findKey hk hfn]
      ·refine val_ok z hR fun w hw=>?_
       subst hw
       simp [execOp,ho,hf.ev h1,hf.ev h2,Instr.lookup,run_underlying hu,MapKept.run_getObj_map hb,MapKept.run_checkKey hk (show MapKept.IsKey .string (.string s) from trivial),MapKept.run_findKey hk hfn,run_zero hz]
     ·exact hv.elim
    ·rename_i kd z hk hz
     simp at hs; subst hs
     simp only [SOp.vc,lkiN] at hv
     split at hv
     ·rename_i r kd' s h1 h2
      obtain ⟨rfl,es,c,hb,hv⟩:=hv
      rcases hv with ⟨i,v,hfn,hR⟩ | ⟨hfn,hR⟩
      ·refine val_ok v hR fun w hw=>?_
       subst hw
       simp [execOp,ho,hf.ev h1,hf.ev h2,Instr.lookup,run_underlying hu,MapKept.run_getObj_map hb,MapKept.run_checkKey hk (show MapKept.IsKey (.int kd') (.int kd' s) from rfl),MapKept.run_findKey hk hfn]
      ·refine val_ok z hR fun w hw=>?_
       subst hw
       simp [execOp,ho,hf.ev h1,hf.ev h2,Instr.lookup,run_underlying hu,MapKept.run_getObj_map hb,MapKept.run_checkKey hk (show MapKept.IsKey (.int kd') (.int kd' s) from rfl),MapKept.run_findKey hk hfn,run_zero hz]
     ·exact hv.elim
    ·simp at hs
   ·simp at hs
  case h_15=>simp at hs
end
end Gx
end
section
namespace Gx
open Go
inductive Opd where
 | t (k:Nat)
 | s (k:Nat)
 | c (v:Value)
 | g (n:Nat)
 | f (n:Nat)
 | u
abbrev Slots:=List (Option Value)
def jn:Option (Option Value)→Option Value
 | some x=>x
 | none=>none
def evO (σ:Slots) (τ:List Value):Opd→Option Value
 | .t k=>τ.toArray[k]?
 | .s k=>jn (σ.toArray[k]?)
 | .c v=>some v
 | .g n=>some (.pointer (some ⟨n,0,none⟩))
 | .f n=>some (.func (.func n) #[] #[])
 | .u=>none
def posOf:List Nat→Nat→Option Nat
 | [],_=>none
 | x :: r,t=>if x=t then some 0 else match posOf r t with
   | some k=>some (k + 1)
   | none=>none
def cO (keep lay:List Nat):Operand→Opd
 | .tmp t=>match posOf keep t with
   | some k=>.s k
   | none=>match posOf lay t with
     | some k=>.t k
     | none=>.u
 | .const v=>.c v
 | .global g=>.g g
 | .func f=>.f f
section
variable {O O':Type}
def PE.map (m:O→O'):PE O→PE O'
 | .mv x=>.mv (m x)
 | .pick c a b=>.pick (m c) (m a) (m b)
 | .bin op x y=>.bin op (m x) (m y)
 | .beq n x y=>.beq n (m x) (m y)
 | .steq n ks x y=>.steq n ks (m x) (m y)
 | .isnil n x=>.isnil n (m x)
 | .isnils n x=>.isnils n (m x)
 | .un op x=>.un op (m x)
 | .cvi k x=>.cvi k (m x)
 | .cvs x=>.cvs (m x)
 | .fa off x=>.fa off (m x)
 | .ix s x i=>.ix s (m x) (m i)
 | .six x i=>.six (m x) (m i)
 | .sl s x lo hi=>.sl s (m x) (lo.map m) (hi.map m)
 | .ssl x lo hi=>.ssl (m x) (lo.map m) (hi.map m)
 | .len x=>.len (m x)
 | .slen x=>.slen (m x)
 | .fld1 off x=>.fld1 off (m x)
 | .fldA off s x=>.fldA off s (m x)
 | .ext x i=>.ext (m x) i
 | .mm b x y=>.mm b (m x) (m y)
 | .nc x=>.nc (m x)
 | .mkf f first caps=>.mkf f (first.map m) (caps.map m)
 | .mki t x=>.mki t (m x)
 | .isnilf n x=>.isnilf n (m x)
 | .tya t z x=>.tya t z (m x)
 | .tyb t x=>.tyb t (m x)
 | .bld z ps=>.bld z (ps.map fun p=>(p.1,p.2.1,m p.2.2))
 | .ixa s n x i=>.ixa s n (m x) (m i)
 | .ixe s n x i=>.ixe s n (m x) (m i)
def SOp.map (m:O→O'):SOp O→SOp O'
 | .v e=>.v (e.map m)
 | .ld sz x=>.ld sz (m x)
 | .st n a x=>.st n (m a) (m x)
 | .al t z=>.al t z
 | .bx t x=>.bx t (m x)
 | .bs t n z ps=>.bs t n z (ps.map fun p=>(p.1,p.2.1,m p.2.2))
 | .ap t tx s x=>.ap t tx (m s) (m x)
 | .mk t s b z l c=>.mk t s b z (m l) (m c)
 | .call f args=>.call f (args.map m)
 | .cv f args=>.cv (m f) (args.map m)
 | .b2s x=>.b2s (m x)
 | .s2b t x=>.s2b t (m x)
 | .pnc x=>.pnc (m x)
 | .mks x=>.mks (m x)
 | .mm=>.mm
 | .ins a k x=>.ins (m a) (m k) (m x)
 | .lkp z a k=>.lkp z (m a) (m k)
 | .ini kd a k x=>.ini kd (m a) (m k) (m x)
 | .lki kd z a k=>.lki kd z (m a) (m k)
theorem evs_map (m:O→O') (ev:O'→Option Value):∀ xs:List O,evs ev (xs.map m)=evs (fun x=>ev (m x)) xs
 | []=>rfl
 | x :: xs=>by simp only [List.map_cons,evs,evs_map m ev xs]
theorem partsE_map (m:O→O') (ev:O'→Option Value):∀ ps:List (Nat × Nat × O),partsE ev (ps.map fun p=>(p.1,p.2.1,m p.2.2))=partsE (fun x=>ev (m x)) ps
 | []=>rfl
 | (a,b,x) :: ps=>by simp only [List.map_cons,partsE,partsE_map m ev ps]
theorem bnd_map (m:O→O') (ev:O'→Option Value):∀ x:Option O,bnd ev (x.map m)=bnd (fun x=>ev (m x)) x
 | none=>rfl
 | some _=>rfl
theorem val_map (m:O→O') (ev:O'→Option Value) (e:PE O):(e.map m).val ev=e.val (fun x=>ev (m x)):=by
 cases e <;> simp only [PE.map,PE.val,evs_map,partsE_map,bnd_map]
theorem vc_map {P:Program} {E:Chain→Heap→Prop} {H:Heap} {R:Value→Heap→Prop} (m:O→O') (ev:O'→Option Value) (s:SOp O):(s.map m).vc P E ev H R=s.vc P E (fun x=>ev (m x)) H R:=by
 cases s <;> simp only [SOp.map,SOp.vc,val_map,evs_map,partsE_map]
def SOp.reads:SOp O→Bool
 | .v _ | .ld _ _ | .b2s _=>true
 | _=>false
def SOp.rd (ev:O→Option Value) (H:Heap):SOp O→Option (Prop × Value)
 | .v e=>e.val ev
 | .ld sz x=>mvN (ldN H sz (ev x))
 | .b2s x=>mvN (b2sN H (ev x))
 | _=>none
theorem rd_map {H:Heap} (m:O→O') (ev:O'→Option Value) (s:SOp O):(s.map m).rd ev H=s.rd (fun x=>ev (m x)) H:=by
 cases s <;> simp only [SOp.map,SOp.rd,val_map]
def SOp.total:SOp O→Bool
 | .v (.mv _) | .v (.un _ _) | .v (.cvi _ _) | .v (.cvs _) | .v (.len _) | .v (.slen _) | .v (.beq _ _ _) | .v (.fa _ _) | .v (.nc _) | .v (.fld1 _ _) | .v (.fldA _ _ _) | .ld _ _=>true
 | .v (.bin op _ _)=>match op with | .quo | .rem | .shl | .shr=>false | _=>true
 | _=>false
end
inductive Dst where
 | no
 | t
 | s (k:Nat)
def cD (keep:List Nat):Option Nat→Dst
 | none=>.no
 | some d=>match posOf keep d with
   | some k=>.s k
   | none=>.t
def layD (keep lay:List Nat):Option Nat→List Nat
 | none=>lay
 | some d=>match posOf keep d with
   | some _=>lay
   | none=>d :: lay
def putS (d:Dst) (v:Value) (σ:Slots):Slots:=
 match d with
 | .s k=>σ.set k (some v)
 | _=>σ
def putT (d:Dst) (v:Value) (τ:List Value):List Value:=
 match d with
 | .t=>v :: τ
 | _=>τ
def setS (x:Opd) (v:Value) (σ:Slots):Slots:=
 match x with
 | .s k=>σ.set k (some v)
 | _=>σ
def setT (x:Opd) (v:Value) (τ:List Value):List Value:=
 match x with
 | .t k=>τ.set k v
 | _=>τ
def gS (first:Bool) (x:Opd) (v:Value) (σ:Slots):Slots:=bif first then setS x v σ else σ
def gT (first:Bool) (x:Opd) (v:Value) (τ:List Value):List Value:=bif first then setT x v τ else τ
inductive In where
 | op (s:SOp Opd)
 | nst (t:Opd) (b:Bool) (inner:List In) (x y:Opd)
def selN:Option Value→Option Value→Option Value→Option Value
 | some (.bool c),some (.bool a),some (.bool b)=>some (.bool (bif c then a else b))
 | _,_,_=>none
def selV (σ:Slots) (τ:List Value) (t:Opd) (b:Bool) (x y:Opd):Option (Prop × List Value)→Option (Prop × Value)
 | some (p,τ')=>match evO σ τ t,selN (evO σ τ t) (evO σ (if b then τ' else τ) x) (evO σ (if b then τ else τ') y) with
   | some (.bool c),some v=>some ((c=b→p),v)
   | _,_=>none
 | none=>match evO σ τ t,evO σ τ (if b then y else x) with
   | some (.bool c),some (.bool v)=>some ((c= !b),.bool v)
   | _,_=>none
def inPush (v:Option (Prop × Value)) (τ:List Value):Option (Prop × List Value):=
 match v with
 | some (p,v)=>some (p,v :: τ)
 | none=>none
def inThen (f:List Value→Option (Prop × List Value)):Option (Prop × List Value)→Option (Prop × List Value)
 | some (p,τ')=>match f τ' with
   | some (q,τ'')=>some (p∧q,τ'')
   | none=>none
 | none=>none
mutual
def inE (H:Heap) (σ:Slots):In→List Value→Option (Prop × List Value)
 | .op s,τ=>inPush (s.rd (evO σ τ) H) τ
 | .nst t b inner x y,τ=>inPush (selV σ τ t b x y (innerE H σ inner τ)) τ
def innerE (H:Heap) (σ:Slots):List In→List Value→Option (Prop × List Value)
 | [],τ=>some (True,τ)
 | i :: r,τ=>inThen (fun τ'=>innerE H σ r τ') (inE H σ i τ)
end
inductive GOp where
 | op (g:Option (Opd × Bool × Bool)) (d:Dst) (s:SOp Opd)
 | sel (t:Opd) (b:Bool) (inner:List In) (d:Dst) (x y:Opd)
def guardOf:Option Value→Option (Option Bool)
 | some (.bool c)=>some (some c)
 | some (.tuple vs)=>if vs.isEmpty then some none else none
 | _=>none
def vcOps (P:Program) (E:Chain→Heap→Prop):List GOp→Slots→List Value→Heap→(Slots→Heap→Prop)→Prop
 | [],σ,_,H,K=>K σ H
 | .op none d s :: r,σ,τ,H,K=>s.vc P E (evO σ τ) H (fun v H'=>vcOps P E r (putS d v σ) (putT d v τ) H' K)
 | .op (some (t,b,fr)) d s :: r,σ,τ,H,K=>
   match guardOf (evO σ τ t) with
   | some (some c)=>(c=b→s.vc P E (evO (gS fr t (.bool b) σ) (gT fr t (.bool b) τ)) H (fun v H'=>vcOps P E r (putS d v (gS fr t (.bool b) σ)) (putT d v (gT fr t (.bool b) τ)) H' K))∧
    (c=(!b)→vcOps P E r (putS d undef (gS fr t (.bool (!b)) σ)) (putT d undef (gT fr t (.bool (!b)) τ)) H K)
   | some none=>vcOps P E r (putS d undef σ) (putT d undef τ) H K
   | none=>False
 | .sel t b inner d x y :: r,σ,τ,H,K=>vN H (fun v H'=>vcOps P E r (putS d v σ) (putT d v τ) H' K) (selV σ τ t b x y (innerE H σ inner τ))
structure Sense (P:Program) (E:Chain→Heap→Prop) where
 good:Oper→(Operand→Value)→Heap→(Value→Heap→Prop)→Prop
 allow:SOp Operand→Bool
 mono:∀ {o ev H} {R R':Value→Heap→Prop},good o ev H R→(∀ v H',R v H'→R' v H')→good o ev H R'
 ok:∀ {o s} {ev:Operand→Option Value} {a:Act} {H:Heap} {R:Value→Heap→Prop},stripOp P o=some s→allow s=true→Agree ev a→s.vc P E ev H R→good o a.eval H R
 ofVal:∀ {o ev H v} {R:Value→Heap→Prop},OpVal P o ev H v→R v H→good o ev H R
def RunL {P:Program} {E:Chain→Heap→Prop} (S:Sense P E) (ops:Array Oper) (Q:Act→Heap→Prop):List Oper→Act→Heap→Prop
 | [],a,H=>Q a H
 | o :: r,a,H=>if Region.wanted o (yielded ops a.tmps) then S.good o a.eval H (fun v H'=>RunL S ops Q r (a.put o.dst v) H') else RunL S ops Q r (a.put o.dst undef) H
def Sense.all (P:Program) (E:Chain→Heap→Prop):Sense P E where
 good:=OpOk P E
 allow:=fun _=>true
 mono:=OpOk.mono
 ok:=fun h _ hf hv=>stripOp_ok h hf hv
 ofVal:=OpVal.ok
def guardSlot (ops:List Oper):Option (Nat × Bool)→Option (Option (Nat × Bool))
 | none=>some none
 | some (j,b)=>match ops[j]? with
   | some o=>match o.dst with
     | some d=>some (some (d,b))
     | none=>none
   | none=>none
structure Nx where
 n:Nat
 fx:List Nat
structure DD where
 defers:List Deferred
 fix:Nat→Value
def dstOk (n:Nx):Option Nat→Bool
 | some d=>decide (d < n.n) && !n.fx.elem d
 | none=>true
def Fixed (n:Nx) (dd:DD) (a:Act):Prop:=a.defers=dd.defers∧∀ t,t ∈ n.fx→a.tmps[t]?=some (dd.fix t)
theorem dstOk_lt {n:Nx} {d:Nat} (h:dstOk n (some d)=true):d < n.n:=by
 simp only [dstOk,Bool.and_eq_true,decide_eq_true_eq] at h; exact h.1
theorem dstOk_ne {n:Nx} {d t:Nat} (h:dstOk n (some d)=true) (ht:t ∈ n.fx):d≠t:=by
 rintro rfl
 simp only [dstOk,Bool.and_eq_true,Bool.not_eq_true'] at h
 have:=h.2
 simp only [List.elem_eq_contains,List.contains_eq_mem,decide_eq_false_iff_not] at this
 exact this ht
theorem put_fx {n:Nx} {d:Option Nat} (h:dstOk n d=true) (v:Value) (a:Act) {t:Nat} (ht:t ∈ n.fx):(a.put d v).tmps[t]?=a.tmps[t]?:=by
 cases d with
 | none=>rfl
 | some d=>simp [Act.put,Array.getElem?_setIfInBounds_ne (dstOk_ne h ht)]
theorem put_defers (a:Act) (d:Option Nat) (v:Value):(a.put d v).defers=a.defers:=by cases d <;> rfl
theorem Fixed.put {n:Nx} {dd:DD} {a:Act} (h:Fixed n dd a) {d:Option Nat} (hd:dstOk n d=true) (v:Value):Fixed n dd (a.put d v):=
 ⟨(put_defers _ _ _).trans h.1,fun t ht=>(put_fx hd v a ht).trans (h.2 t ht)⟩
theorem Fixed.unput {n:Nx} {dd:DD} {a:Act} {d:Option Nat} {v:Value} (h:Fixed n dd (a.put d v)) (hd:dstOk n d=true):Fixed n dd a:=
 ⟨(put_defers _ _ _).symm.trans h.1,fun t ht=>(put_fx hd v a ht).symm.trans (h.2 t ht)⟩
theorem wpList_of_runL {P:Program} {E:Chain→Heap→Prop} {n:Nx} {dd:DD} {ops:Array Oper} {Q:Exit→Act→World→Prop} {Q':Act→Heap→Prop}:∀ (l:List Oper) (a:Act) (w w0:World),Same w0 w→
 Fixed n dd a→(∀ o ∈ l,dstOk n o.dst=true)→(∀ a w',Same w0 w'→Q' a w'.heap→Q .normal a w')→(∀ c a w',Fixed n dd a→Same w0 w'→E c w'.heap→Q (.panic c) a w')→RunL (Sense.all P E) ops Q' l a w.heap→wpList P ops Q l a w
 | [],a,w,w0,hs,hd,hl,h,hE,hr=>h a w hs hr
 | o :: r,a,w,w0,hs,hd,hl,h,hE,hr=>by
   unfold RunL at hr
   unfold wpList
   split
   ·rename_i hw; rw [if_pos hw] at hr
    exact .inl (OpOk.wp hr (fun v w' hR hs'=>wpList_of_runL r _ w' w0 (hs.trans hs') (hd.put (hl o (by simp)) _) (fun q hq=>hl q (by simp [hq])) h hE hR) fun c w' hc hs'=>hE c a w' hd (hs.trans hs') hc)
   ·rename_i hw; rw [if_neg hw] at hr
    exact wpList_of_runL r _ w w0 hs (hd.put (hl o (by simp)) _) (fun q hq=>hl q (by simp [hq])) h hE hr
structure RawG where
 g:Option (Nat × Bool)
 d:Option Nat
 s:SOp Operand
def stripG (P:Program) (n:Nx) (ops:List Oper) (o:Oper):Option RawG:=
 if dstOk n o.dst then
  match guardSlot ops o.guard,stripOp P o with
  | some g,some s=>some ⟨g,o.dst,s⟩
  | _,_=>none
 else none
def known (keep lay:List Nat) (t:Nat):Bool:=(posOf keep t).isSome || (posOf lay t).isSome
structure Grp where
 inner:List In
 d:Nat
 x:Operand
 y:Operand
 lay:List Nat
 rest:List RawG
def consIn (i:In):Option Grp→Option Grp
 | some g=>some { g with inner:=i :: g.inner }
 | none=>none
def asPick (t:Nat) (og:Option (Nat × Bool)) (r:RawG):Option (Nat × Operand × Operand):=
 match r.d,r.s with
 | some d,.v (.pick (.tmp t') x y)=>if t'=t∧r.g=og then some (d,x,y) else none
 | _,_=>none
def asRead (keep lay:List Nat) (t:Nat) (b:Bool) (r:RawG):Option Nat:=
 match r.d with
 | some d=>if r.g=some (t,b)∧known keep lay d=false∧r.s.total=true then some d else none
 | none=>none
def selIn (keep:List Nat):Nat→Nat→Bool→Option (Nat × Bool)→List Nat→List Nat→List RawG→Option Grp
 | 0,_,_,_,_,_,_=>none
 | _ + 1,_,_,_,_,_,[]=>none
 | k + 1,t,b,og,ds,lay,r :: rs=>
   if known keep lay t then
    match asPick t og r with
    | some (d,x,y)=>some ⟨[],d,x,y,lay,rs⟩
    | none=>
      match asRead keep lay t b r with
      | some d=>consIn (.op (r.s.map (cO keep lay))) (selIn keep k t b og (d :: ds) (d :: lay) rs)
      | none=>
        match r.g with
        | some (t',b')=>
          if ds.elem t' then
           match selIn keep k t' b' (some (t,b)) [] lay (r :: rs) with
           | some g=>if known keep lay g.d=false then
            consIn (.nst (cO keep lay (.tmp t')) b' g.inner (cO keep (if b' then g.lay else lay) g.x) (cO keep (if b' then lay else g.lay) g.y)) (selIn keep k t b og (g.d :: ds) (g.d :: lay) g.rest)
            else none
           | none=>none
          else none
        | none=>none
   else none
def comp (keep:List Nat):Nat→Option (Nat × Bool)→List Nat→List RawG→List GOp
 | 0,_,_,_=>[.op none .no (.v (.mv .u))]
 | _ + 1,_,_,[]=>[]
 | k + 1,pg,lay,r :: rs=>
   match r.g with
   | none=>.op none (cD keep r.d) (r.s.map (cO keep lay)) :: comp keep k none (layD keep lay r.d) rs
   | some (t,b)=>
     match (if pg=some (t,b) then none else selIn keep (rs.length + 2) t b none [] lay (r :: rs)) with
     | some g=>.sel (cO keep lay (.tmp t)) b g.inner (cD keep (some g.d)) (cO keep (if b then g.lay else lay) g.x) (cO keep (if b then lay else g.lay) g.y) :: comp keep k none (layD keep lay (some g.d)) g.rest
     | none=>.op (some (cO keep lay (.tmp t),b,!(pg=some (t,b)))) (cD keep r.d) (r.s.map (cO keep lay)) :: comp keep k (some (t,b)) (layD keep lay r.d) rs
end Gx
end
section
namespace Gx
open Go
theorem posOf_get:∀ {l:List Nat} {t k:Nat},posOf l t=some k→l[k]?=some t
 | [],t,k,h=>by simp [posOf] at h
 | x :: r,t,k,h=>by
   simp only [posOf] at h
   split at h
   ·rename_i e; simp at h; subst h; simp [e]
   ·split at h
    ·rename_i j hj; simp at h; subst h; simpa using posOf_get hj
    ·cases h
theorem posOf_inj {l:List Nat} {t t' k:Nat} (h:posOf l t=some k) (h':posOf l t'=some k):t=t':=by
 have h1:=posOf_get h
 have h2:=posOf_get h'
 rw [h1] at h2
 exact Option.some.inj h2
theorem posOf_cons_ne {d t:Nat} {l:List Nat} {k:Nat} (hne:d≠t) (h:posOf (d :: l) t=some k):∃ j,k=j + 1∧posOf l t=some j:=by
 simp only [posOf,if_neg hne] at h
 split at h
 ·rename_i j hj; simp at h; exact ⟨j,h.symm,hj⟩
 ·cases h
structure F2 (n:Nx) (dd:DD) (keep lay:List Nat) (σ:Slots) (τ:List Value) (a:Act):Prop where
 size:a.tmps.size=n.n
 fixd:Fixed n dd a
 slots:∀ t k v,posOf keep t=some k→σ[k]?=some (some v)→a.tmps[t]?=some v
 temps:∀ t k v,posOf keep t=none→posOf lay t=some k→τ[k]?=some v→a.tmps[t]?=some v
section
variable {P:Program} {E:Chain→Heap→Prop} {n:Nx} {dd:DD} {ops:Array Oper} {keep lay:List Nat} {σ:Slots} {τ:List Value} {a a' a'':Act}
theorem F2.tmp (h:F2 n dd keep lay σ τ a) {t:Nat} {v:Value} (hv:evO σ τ (cO keep lay (.tmp t))=some v):a.tmps[t]?=some v:=by
 simp only [cO] at hv
 split at hv
 ·rename_i k hk
  simp only [evO] at hv
  have:σ[k]?=some (some v):=by
   have e:σ.toArray[k]?=σ[k]?:=by simp
   rw [e] at hv
   cases hx:σ[k]? with
   | none=>rw [hx] at hv; simp [jn] at hv
   | some x=>rw [hx] at hv; simp only [jn] at hv; rw [hv]
  exact h.slots t k v hk this
 ·rename_i hk
  split at hv
  ·rename_i k hl
   simp only [evO] at hv
   exact h.temps t k v hk hl (by simpa using hv)
  ·cases hv
theorem F2.agree (h:F2 n dd keep lay σ τ a):Agree (fun x=>evO σ τ (cO keep lay x)) a:=by
 intro x v hv
 cases x with
 | tmp t=>simp [Act.eval,Array.getD_eq_getD_getElem?,h.tmp hv]
 | const u=>simpa [cO,evO,Act.eval] using hv
 | global g=>simpa [cO,evO,Act.eval] using hv
 | func f=>simpa [cO,evO,Act.eval] using hv
theorem put_ne {d t:Nat} {v:Value} (h:d≠t):(a.put (some d) v).tmps[t]?=a.tmps[t]?:=by
 simp [Act.put,Array.getElem?_setIfInBounds_ne h]
theorem put_eq {d:Nat} {v:Value} (h:d < a.tmps.size):(a.put (some d) v).tmps[d]?=some v:=by
 simp [Act.put,h]
theorem F2.put (h:F2 n dd keep lay σ τ a) {d:Option Nat} (hd:dstOk n d=true) (v:Value):F2 n dd keep (layD keep lay d) (putS (cD keep d) v σ) (putT (cD keep d) v τ) (a.put d v):=by
 cases d with
 | none=>exact h
 | some d=>
   have hdn:d < a.tmps.size:=by rw [h.size]; exact dstOk_lt hd
   cases hk:posOf keep d with
   | some k=>
     have e1:cD keep (some d)= .s k:=by simp [cD,hk]
     have e2:layD keep lay (some d)=lay:=by simp [layD,hk]
     rw [e1,e2]
     refine ⟨by simp [Act.put,h.size],h.fixd.put hd v,fun t j u ht hu=>?_,fun t j u ht hj hu=>?_⟩
     ·simp only [putS,List.getElem?_set] at hu
      by_cases e:d=t
      ·subst e
       rw [hk] at ht; cases ht
       simp only [if_true] at hu
       split at hu
       ·simp at hu; subst hu; exact put_eq hdn
       ·cases hu
      ·rw [if_neg (show ¬ k=j from fun q=>e (posOf_inj (q ▸ hk:posOf keep d=some j) ht))] at hu
       rw [put_ne e]; exact h.slots t j u ht hu
     ·have e:d≠t:=by rintro rfl; rw [hk] at ht; cases ht
      rw [put_ne e]; exact h.temps t j u ht hj hu
   | none=>
     have e1:cD keep (some d)= .t:=by simp [cD,hk]
     have e2:layD keep lay (some d)=d :: lay:=by simp [layD,hk]
     rw [e1,e2]
     refine ⟨by simp [Act.put,h.size],h.fixd.put hd v,fun t j u ht hu=>?_,fun t j u ht hj hu=>?_⟩
     ·have e:d≠t:=by rintro rfl; rw [hk] at ht; cases ht
      rw [put_ne e]; exact h.slots t j u ht hu
     ·by_cases e:d=t
      ·subst e
       simp [posOf] at hj; subst hj
       simp [putT] at hu; subst hu
       exact put_eq hdn
      ·obtain ⟨i,rfl,hi⟩:=posOf_cons_ne e hj
       rw [put_ne e]
       exact h.temps t i u ht hi (by simpa [putT] using hu)
theorem F2.gset (h:F2 n dd keep lay σ τ a) {x:Opd} {c:Value} (hx:evO σ τ x=some c) (fr:Bool):F2 n dd keep lay (gS fr x c σ) (gT fr x c τ) a:=by
 cases fr with
 | false=>exact h
 | true=>
   cases x with
   | s k=>
     have hk:σ[k]?=some (some c):=by
      simp only [evO] at hx
      have e:σ.toArray[k]?=σ[k]?:=by simp
      rw [e] at hx
      cases hy:σ[k]? with
      | none=>rw [hy] at hx; simp [jn] at hx
      | some y=>rw [hy] at hx; simp only [jn] at hx; rw [hx]
     refine ⟨h.size,h.fixd,fun t j u ht hu=>?_,h.temps⟩
     simp only [gS,setS,cond_true,List.getElem?_set] at hu
     split at hu
     ·rename_i e; subst e
      split at hu
      ·simp at hu; subst hu; exact h.slots t k c ht hk
      ·cases hu
     ·exact h.slots t j u ht hu
   | t k=>
     have hk:τ[k]?=some c:=by simpa [evO] using hx
     refine ⟨h.size,h.fixd,h.slots,fun t j u ht hj hu=>?_⟩
     simp only [gT,setT,cond_true,List.getElem?_set] at hu
     split at hu
     ·rename_i e; subst e
      split at hu
      ·simp at hu; subst hu; exact h.temps t k c ht hj hk
      ·cases hu
     ·exact h.temps t j u ht hj hu
   | c v=>exact h
   | g m=>exact h
   | f m=>exact h
   | u=>exact h
structure Old (n:Nx) (keep lay:List Nat) (a a':Act):Prop where
 size:a'.tmps.size=a.tmps.size
 defers:a'.defers=a.defers
 fixd:∀ t,t ∈ n.fx→a'.tmps[t]?=a.tmps[t]?
 same:∀ t,known keep lay t=true→a'.tmps[t]?=a.tmps[t]?
theorem Old.refl:Old n keep lay a a:=⟨rfl,rfl,fun _ _=>rfl,fun _ _=>rfl⟩
theorem known_cons {d t:Nat} (h:known keep lay t=true):known keep (d :: lay) t=true:=by
 simp only [known,Bool.or_eq_true] at *
 rcases h with h | h
 ·exact .inl h
 ·right
  simp only [posOf]
  split
  ·rfl
  ·rw [Option.isSome_iff_exists] at h
   obtain ⟨k,hk⟩:=h
   rw [hk]; rfl
theorem Old.trans {d:Nat} (h:Old n keep lay a a') (h':Old n keep (d :: lay) a' a''):Old n keep lay a a'':=
 ⟨h'.size.trans h.size,h'.defers.trans h.defers,fun t ht=>(h'.fixd t ht).trans (h.fixd t ht),fun t ht=>(h'.same t (known_cons ht)).trans (h.same t ht)⟩
theorem Old.trans' (h:Old n keep lay a a') (h':Old n keep lay a' a''):Old n keep lay a a'':=
 ⟨h'.size.trans h.size,h'.defers.trans h.defers,fun t ht=>(h'.fixd t ht).trans (h.fixd t ht),fun t ht=>(h'.same t ht).trans (h.same t ht)⟩
theorem Old.put {d:Nat} {v:Value} (hdn:dstOk n (some d)=true) (hd:known keep lay d=false):Old n keep lay a (a.put (some d) v):=
 ⟨by simp [Act.put],by simp [Act.put],fun t ht=>put_fx hdn v a ht,fun t ht=>put_ne (by rintro rfl; rw [hd] at ht; cases ht)⟩
theorem F2.old (h:F2 n dd keep lay σ τ a) (ho:Old n keep lay a a'):F2 n dd keep lay σ τ a':=
 ⟨ho.size.trans h.size,⟨ho.defers.trans h.fixd.1,fun t ht=>(ho.fixd t ht).trans (h.fixd.2 t ht)⟩,
  fun t k v ht hv=>(ho.same t (by simp [known,ht])).trans (h.slots t k v ht hv),
  fun t k v ht hk hv=>(ho.same t (by simp [known,hk])).trans (h.temps t k v ht hk hv)⟩
theorem F2.push (h:F2 n dd keep lay σ τ a) {d:Nat} (hd:dstOk n (some d)=true) (hk:known keep lay d=false) (v:Value):F2 n dd keep (d :: lay) σ (v :: τ) (a.put (some d) v):=by
 have hn:posOf keep d=none:=by
  simp only [known,Bool.or_eq_false_iff] at hk
  simpa using hk.1
 have:=h.put (d:=some d) hd v
 have e1:cD keep (some d)= .t:=by simp [cD,hn]
 have e2:layD keep lay (some d)=d :: lay:=by simp [layD,hn]
 rw [e1,e2] at this
 exact this
theorem guardSlot_none {g:Option (Nat × Bool)} (h:guardSlot ops.toList g=some none):g=none:=by
 cases g with
 | none=>rfl
 | some p=>
   obtain ⟨j,b⟩:=p
   simp only [guardSlot] at h
   split at h
   ·split at h <;> simp at h
   ·simp at h
theorem guardSlot_some {g:Option (Nat × Bool)} {t:Nat} {b:Bool} (h:guardSlot ops.toList g=some (some (t,b))):∃ j o,g=some (j,b)∧ops[j]?=some o∧o.dst=some t:=by
 cases g with
 | none=>simp [guardSlot] at h
 | some p=>
   obtain ⟨j,b'⟩:=p
   simp only [guardSlot] at h
   split at h
   ·rename_i o ho
    split at h
    ·rename_i d hd
     simp at h; obtain ⟨rfl,rfl⟩:=h
     exact ⟨j,o,rfl,by simpa using ho,hd⟩
    ·simp at h
   ·simp at h
theorem wanted_none {o:Oper} {f:Nat→Option Bool} (h:o.guard=none):Region.wanted o f=true:=by simp [Region.wanted,h]
theorem wanted_at {o:Oper} {t:Nat} {b c:Bool} (hg:guardSlot ops.toList o.guard=some (some (t,b))) (ht:a.tmps[t]?=some (.bool c)):Region.wanted o (yielded ops a.tmps)=(c == b):=by
 obtain ⟨j,o',e1,e2,e3⟩:=guardSlot_some hg
 simp only [Region.wanted,e1,yielded,e2,Option.bind_some,e3,ht]
 cases c <;> cases b <;> rfl
theorem wanted_un {o:Oper} {t:Nat} {b:Bool} (hg:guardSlot ops.toList o.guard=some (some (t,b))) (ht:a.tmps[t]?=some (.tuple #[])):Region.wanted o (yielded ops a.tmps)=false:=by
 obtain ⟨j,o',e1,e2,e3⟩:=guardSlot_some hg
 simp [Region.wanted,e1,yielded,e2,e3,ht]
theorem stripG_spec {o:Oper} {g:RawG} (h:stripG P n ops.toList o=some g):dstOk n o.dst=true∧guardSlot ops.toList o.guard=some g.g∧stripOp P o=some g.s∧g.d=o.dst:=by
 unfold stripG at h
 split at h
 ·rename_i hd
  split at h
  ·rename_i gd s h1 h2
   simp at h; subst h
   exact ⟨hd,h1,h2,rfl⟩
  ·simp at h
 ·simp at h
theorem guardOf_bool {x:Option Value} {c:Bool} (h:guardOf x=some (some c)):x=some (.bool c):=by
 unfold guardOf at h
 split at h
 ·simp at h; subst h; rfl
 ·split at h <;> simp at h
 ·simp at h
theorem guardOf_undef {x:Option Value} (h:guardOf x=some none):x=some (.tuple #[]):=by
 unfold guardOf at h
 split at h
 ·simp at h
 ·rename_i vs
  split at h
  ·rename_i e; rw [Array.isEmpty_iff.1 e]
  ·simp at h
 ·simp at h
def Aligned (P:Program) (n:Nx) (ops:Array Oper) (l:List Oper) (gs:List RawG):Prop:=
 l.length=gs.length∧∀ (j:Nat) (o:Oper),l[j]?=some o→∃ g,gs[j]?=some g∧stripG P n ops.toList o=some g
theorem Aligned.tail {o:Oper} {l:List Oper} {g:RawG} {gs:List RawG} (h:Aligned P n ops (o :: l) (g :: gs)):Aligned P n ops l gs:=
 ⟨by simpa using h.1,fun j o' hj=>by simpa using h.2 (j + 1) o' (by simpa using hj)⟩
theorem Aligned.head {o:Oper} {l:List Oper} {g:RawG} {gs:List RawG} (h:Aligned P n ops (o :: l) (g :: gs)):stripG P n ops.toList o=some g:=by
 obtain ⟨g',e,hs⟩:=h.2 0 o rfl
 simp at e; subst e; exact hs
theorem Aligned.cons {l:List Oper} {g:RawG} {gs:List RawG} (h:Aligned P n ops l (g :: gs)):∃ o l',l=o :: l':=by
 cases l with
 | nil=>simp [Aligned] at h
 | cons o l'=>exact ⟨o,l',rfl⟩
theorem rd_ok {o:Oper} {s:SOp Operand} {ev:Operand→Option Value} {a:Act} {H:Heap} {p:Prop} {v:Value} (hs:stripOp P o=some s) (hf:Agree ev a) (hr:s.rd ev H=some (p,v)) (hp:p):OpVal P o a.eval H v:=by
 unfold stripOp at hs
 split at hs
 ·rename_i e he
  simp at hs; subst hs
  exact fun w _=>stripPE_ok he hf hr hp w
 ·split at hs
  case h_1 t x ho=>-- load
   have key:∀ sz,(sz=none∧isAggB P t=some false∨∃ n,sz=some n∧isAggB P t=some true∧sizeOfB P t=some n)→(SOp.ld sz x).rd ev H=some (p,v)→OpVal P o a.eval H v:=by
    intro sz hsz hr
    have hld:=mvN_some hr
    unfold ldN at hld
    split at hld
    ·rename_i ad hx
     intro w hw
     simp [execOp,ho,hf.ev hx,Instr.loadAt,Instr.sureAddr,run_ld hsz (hw ▸ hld)]
    ·simp at hld
   split at hs
   ·rename_i hag; simp at hs; subst hs; exact key none (.inl ⟨rfl,hag⟩) hr
   ·rename_i hag
    simp only [Option.map_eq_some_iff] at hs
    obtain ⟨k,hk,rfl⟩:=hs
    exact key (some k) (.inr ⟨k,rfl,hag,hk⟩) hr
   ·simp at hs
  case h_6 src dst x ho=>-- convert
   split at hs
   ·rename_i el h1 h2
    split at hs
    ·rename_i h3
     simp at hs; subst hs
     have hb:=mvN_some hr
     intro w hw
     cases hx:ev x with
     | none=>rw [hx] at hb; simp [b2sN] at hb
     | some u=>
       rw [hx] at hb
       have hr:=run_b2s (P:=P) (hw ▸ hb)
       cases u with
       | slice ad l c=>simp [execOp,ho,hf.ev hx,run_convert_bytes_string w src dst el ad l c h1 h3 h2,hr]
       | _=>simp [b2sN] at hb
    ·simp at hs
   ·split at hs
    ·simp at hs; subst hs; simp [SOp.rd] at hr
    ·simp at hs
   ·split at hs
    ·split at hs
     ·simp at hs; subst hs; simp [SOp.rd] at hr
     ·simp at hs
    ·simp at hs
   ·simp at hs
  all_goals (exfalso; revert hs; (repeat' split) <;> intro hs <;> (try simp at hs) <;> (try (subst hs; simp [SOp.rd] at hr)) <;> (try (obtain ⟨_,_,rfl⟩:=hs; simp [SOp.rd] at hr)))
def Sense.quiet (P:Program) (E:Chain→Heap→Prop):Sense P E where
 good:=fun o ev H R=>∃ v,OpVal P o ev H v∧R v H
 allow:=SOp.reads
 mono:=fun ⟨v,h,hR⟩ h'=>⟨v,h,h' _ _ hR⟩
 ok:=fun {o s ev a H R} h hr hf hv=>by
  have:∃ p v,s.rd ev H=some (p,v)∧p∧R v H:=by
   cases s <;> simp only [SOp.reads,Bool.false_eq_true] at hr
   ·simp only [SOp.vc,vN] at hv
    split at hv
    ·rename_i p v e; exact ⟨p,v,e,hv.1,hv.2⟩
    ·exact hv.elim
   ·simp only [SOp.vc,rdN] at hv
    split at hv
    ·rename_i v e; exact ⟨True,v,by simp [SOp.rd,e,mvN],trivial,hv⟩
    ·exact hv.elim
   ·simp only [SOp.vc,rdN] at hv
    split at hv
    ·rename_i v e; exact ⟨True,v,by simp [SOp.rd,e,mvN],trivial,hv⟩
    ·exact hv.elim
  obtain ⟨p,v,e,hp,hR⟩:=this
  exact ⟨v,rd_ok h hf e hp,hR⟩
 ofVal:=fun h hR=>⟨_,h,hR⟩
theorem wpQuiet_of_runL {H:Heap} {Q:Act→Heap→Prop} {w0:World}:∀ (l:List Oper) (a:Act),RunL (Sense.quiet P E) ops Q l a H→wpQuiet P ops (fun w=>w.heap=H∧Same w0 w) (fun a=>Q a H) l a
 | [],a,hr=>hr
 | o :: r,a,hr=>by
   unfold RunL at hr
   unfold wpQuiet
   split
   ·rename_i hw; rw [if_pos hw] at hr
    obtain ⟨v,hv,hr⟩:=hr
    refine ⟨v,fun w hw=>?_,wpQuiet_of_runL r _ hr⟩
    unfold Oper.quietAt
    rw [hv w hw.1]
    exact ⟨rfl,rfl⟩
   ·rename_i hw; rw [if_neg hw] at hr
    exact wpQuiet_of_runL r _ hr
theorem pickN_true (a:Bool) (y:Option Value):pickN (some (.bool true)) (some (.bool a)) y=some (True,.bool a):=by
 cases y with
 | none=>rfl
 | some y=>cases y <;> rfl
theorem pickN_false (b:Bool) (x:Option Value):pickN (some (.bool false)) x (some (.bool b))=some (True,.bool b):=by
 cases x with
 | none=>rfl
 | some x=>cases x <;> rfl
theorem pick_val {o:Oper} {t:Nat} {x y:Operand} (hs:stripOp P o=some (.v (.pick (.tmp t) x y))) {c w:Bool} (ht:a.tmps[t]?=some (.bool c)) (hx:c=true→a.eval x= .bool w) (hy:c=false→a.eval y= .bool w) (H:Heap) :
 OpVal P o a.eval H (.bool w):=by
 refine rd_ok (ev:=fun z=>some (a.eval z)) hs (fun z v hz=>by simpa using hz) (p:=True) ?_ trivial
 have e:a.eval (.tmp t)= .bool c:=by simp [Act.eval,Array.getD_eq_getD_getElem?,ht]
 show pickN (some (a.eval (.tmp t))) (some (a.eval x)) (some (a.eval y))=_
 rw [e]
 cases c with
 | true=>rw [hx rfl]; exact pickN_true _ _
 | false=>rw [hy rfl]; exact pickN_false _ _
theorem Old.eval (h:F2 n dd keep lay σ τ a) (ho:Old n keep lay a a') {x:Operand} {v:Value} (hx:evO σ τ (cO keep lay x)=some v):a'.eval x=v:=(h.old ho).agree x v hx
def GrpT (S:Sense P E) (ops:Array Oper) (n:Nx) (dd:DD) (keep lay:List Nat) (t:Nat) (b:Bool) (G:Grp) (Q:Act→Heap→Prop) (l:List Oper) (tl:List Oper):Prop:=
 ∀ {σ:Slots} {τ:List Value} {a:Act} {H:Heap} {p:Prop} {τ':List Value},F2 n dd keep lay σ τ a→a.tmps[t]?=some (.bool b)→innerE H σ G.inner τ=some (p,τ')→p→
   (∀ a',F2 n dd keep G.lay σ τ' a'→Old n keep lay a a'→RunL S ops Q tl a' H)→RunL S ops Q l a H
def GrpF (S:Sense P E) (ops:Array Oper) (n:Nx) (keep lay:List Nat) (t:Nat) (b:Bool) (ds:List Nat) (Q:Act→Heap→Prop) (l:List Oper) (tl:List Oper):Prop:=
 ∀ {a:Act} {H:Heap},a.tmps.size=n.n→(a.tmps[t]?=some (.bool !b)∨a.tmps[t]?=some (.tuple #[]))→(∀ s ∈ ds,a.tmps[s]?=some (.tuple #[]))→
   (∀ a',Old n keep lay a a'→RunL S ops Q tl a' H)→RunL S ops Q l a H
theorem choice {S:Sense P E} {t:Nat} {b:Bool} {G:Grp} {Q:Act→Heap→Prop} {l lr:List Oper} {o:Oper} (hpick:stripOp P o=some (.v (.pick (.tmp t) G.x G.y)))
 (hT:GrpT S ops n dd keep lay t b G Q l (o :: lr)) (hF:GrpF S ops n keep lay t b [] Q l (o :: lr)) (hkt:known keep lay t=true) {H:Heap} {p:Prop} {v:Value} (hf:F2 n dd keep lay σ τ a)
 (hs:selV σ τ (cO keep lay (.tmp t)) b (cO keep (if b then G.lay else lay) G.x) (cO keep (if b then lay else G.lay) G.y) (innerE H σ G.inner τ)=some (p,v)) (hp:p)
 (hk:∀ a',F2 n dd keep lay σ τ a'→Old n keep lay a a'→OpVal P o a'.eval H v→RunL S ops Q (o :: lr) a' H):RunL S ops Q l a H:=by
 have skip:∀ w,v= .bool w→a.tmps[t]?=some (.bool !b)→evO σ τ (cO keep lay (if b then G.y else G.x))=some (.bool w)→RunL S ops Q l a H:=by
  rintro w rfl ht hw
  refine hF hf.size (.inl ht) (by simp) fun a' ho=>hk a' (hf.old ho) ho ?_
  have ht':=(ho.same t hkt).trans ht
  have hz:=Old.eval hf ho hw
  cases b
  ·exact pick_val hpick (c:=true) ht' (fun _=>hz) (fun e=>by cases e) H
  ·exact pick_val hpick (c:=false) ht' (fun e=>by cases e) (fun _=>hz) H
 unfold selV at hs
 split at hs
 ·rename_i p' τ' hin
  split at hs
  ·rename_i c v' hc hsn
   simp only [Option.some.injEq,Prod.mk.injEq] at hs
   obtain ⟨rfl,rfl⟩:=hs
   rw [hc] at hsn
   have ht:=hf.tmp hc
   obtain ⟨bx,bb,hbx,hby,rfl⟩:∃ bx bb,evO σ (if b then τ' else τ) (cO keep (if b then G.lay else lay) G.x)=some (.bool bx)∧evO σ (if b then τ else τ') (cO keep (if b then lay else G.lay) G.y)=some (.bool bb)∧v'= .bool (bif c then bx else bb):=by
    unfold selN at hsn
    split at hsn
    ·rename_i c' a' b' e1 e2 e3
     simp at e1 hsn; subst e1
     exact ⟨_,_,e2,e3,hsn.symm⟩
    ·simp at hsn
   by_cases e:c=b
   ·subst e
    refine hT hf ht hin (hp rfl) fun a' hf' ho=>hk a' (hf.old ho) ho ?_
    have ht':=(ho.same t hkt).trans ht
    cases c
    ·exact pick_val hpick ht' (fun e=>by cases e) (fun _=>hf'.agree _ _ hby) H
    ·exact pick_val hpick ht' (fun _=>hf'.agree _ _ hbx) (fun e=>by cases e) H
   ·have e':c= !b:=by cases c <;> cases b <;> simp_all
    subst e'
    cases b
    ·exact skip bx rfl ht hbx
    ·exact skip bb rfl ht hby
  ·cases hs
 ·split at hs
  ·rename_i c w hc hw
   simp only [Option.some.injEq,Prod.mk.injEq] at hs
   obtain ⟨rfl,rfl⟩:=hs
   refine skip w rfl (by rw [← hp]; exact hf.tmp hc) ?_
   cases b <;> exact hw
  ·cases hs
theorem asPick_some {t d:Nat} {og:Option (Nat × Bool)} {r:RawG} {x y:Operand} (h:asPick t og r=some (d,x,y)):r.d=some d∧r.g=og∧r.s= .v (.pick (.tmp t) x y):=by
 unfold asPick at h
 split at h
 ·rename_i d' t' x' y' e1 e2
  split at h
  ·rename_i hc
   simp only [Option.some.injEq,Prod.mk.injEq] at h
   obtain ⟨rfl,rfl,rfl⟩:=h
   obtain ⟨rfl,e3⟩:=hc
   exact ⟨e1,e3,e2⟩
  ·cases h
 ·cases h
theorem asRead_some {t d:Nat} {b:Bool} {r:RawG} (h:asRead keep lay t b r=some d):r.d=some d∧r.g=some (t,b)∧known keep lay d=false:=by
 unfold asRead at h
 split at h
 ·rename_i d' e1
  split at h
  ·rename_i hc
   simp only [Option.some.injEq] at h; subst h
   exact ⟨e1,hc.1,hc.2.1⟩
  ·cases h
 ·cases h
theorem consIn_some {i:In} {x:Option Grp} {G:Grp} (h:consIn i x=some G):∃ G',x=some G'∧G={ G' with inner:=i :: G'.inner }:=by
 cases x with
 | none=>cases h
 | some G'=>simp [consIn] at h; exact ⟨G',rfl,h.symm⟩
theorem inPush_some {x:Option (Prop × Value)} {p:Prop} {τ':List Value} (h:inPush x τ=some (p,τ')):∃ v,x=some (p,v)∧τ'=v :: τ:=by
 unfold inPush at h
 split at h
 ·rename_i q v
  simp only [Option.some.injEq,Prod.mk.injEq] at h
  obtain ⟨rfl,rfl⟩:=h
  exact ⟨v,rfl,rfl⟩
 ·cases h
theorem inThen_some {f:List Value→Option (Prop × List Value)} {x:Option (Prop × List Value)} {p:Prop} {τ':List Value} (h:inThen f x=some (p,τ')):∃ q τ1 r,x=some (q,τ1)∧f τ1=some (r,τ')∧p=(q∧r):=by
 unfold inThen at h
 split at h
 ·rename_i q τ1
  split at h
  ·rename_i r τ2 h2
   simp only [Option.some.injEq,Prod.mk.injEq] at h
   obtain ⟨rfl,rfl⟩:=h
   exact ⟨q,τ1,r,rfl,h2,rfl⟩
  ·cases h
 ·cases h
theorem selIn_sound (S:Sense P E) {Q:Act→Heap→Prop}:∀ (k:Nat) {t:Nat} {b:Bool} {og:Option (Nat × Bool)} {ds lay:List Nat} {gs:List RawG} {G:Grp},selIn keep k t b og ds lay gs=some G→
 (∀ s ∈ ds,known keep lay s=true)→∀ (l:List Oper),Aligned P n ops l gs→
 ∃ o lr,(stripOp P o=some (.v (.pick (.tmp t) G.x G.y))∧o.dst=some G.d∧dstOk n (some G.d)=true∧guardSlot ops.toList o.guard=some og)∧Aligned P n ops lr G.rest∧G.rest.length < gs.length∧known keep lay t=true∧
   GrpT S ops n dd keep lay t b G Q l (o :: lr)∧GrpF S ops n keep lay t b ds Q l (o :: lr):=by
 intro k
 induction k with
 | zero=>intro t b og ds lay gs G h; cases h
 | succ k ih=>
   intro t b og ds lay gs G h hds l hal
   cases gs with
   | nil=>cases h
   | cons r rs=>
     obtain ⟨o,l',rfl⟩:=hal.cons
     obtain ⟨hd,hg,hso,hdd⟩:=stripG_spec hal.head
     simp only [selIn] at h
     split at h
     case isFalse=>cases h
     rename_i hkt
     split at h
     ·-- the pick
      rename_i d x y hpk
      simp only [Option.some.injEq] at h; subst h
      obtain ⟨e1,e2,e3⟩:=asPick_some hpk
      rw [e1] at hdd
      refine ⟨o,l',⟨by rw [← e3]; exact hso,hdd.symm,by rw [← hdd] at hd; exact hd,by rw [← e2]; exact hg⟩,hal.tail,by simp,hkt,?_,?_⟩
      ·intro σ τ a H p τ' hf ht hin hp hk
       simp only [innerE,Option.some.injEq,Prod.mk.injEq] at hin
       obtain ⟨_,rfl⟩:=hin
       exact hk a hf Old.refl
      ·intro a H _ _ _ hk
       exact hk a Old.refl
     split at h
     ·-- a reading
      rename_i hnp d hrd
      obtain ⟨e1,e2,e3⟩:=asRead_some hrd
      rw [e1] at hdd
      rw [e2] at hg
      have hdn:dstOk n (some d)=true:=by rw [← hdd] at hd; exact hd
      obtain ⟨G',hG',rfl⟩:=consIn_some h
      have hds':∀ s ∈ d :: ds,known keep (d :: lay) s=true:=by
       intro s hs
       rcases List.mem_cons.1 hs with rfl | hs
       ·simp [known,posOf]
       ·exact known_cons (hds s hs)
      obtain ⟨op,lr,hp1,hp2,hp3,hp4,hT,hF⟩:=ih hG' hds' l' hal.tail
      refine ⟨op,lr,hp1,hp2,by simp at hp3 ⊢; omega,hkt,?_,?_⟩
      ·intro σ τ a H p τ' hf ht hin hp hk
       simp only [innerE] at hin
       obtain ⟨q,τ1,r',h1,h2,rfl⟩:=inThen_some hin
       simp only [inE] at h1
       obtain ⟨v,h3,rfl⟩:=inPush_some h1
       rw [rd_map] at h3
       unfold RunL
       rw [wanted_at hg ht,if_pos (by simp),← hdd]
       refine S.ofVal (rd_ok hso hf.agree h3 hp.1) ?_
       have hne:d≠t:=by rintro rfl; rw [e3] at hkt; cases hkt
       exact hT (hf.push hdn e3 v) ((put_ne hne).trans ht) h2 hp.2 fun a' hf' ho=>hk a' hf' ((Old.put hdn e3).trans ho)
      ·intro a H hsz ht hun hk
       unfold RunL
       have hw:Region.wanted o (yielded ops a.tmps)=false:=by
        rcases ht with ht | ht
        ·rw [wanted_at hg ht]; cases b <;> rfl
        ·exact wanted_un hg ht
       rw [hw,if_neg (by simp),← hdd]
       have hne:d≠t:=by rintro rfl; rw [e3] at hkt; cases hkt
       refine hF (by simp [Act.put,hsz]) (by rw [put_ne hne]; exact ht) ?_ fun a' ho=>hk a' ((Old.put hdn e3).trans ho)
       intro s hs
       rcases List.mem_cons.1 hs with rfl | hs
       ·exact put_eq (by rw [hsz]; exact dstOk_lt hdn)
       ·have:d≠s:=by rintro rfl; have:=hds _ hs; rw [e3] at this; cases this
        rw [put_ne this]; exact hun s hs
     split at h
     ·-- a guard inside
      rename_i hnp hnr t' b' e2
      split at h
      case isFalse=>cases h
      rename_i hel
      have hmem:t' ∈ ds:=by simpa using hel
      split at h
      ·rename_i G1 hG1
       split at h
       case isFalse=>cases h
       rename_i hkd
       obtain ⟨G',hG',rfl⟩:=consIn_some h
       obtain ⟨o1,l1,⟨a1,a2,a3,a4⟩,hal1,hlen1,hkt1,hT1,hF1⟩:=ih hG1 (by simp) (o :: l') hal
       have hds':∀ s ∈ G1.d :: ds,known keep (G1.d :: lay) s=true:=by
        intro s hs
        rcases List.mem_cons.1 hs with rfl | hs
        ·simp [known,posOf]
        ·exact known_cons (hds s hs)
       obtain ⟨op,lr,hp1,hp2,hp3,hp4,hT,hF⟩:=ih hG' hds' l1 hal1
       have hne:G1.d≠t:=by rintro e; rw [← e,hkd] at hkt; cases hkt
       refine ⟨op,lr,hp1,hp2,Nat.lt_trans hp3 hlen1,hkt,?_,?_⟩
       ·intro σ τ a H p τ' hf ht hin hp hk
        simp only [innerE] at hin
        obtain ⟨q,τ1,r',h1,h2,rfl⟩:=inThen_some hin
        simp only [inE] at h1
        obtain ⟨v,h3,rfl⟩:=inPush_some h1
        refine choice a1 hT1 hF1 hkt1 hf h3 hp.1 fun a' hf' ho hval=>?_
        unfold RunL
        have ht':=(ho.same t hkt).trans ht
        rw [wanted_at a4 ht',if_pos (by simp),a2]
        refine S.ofVal hval ?_
        exact hT (hf'.push a3 hkd v) ((put_ne hne).trans ht') h2 hp.2 fun a'' hf'' ho'=>hk a'' hf'' ((ho.trans' (Old.put a3 hkd)).trans ho')
       ·intro a H hsz ht hun hk
        refine hF1 hsz (.inr (hun t' hmem)) (by simp) fun a' ho=>?_
        unfold RunL
        have ht':a'.tmps[t]?=some (.bool !b)∨a'.tmps[t]?=some (.tuple #[]):=by rw [ho.same t hkt]; exact ht
        have hw:Region.wanted o1 (yielded ops a'.tmps)=false:=by
         rcases ht' with ht | ht
         ·rw [wanted_at a4 ht]; cases b <;> rfl
         ·exact wanted_un a4 ht
        rw [hw,if_neg (by simp),a2]
        have hsz':a'.tmps.size=n.n:=ho.size.trans hsz
        refine hF (by simp [Act.put,hsz']) (by rw [put_ne hne]; exact ht') ?_ fun a'' ho'=>hk a'' ((ho.trans' (Old.put a3 hkd)).trans ho')
        intro s hs
        rcases List.mem_cons.1 hs with rfl | hs
        ·exact put_eq (by rw [hsz']; exact dstOk_lt a3)
        ·have hks:=hds s hs
         have:G1.d≠s:=by rintro e; rw [← e,hkd] at hks; cases hks
         rw [put_ne this,ho.same s hks]; exact hun s hs
      ·cases h
     ·cases h
def rawAllow (S:Sense P E) (gs:List RawG):Bool:=gs.all fun g=>S.allow g.s
theorem selIn_allow (S:Sense P E):∀ (k:Nat) {t:Nat} {b:Bool} {og:Option (Nat × Bool)} {ds lay:List Nat} {gs:List RawG} {G:Grp},selIn keep k t b og ds lay gs=some G→rawAllow S gs=true→rawAllow S G.rest=true:=by
 intro k
 induction k with
 | zero=>intro t b og ds lay gs G h; cases h
 | succ k ih=>
   intro t b og ds lay gs G h ha
   cases gs with
   | nil=>cases h
   | cons r rs=>
     have ha':rawAllow S rs=true:=by simp only [rawAllow,List.all_cons,Bool.and_eq_true] at ha; exact ha.2
     simp only [selIn] at h
     split at h
     case isFalse=>cases h
     split at h
     ·simp only [Option.some.injEq] at h; subst h; exact ha'
     split at h
     ·obtain ⟨G',hG',rfl⟩:=consIn_some h
      have:=ih hG' ha'
      exact this
     split at h
     ·split at h
      case isFalse=>cases h
      split at h
      ·rename_i G1 hG1
       split at h
       case isFalse=>cases h
       obtain ⟨G',hG',rfl⟩:=consIn_some h
       have:=ih hG' (ih hG1 ha)
       exact this
      ·cases h
     ·cases h
theorem comp_sound (S:Sense P E) {Q:Act→Heap→Prop} {K:Slots→Heap→Prop} (hK:∀ lay σ τ a H,F2 n dd keep lay σ τ a→K σ H→Q a H) :
 ∀ (k:Nat) (pg:Option (Nat × Bool)) (lay:List Nat) (gs:List RawG) (l:List Oper),Aligned P n ops l gs→rawAllow S gs=true→
 ∀ σ τ a H,F2 n dd keep lay σ τ a→vcOps P E (comp keep k pg lay gs) σ τ H K→RunL S ops Q l a H:=by
 intro k
 induction k with
 | zero=>
   intro pg lay gs l hal hall σ τ a H hf hv
   exfalso
   simp [comp,vcOps,SOp.vc,PE.val,evO,mvN,vN] at hv
 | succ k ih=>
   intro pg lay gs l hal hall σ τ a H hf hv
   cases gs with
   | nil=>
     have:l=[]:=List.eq_nil_of_length_eq_zero (by simpa using hal.1)
     subst this
     exact hK lay σ τ a H hf (by simpa [comp,vcOps] using hv)
   | cons r rs=>
     obtain ⟨o,l',rfl⟩:=hal.cons
     obtain ⟨hd,hg,hso,hdd⟩:=stripG_spec hal.head
     have hallow:S.allow r.s=true:=by simp only [rawAllow,List.all_cons,Bool.and_eq_true] at hall; exact hall.1
     have hsub':rawAllow S rs=true:=by simp only [rawAllow,List.all_cons,Bool.and_eq_true] at hall; exact hall.2
     simp only [comp] at hv
     split at hv
     ·rename_i hgn
      rw [hgn] at hg
      unfold RunL
      rw [if_pos (wanted_none (guardSlot_none hg))]
      simp only [vcOps,vc_map,hdd] at hv
      exact S.mono (S.ok hso hallow hf.agree hv) fun v H' h=>ih _ _ _ _ hal.tail hsub' _ _ _ _ (hf.put hd v) h
     ·rename_i t b hgs
      rw [hgs] at hg
      split at hv
      ·rename_i G hG
       have hG':selIn keep (rs.length + 2) t b none [] lay (r :: rs)=some G:=by
        split at hG
        ·cases hG
        ·exact hG
       obtain ⟨o1,l1,⟨a1,a2,a3,a4⟩,hal1,hlen1,hkt1,hT1,hF1⟩:=selIn_sound (Q:=Q) S _ hG' (by simp) (o :: l') hal
       simp only [vcOps] at hv
       unfold vN at hv
       split at hv
       case h_2=>exact hv.elim
       rename_i p v hs
       refine choice a1 hT1 hF1 hkt1 hf hs hv.1 fun a' hf' ho hval=>?_
       unfold RunL
       rw [if_pos (wanted_none (guardSlot_none a4))]
       refine S.ofVal hval ?_
       have hd1:dstOk n o1.dst=true:=by rw [a2]; exact a3
       rw [← a2] at hv
       have hsub1:rawAllow S G.rest=true:=selIn_allow S _ hG' hall
       exact ih _ _ _ _ hal1 hsub1 _ _ _ _ (hf'.put hd1 v) hv.2
      ·simp only [vcOps] at hv
       split at hv
       ·rename_i c hc
        replace hc:=guardOf_bool hc
        have ht:=hf.tmp hc
        unfold RunL
        rw [wanted_at hg ht]
        by_cases e:c=b
        ·subst e
         rw [if_pos (by simp)]
         have hv:=hv.1 rfl
         simp only [vc_map,hdd] at hv
         have hf':=hf.gset hc (!(decide (pg=some (t,c))))
         exact S.mono (S.ok hso hallow hf'.agree hv) fun v H' h=>ih _ _ _ _ hal.tail hsub' _ _ _ _ (hf'.put hd v) h
        ·have e':c= !b:=by cases c <;> cases b <;> simp_all
         subst e'
         rw [if_neg (by cases b <;> simp)]
         have hv:=hv.2 rfl
         simp only [hdd] at hv
         exact ih _ _ _ _ hal.tail hsub' _ _ _ _ ((hf.gset hc _).put hd undef) hv
       ·rename_i hc
        replace hc:=guardOf_undef hc
        have ht:=hf.tmp hc
        unfold RunL
        rw [wanted_un hg ht,if_neg (by simp)]
        simp only [hdd] at hv
        exact ih _ _ _ _ hal.tail hsub' _ _ _ _ (hf.put hd undef) hv
       ·exact hv.elim
end
end Gx
end
section
namespace Gx
open Go
section
variable {P:Program} {ops:Array Oper} {Q:Exit→Act→World→Prop} {md:Region.Mode}
def wpAnyG (P:Program) (md:Region.Mode) (ops:Array Oper) (Q:Exit→Act→World→Prop) (S:Array Bool→World→Prop):Nat→Array Bool→Act→World→Prop
 | 0,listed,a,w=>Region.ready md ops listed=[]∧Q .normal a w
 | fuel + 1,listed,a,w=>
   (Region.ready md ops listed=[]→Q .normal a w)∧
   ∀ i ∈ Region.ready md ops listed,wpOp P ops Q i (fun a' w'=>S (listed.setIfInBounds i true) w'∧wpAnyG P md ops Q S fuel (listed.setIfInBounds i true) a' w') a w
theorem wpAny_of_G {S:Array Bool→World→Prop}:∀ (fuel:Nat) (listed:Array Bool) (a:Act) (w:World),wpAnyG P md ops Q S fuel listed a w→wpAny P md ops Q fuel listed a w
 | 0,_,_,_,h=>h
 | fuel + 1,_,_,_,h=>⟨h.1,fun i hi=>wpOp_mono (fun a' w' h'=>wpAny_of_G fuel _ a' w' h'.2) (h.2 i hi)⟩
theorem wpAnyG_mono {S S':Array Bool→World→Prop} (hS:∀ L w,S' L w→S L w):∀ (fuel:Nat) (listed:Array Bool) (a:Act) (w:World),wpAnyG P md ops Q S' fuel listed a w→wpAnyG P md ops Q S fuel listed a w
 | 0,_,_,_,h=>h
 | fuel + 1,_,_,_,h=>⟨h.1,fun i hi=>wpOp_mono (fun a' w' h'=>⟨hS _ _ h'.1,wpAnyG_mono hS fuel _ a' w' h'.2⟩) (h.2 i hi)⟩
theorem wpAnyG_first {S:Array Bool→World→Prop} {i:Nat} {oi:Oper} {v:Value} {TD:List Nat} (hi:ops[i]?=some oi) (hsel:∀ (j:Nat) (o:Oper) cs b,ops[j]?=some o→o.op≠.select cs b)
 (hQ:∀ c a w,Q (.panic c) (a.put oi.dst v) w→Q (.panic c) a w)
 (hTD:∀ j ∈ TD,∃ oj e,ops[j]?=some oj∧e ∈ oj.after∧Region.binds md e=true∧(e.on=i∨e.on ∈ TD))
 (hSi:∀ L w,S (L.setIfInBounds i true) w→S L w) :
 ∀ (fuel:Nat) (listed:Array Bool) (a:Act) (w:World),
   (∀ j oj,ops[j]?=some oj→j≠i→listed.getD j true=false→(∀ e ∈ oj.after,Region.binds md e=true→e.on≠i)→oi.apart ops oj=true)→
   i ∈ Region.ready md ops listed→(∀ j ∈ TD,listed.getD j true=false)→YieldsIf P ops (fun w=>∃ L,(∀ j ∈ TD,L.getD j true=false)∧S L w) oi v a→S listed w→S (listed.setIfInBounds i true) w→
   wpAnyG P md ops Q S fuel (listed.setIfInBounds i true) (a.put oi.dst v) w→wpAnyG P md ops Q S (fuel + 1) listed a w:=by
 intro fuel
 induction fuel with
 | zero=>
   intro listed a w _ hr ht hy hS hS' H
   refine ⟨fun h=>(by rw [h] at hr; cases hr),fun j hj=>?_⟩
   by_cases hji:j=i
   ·subst hji; exact hy.wpOp hi ⟨listed,ht,hS⟩ ⟨hS',H⟩
   ·have:=ready_mono hj hji
    rw [H.1] at this
    cases this
 | succ fuel ih=>
   intro listed a w hfree hr ht hy hS hS' H
   refine ⟨fun h=>(by rw [h] at hr; cases hr),fun j hj=>?_⟩
   by_cases hji:j=i
   ·subst hji; exact hy.wpOp hi ⟨listed,ht,hS⟩ ⟨hS',H⟩
   ·have h1:=H.2 j (ready_mono hj hji)
    obtain ⟨hjun,oj,hoj,hall⟩:=mem_ready.1 hj
    have hnot:∀ e ∈ oj.after,Region.binds md e=true→e.on≠i:=fun e he hb heq=>by
     have h1:=hall e he hb
     have h0:=(mem_ready.1 hr).1
     rw [heq] at h1
     rcases Nat.lt_or_ge i listed.size with h' | h'
     ·simp [h'] at h0 h1; rw [h0] at h1; cases h1
     ·simp [Array.getElem?_eq_none h'] at h1
    have hjTD:j ∉ TD:=fun hm=>by
     obtain ⟨oj',e,e1,e2,e3,e4⟩:=hTD j hm
     rw [hoj] at e1; cases e1
     rcases e4 with e4 | e4
     ·exact hnot e e2 e3 e4
     ·have h2:=hall e e2 e3
      have h3:=ht _ e4
      rcases Nat.lt_or_ge e.on listed.size with h' | h'
      ·simp [h'] at h2 h3; rw [h2] at h3; cases h3
      ·simp [Array.getElem?_eq_none h'] at h2
    have h2:=wpOp_putIf hoj (hfree j oj hoj hji hjun hnot) (fun cs b=>hsel i oi cs b hi) (fun cs b=>hsel j oj cs b hoj) hQ hy h1
    have hfree':∀ k ok,ops[k]?=some ok→k≠i→(listed.setIfInBounds j true).getD k true=false→
     (∀ e ∈ ok.after,Region.binds md e=true→e.on≠i)→oi.apart ops ok=true:=fun k ok hk hki hun hno=>by
     refine hfree k ok hk hki ?_ hno
     by_cases hjk:j=k
     ·subst hjk; exact hjun
     ·rw [getD_set_ne true hjk] at hun; exact hun
    have ht':∀ k ∈ TD,(listed.setIfInBounds j true).getD k true=false:=fun k hk=>by
     rw [getD_set_ne true (by rintro rfl; exact hjTD hk)]; exact ht k hk
    refine wpOp_mono (fun a' w' h3=>?_) h2
    obtain ⟨hy',hS2,hG⟩:=h3
    rw [Array.setIfInBounds_comm _ _ (Ne.symm hji)] at hS2
    have hS1:=hSi _ _ hS2
    refine ⟨hS1,ih (listed.setIfInBounds j true) a' w' hfree' (ready_mono hr (Ne.symm hji)) ht' hy' hS1 hS2 ?_⟩
    rw [Array.setIfInBounds_comm _ _ hji]
    exact hG
theorem wpAnyG_done {S:Array Bool→World→Prop} {listed:Array Bool} {a:Act} {w:World} (hr:Region.ready md ops listed=[]) (h:Q .normal a w) :
 ∀ fuel,wpAnyG P md ops Q S fuel listed a w
 | 0=>⟨hr,h⟩
 | _ + 1=>⟨fun _=>h,by rw [hr]; simp⟩
end
inductive DT where
 | done
 | rd (g:Option (Opd × Bool)) (d:Dst) (s:SOp Opd) (D:List Nat) (next:DT)
 | ef (i:Nat) (g:Option (Opd × Bool)) (d:Dst) (s:SOp Opd) (next:DT)
 | br (a b:DT)
inductive Held where
 | ld (sz:Option Nat) (a:Addr) (v:Value)
 | b2s (x:Value) (v:Value)
def Held.ok (H:Heap):Held→Prop
 | .ld sz a v=>ldV H sz a=some v
 | .b2s x v=>b2sN H (some x)=some v
abbrev Pend:=List (List Nat × Held)
def pendDrop (i:Nat):Pend→Pend
 | []=>[]
 | (D,h) :: r=>if D.elem i then pendDrop i r else (D,h) :: pendDrop i r
def pendOk (H:Heap):Pend→Prop
 | []=>True
 | (_,h) :: r=>h.ok H∧pendOk H r
def SOp.held {O:Type} (ev:O→Option Value) (D:List Nat) (v:Value) (s:SOp O) (p:Pend):Pend:=
 match s with
 | .ld sz x=>match ev x with
   | some (.pointer (some a))=>(D,.ld sz a v) :: p
   | _=>p
 | .b2s x=>match ev x with
   | some u=>(D,.b2s u v) :: p
   | none=>p
 | _=>p
def rdK (F:Prop × Value→Prop):Option (Prop × Value)→Prop
 | some x=>F x
 | none=>False
def vcD (P:Program) (E:Chain→Heap→Prop):DT→Pend→Slots→List Value→Heap→(Slots→Heap→Prop)→Prop
 | .done,_,σ,_,H,K=>K σ H
 | .rd none d s D next,pend,σ,τ,H,K=>rdK (fun x=>x.1∧vcD P E next (s.held (evO σ τ) D x.2 pend) (putS d x.2 σ) (putT d x.2 τ) H K) (s.rd (evO σ τ) H)
 | .rd (some (t,b)) d s D next,pend,σ,τ,H,K=>
   match guardOf (evO σ τ t) with
   | some (some c)=>(c=b→rdK (fun x=>x.1∧vcD P E next (s.held (evO (setS t (.bool b) σ) (setT t (.bool b) τ)) D x.2 pend) (putS d x.2 (setS t (.bool b) σ)) (putT d x.2 (setT t (.bool b) τ)) H K) (s.rd (evO (setS t (.bool b) σ) (setT t (.bool b) τ)) H))∧
    (c=(!b)→vcD P E next pend (putS d undef (setS t (.bool (!b)) σ)) (putT d undef (setT t (.bool (!b)) τ)) H K)
   | some none=>vcD P E next pend (putS d undef σ) (putT d undef τ) H K
   | none=>False
 | .ef i none d s next,pend,σ,τ,H,K=>s.vc P E (evO σ τ) H (fun v H'=>pendOk H' (pendDrop i pend)∧vcD P E next (pendDrop i pend) (putS d v σ) (putT d v τ) H' K)
 | .ef i (some (t,b)) d s next,pend,σ,τ,H,K=>
   match guardOf (evO σ τ t) with
   | some (some c)=>(c=b→s.vc P E (evO (setS t (.bool b) σ) (setT t (.bool b) τ)) H (fun v H'=>pendOk H' (pendDrop i pend)∧vcD P E next (pendDrop i pend) (putS d v (setS t (.bool b) σ)) (putT d v (setT t (.bool b) τ)) H' K))∧
    (c=(!b)→vcD P E next (pendDrop i pend) (putS d undef (setS t (.bool (!b)) σ)) (putT d undef (setT t (.bool (!b)) τ)) H K)
   | some none=>vcD P E next (pendDrop i pend) (putS d undef σ) (putT d undef τ) H K
   | none=>False
 | .br a b,pend,σ,τ,H,K=>vcD P E a pend σ τ H K∧vcD P E b pend σ τ H K
def opReads (P:Program) (o:Oper):Bool:=
 match stripOp P o with
 | some s=>s.reads
 | none=>false
def waitsOn (md:Region.Mode) (ops:List Oper) (i:Nat):Nat→List Nat→List Nat
 | 0,acc=>acc
 | k + 1,acc=>
   waitsOn md ops i k (ops.zipIdx.foldl (fun acc (o,j)=>if acc.elem j || j == i then acc else if o.after.any (fun e=>Region.binds md e && (e.on == i || acc.elem e.on)) then acc ++ [j] else acc) acc)
def tdOk (md:Region.Mode) (ops:Array Oper) (i:Nat) (TD:List Nat):Bool:=
 TD.all fun j=>match ops[j]? with
  | some oj=>oj.after.any fun e=>Region.binds md e && (e.on == i || TD.elem e.on)
  | none=>false
def canonD (P:Program) (n:Nx) (keep:List Nat) (ops:Array Oper) (l:List Oper) (read:List Bool):Nat→List Nat→Array Bool→Option DT
 | 0,_,listed=>if Region.ready .any ops listed=[] then some .done else none
 | k + 1,lay,listed=>
   match Region.ready .any ops listed with
   | []=>some .done
   | i :: rest=>
     match (i :: rest).find? fun j=>read.getD j false with
     | some j=>
       let TD:=waitsOn .any l j 3 []
       match ops[j]? with
       | some o=>
         match stripG P n ops.toList o with
         | some r=>
           match canonD P n keep ops l read k (layD keep lay r.d) (listed.setIfInBounds j true) with
           | some next=>
             if r.s.reads && Region.free .any ops listed j && tdOk .any ops j TD && TD.all (fun q=>listed.getD q true=false) then
              some (.rd (r.g.map fun p=>(cO keep lay (.tmp p.1),p.2)) (cD keep r.d) (r.s.map (cO keep lay)) (TD.filter fun q=>!(read.getD q false)) next) else none
           | none=>none
         | none=>none
       | none=>none
     | none=>
       let one (i:Nat):Option DT:=
        match ops[i]? with
        | some o=>match stripG P n ops.toList o with
          | some r=>match canonD P n keep ops l read k (layD keep lay r.d) (listed.setIfInBounds i true) with
            | some next=>some (.ef i (r.g.map fun p=>(cO keep lay (.tmp p.1),p.2)) (cD keep r.d) (r.s.map (cO keep lay)) next)
            | none=>none
          | none=>none
        | none=>none
       match rest with
       | []=>one i
       | [j]=>match one i,one j with
         | some a,some b=>some (.br a b)
         | _,_=>none
       | _=>none
section
variable {P:Program} {E:Chain→Heap→Prop} {n:Nx} {dd:DD} {ops:Array Oper} {Q:Exit→Act→World→Prop} {O:Type}
theorem getD_set_self {L:Array Bool} {i:Nat}:(L.setIfInBounds i true).getD i true=true:=by
 rcases Nat.lt_or_ge i L.size with h | h <;> simp [h]
theorem wpAnyG_mono' {md:Region.Mode} {S S':Array Bool→World→Prop} {i:Nat} (hS:∀ L w,L.getD i true=true→S' L w→S L w):∀ (fuel:Nat) (listed:Array Bool) (a:Act) (w:World),listed.getD i true=true→
 wpAnyG P md ops Q S' fuel listed a w→wpAnyG P md ops Q S fuel listed a w
 | 0,_,_,_,_,h=>h
 | fuel + 1,listed,a,w,hl,h=>⟨h.1,fun j hj=>wpOp_mono (fun a' w' h'=>by
  have hl':(listed.setIfInBounds j true).getD i true=true:=by
   by_cases e:j=i
   ·subst e; exact getD_set_self
   ·rw [getD_set_ne true e]; exact hl
  exact ⟨hS _ _ hl' h'.1,wpAnyG_mono' hS fuel _ a' w' hl' h'.2⟩) (h.2 j hj)⟩
def SP (pend:Pend) (L:Array Bool) (w:World):Prop:=∀ e ∈ pend,(∀ d ∈ e.1,L.getD d true=false)→e.2.ok w.heap
theorem mem_pendDrop {i:Nat}:∀ {pend:Pend} {e:List Nat × Held},e ∈ pendDrop i pend↔e ∈ pend∧i ∉ e.1
 | [],e=>by simp [pendDrop]
 | (D,h) :: r,e=>by
   simp only [pendDrop]
   split
   ·rename_i hi
    rw [mem_pendDrop]
    constructor
    ·rintro ⟨h1,h2⟩; exact ⟨by simp [h1],h2⟩
    ·rintro ⟨h1,h2⟩
     rcases List.mem_cons.1 h1 with rfl | h1
     ·exact absurd (by simpa using hi) h2
     ·exact ⟨h1,h2⟩
   ·rename_i hi
    rw [List.mem_cons,mem_pendDrop]
    constructor
    ·rintro (rfl | ⟨h1,h2⟩)
     ·exact ⟨by simp,by simpa using hi⟩
     ·exact ⟨by simp [h1],h2⟩
    ·rintro ⟨h1,h2⟩
     rcases List.mem_cons.1 h1 with rfl | h1
     ·exact .inl rfl
     ·exact .inr ⟨h1,h2⟩
theorem pendOk_mem {H:Heap}:∀ {pend:Pend},pendOk H pend→∀ e ∈ pend,e.2.ok H
 | [],_,e,he=>by cases he
 | (D,h) :: r,hp,e,he=>by
   rcases List.mem_cons.1 he with rfl | he
   ·exact hp.1
   ·exact pendOk_mem hp.2 e he
theorem mem_held {ev:O→Option Value} {D:List Nat} {v:Value} {s:SOp O} {p:Pend} {e:List Nat × Held} (h:e ∈ s.held ev D v p):e ∈ p∨e.1=D:=by
 unfold SOp.held at h
 split at h
 ·split at h
  ·rcases List.mem_cons.1 h with rfl | h
   ·exact .inr rfl
   ·exact .inl h
  ·exact .inl h
 ·split at h
  ·rcases List.mem_cons.1 h with rfl | h
   ·exact .inr rfl
   ·exact .inl h
  ·exact .inl h
 ·exact .inl h
theorem held_sub {ev:O→Option Value} {D:List Nat} {v:Value} {s:SOp O} {p:Pend} {e:List Nat × Held} (h:e ∈ p):e ∈ s.held ev D v p:=by
 unfold SOp.held
 split
 ·split
  ·exact List.mem_cons_of_mem _ h
  ·exact h
 ·split
  ·exact List.mem_cons_of_mem _ h
  ·exact h
 ·exact h
theorem held_rd' {ev:O→Option Value} {D:List Nat} {v:Value} {s:SOp O} {p:Pend} {q:Prop} {H H':Heap} (hr:s.rd ev H=some (q,v)) (hq:q) (h:∀ e ∈ s.held ev D v p,e.1=D→e.2.ok H'):∃ q',s.rd ev H'=some (q',v)∧q':=by
 cases s <;> simp only [SOp.rd,reduceCtorEq] at hr ⊢
 ·exact ⟨q,hr,hq⟩
 ·rename_i sz x
  have e:=mvN_some hr
  unfold ldN at e
  split at e
  ·rename_i ad hx
   have hok:ldV H' sz ad=some v:=h (D,.ld sz ad v) (by simp [SOp.held,hx]) rfl
   exact ⟨True,by simp [ldN,hx,hok,mvN],trivial⟩
  ·simp at e
 ·rename_i x
  have e:=mvN_some hr
  cases hx:ev x with
  | none=>rw [hx] at e; simp [b2sN] at e
  | some u=>
    have hok:b2sN H' (some u)=some v:=h (D,.b2s u v) (by simp [SOp.held,hx]) rfl
    exact ⟨True,by simp [hok,mvN],trivial⟩
theorem held_now {ev:O→Option Value} {D:List Nat} {v:Value} {s:SOp O} {p:Pend} {q:Prop} {H:Heap} (hr:s.rd ev H=some (q,v)) {e:List Nat × Held} (h:e ∈ s.held ev D v p):e ∈ p∨e.2.ok H:=by
 cases s <;> simp only [SOp.rd,reduceCtorEq] at hr <;> unfold SOp.held at h <;> simp only at h
 ·exact .inl h
 ·rename_i sz x
  have e1:=mvN_some hr
  split at h
  ·rename_i ad hx
   rcases List.mem_cons.1 h with rfl | h
   ·right; rw [hx] at e1; exact e1
   ·exact .inl h
  ·exact .inl h
 ·rename_i x
  have e1:=mvN_some hr
  split at h
  ·rename_i u hx
   rcases List.mem_cons.1 h with rfl | h
   ·right; rw [hx] at e1; exact e1
   ·exact .inl h
  ·exact .inl h
def PInv (read:List Bool) (pend:Pend):Prop:=∀ e ∈ pend,∀ d ∈ e.1,read.getD d false=false
theorem PInv.drop {read:List Bool} {pend:Pend} (h:PInv read pend) (i:Nat):PInv read (pendDrop i pend):=fun e he=>h e (mem_pendDrop.1 he).1
theorem PInv.held {read:List Bool} {pend:Pend} (h:PInv read pend) {ev:O→Option Value} {D:List Nat} {v:Value} {s:SOp O} (hD:∀ d ∈ D,read.getD d false=false):PInv read (s.held ev D v pend):=fun e he=>by
 rcases mem_held he with h1 | h1
 ·exact h e h1
 ·intro d hd; exact hD d (h1 ▸ hd)
theorem tdOk_spec {md:Region.Mode} {i:Nat} {TD:List Nat} (h:tdOk md ops i TD=true):∀ j ∈ TD,∃ oj e,ops[j]?=some oj∧e ∈ oj.after∧Region.binds md e=true∧(e.on=i∨e.on ∈ TD):=by
 intro j hj
 simp only [tdOk,List.all_eq_true] at h
 have:=h j hj
 split at this
 ·rename_i oj ho
  simp only [Array.any_eq_true',Bool.and_eq_true,Bool.or_eq_true,beq_iff_eq] at this
  obtain ⟨e,he,h1,h2⟩:=this
  exact ⟨oj,e,ho,he,h1,h2.imp id (by simp)⟩
 ·simp at this
theorem SP_set {pend:Pend} {read:List Bool} (hp:PInv read pend) {i:Nat} (hi:read.getD i false=true) {L:Array Bool} {w:World}:SP pend (L.setIfInBounds i true) w→SP pend L w:=fun h e he hd=>h e he fun d hd'=>by
 have hne:i≠d:=by rintro rfl; have:=hp e he _ hd'; rw [hi] at this; cases this
 rw [getD_set_ne true hne]; exact hd d hd'
theorem SP_set' {pend:Pend} {i:Nat} {L:Array Bool} {w:World}:SP pend L w→SP pend (L.setIfInBounds i true) w:=fun h e he hd=>h e he fun d hd'=>by
 have:=hd d hd'
 by_cases hne:i=d
 ·subst hne; rw [getD_set_self] at this; cases this
 ·rw [getD_set_ne true hne] at this; exact this
theorem held_map {O':Type} (m:O→O') (ev:O'→Option Value) (D:List Nat) (v:Value) (s:SOp O) (p:Pend):(s.map m).held ev D v p=s.held (fun x=>ev (m x)) D v p:=by
 cases s <;> rfl
theorem F2.set {keep lay:List Nat} {σ:Slots} {τ:List Value} {a:Act} (h:F2 n dd keep lay σ τ a) {x:Opd} {c:Value} (hx:evO σ τ x=some c):F2 n dd keep lay (setS x c σ) (setT x c τ) a:=h.gset hx true
theorem canonD_sound {n:Nx} {dd:DD} {keep:List Nat} {w0:World} {K:Slots→Heap→Prop} (hE:∀ c a w,Fixed n dd a→Same w0 w→E c w.heap→Q (.panic c) a w) (hQp:∀ c a d v w,dstOk n d=true→Q (.panic c) (a.put d v) w→Q (.panic c) a w) (hQ:∀ lay σ τ a w,F2 n dd keep lay σ τ a→Same w0 w→K σ w.heap→Q .normal a w) (hns:Region.noSelect ops=true) {l:List Oper} {read:List Bool} :
 ∀ (k:Nat) (lay:List Nat) (listed:Array Bool) (dt:DT),canonD P n keep ops l read k lay listed=some dt→∀ (σ:Slots) (τ:List Value) (a:Act) (w:World) (pend:Pend),F2 n dd keep lay σ τ a→Same w0 w→PInv read pend→SP pend listed w→vcD P E dt pend σ τ w.heap K→
   wpAnyG P .any ops Q (SP pend) k listed a w:=by
 intro k
 induction k with
 | zero=>
   intro lay listed dt h σ τ a w pend hf hs hp hS hv
   simp only [canonD] at h
   split at h
   ·rename_i hr
    simp at h; subst h
    exact ⟨hr,hQ lay σ τ a w hf hs hv⟩
   ·simp at h
 | succ k ih=>
   intro lay listed dt h σ τ a w pend hf hs hp hS hv
   simp only [canonD] at h
   split at h
   ·rename_i hr
    simp at h; subst h
    exact wpAnyG_done hr (hQ lay σ τ a w hf hs hv) _
   ·rename_i i rest hr
    split at h
    ·-- a read
     rename_i j hfind
     have hjr:read.getD j false=true:=by have:=List.find?_some hfind; simpa using this
     have hjm:j ∈ Region.ready .any ops listed:=by rw [hr]; exact List.mem_of_find?_eq_some hfind
     split at h
     case h_2=>cases h
     rename_i o ho
     split at h
     case h_2=>cases h
     rename_i r hg
     split at h
     case h_2=>cases h
     rename_i next hnext
     split at h
     case isFalse=>cases h
     rename_i hc
     simp only [Bool.and_eq_true,List.all_eq_true,decide_eq_true_eq] at hc
     obtain ⟨⟨⟨hrd,hfree⟩,htd⟩,hun⟩:=hc
     simp only [Option.some.injEq] at h; subst h
     obtain ⟨hd,h1,h2,hdd⟩:=stripG_spec hg
     have hDr:∀ q ∈ (waitsOn .any l j 3 []).filter (fun q=>!(read.getD q false)),read.getD q false=false:=fun q hq=>by
      have:=(List.mem_filter.1 hq).2; simpa using this
     rw [hdd] at hnext hv
     -- the step that reads
     have take:∀ (σ:Slots) (τ:List Value) (v:Value),F2 n dd keep lay σ τ a→(Region.wanted o (yielded ops a.tmps)=true∧∃ p,r.s.rd (fun x=>evO σ τ (cO keep lay x)) w.heap=some (p,v)∧p)→
      vcD P E next (r.s.held (fun x=>evO σ τ (cO keep lay x)) ((waitsOn .any l j 3 []).filter fun q=>!(read.getD q false)) v pend) (putS (cD keep o.dst) v σ) (putT (cD keep o.dst) v τ) w.heap K→wpAnyG P .any ops Q (SP pend) (k + 1) listed a w:=by
      intro σ τ v hf ⟨hw,p,hr,hpp⟩ hv
      generalize hev:(fun x=>evO σ τ (cO keep lay x))=ev at hr hv
      have hag:Agree ev a:=by rw [← hev]; exact hf.agree
      generalize hD:(waitsOn .any l j 3 []).filter (fun q=>!(read.getD q false))=D at hv hDr
      have hp':PInv read (r.s.held ev D v pend):=hp.held hDr
      have hS':SP (r.s.held ev D v pend) listed w:=fun e he hd=>by
       rcases held_now hr he with h | h
       ·exact hS e h hd
       ·exact h
      refine wpAnyG_mono (S':=SP (r.s.held ev D v pend)) (fun L w h e he=>h e (held_sub he)) _ _ _ _ ?_
      refine wpAnyG_first (v:=v) ho (Region.noSelect_spec hns) (fun c a w h=>hQp c a _ _ w hd h) (tdOk_spec htd) (fun L w=>SP_set hp' hjr) k listed a w (Region.free_spec ho hfree) hjm hun ?_ hS' (SP_set' hS') ?_
      ·refine .inl ⟨hw,fun w' ⟨L,hL,hSL⟩=>?_⟩
       obtain ⟨q',hr',hq'⟩:=held_rd' (p:=pend) (D:=D) (H':=w'.heap) hr hpp fun e he heD=>hSL e he fun d hd=>by
        rw [heD,← hD] at hd
        exact hL d (List.mem_filter.1 hd).1
       exact rd_ok h2 hag hr' hq' w' rfl
      ·exact ih _ _ _ hnext _ _ _ _ _ (hf.put hd v) hs hp' (SP_set' hS') hv
     -- the step that does not come up
     have skip:∀ (σ:Slots) (τ:List Value),F2 n dd keep lay σ τ a→Region.wanted o (yielded ops a.tmps)=false→vcD P E next pend (putS (cD keep o.dst) undef σ) (putT (cD keep o.dst) undef τ) w.heap K→wpAnyG P .any ops Q (SP pend) (k + 1) listed a w:=by
      intro σ τ hf hw hv
      refine wpAnyG_first (v:=undef) ho (Region.noSelect_spec hns) (fun c a w h=>hQp c a _ _ w hd h) (tdOk_spec htd) (fun L w=>SP_set hp hjr) k listed a w (Region.free_spec ho hfree) hjm hun (.inr ⟨hw,rfl⟩) hS (SP_set' hS) ?_
      exact ih _ _ _ hnext _ _ _ _ _ (hf.put hd undef) hs hp (SP_set' hS) hv
     cases hgg:r.g with
     | none=>
       rw [hgg] at h1 hv
       simp only [Option.map_none,vcD,rd_map,held_map] at hv
       cases hr:r.s.rd (fun x=>evO σ τ (cO keep lay x)) w.heap with
       | none=>rw [hr] at hv; exact hv.elim
       | some x=>
         rw [hr] at hv
         exact take σ τ x.2 hf ⟨wanted_none (guardSlot_none h1),x.1,by rw [hr],hv.1⟩ hv.2
     | some p=>
       obtain ⟨t,b⟩:=p
       rw [hgg] at h1 hv
       simp only [Option.map_some,vcD,rd_map,held_map] at hv
       split at hv
       ·rename_i c hc
        replace hc:=guardOf_bool hc
        have ht:=hf.tmp hc
        by_cases e:c=b
        ·subst e
         have hv:=hv.1 rfl
         have hf':=hf.set hc
         cases hr:r.s.rd (fun x=>evO (setS (cO keep lay (.tmp t)) (.bool c) σ) (setT (cO keep lay (.tmp t)) (.bool c) τ) (cO keep lay x)) w.heap with
         | none=>rw [hr] at hv; exact hv.elim
         | some x=>
           rw [hr] at hv
           exact take _ _ x.2 hf' ⟨by rw [wanted_at h1 ht]; simp,x.1,by rw [hr],hv.1⟩ hv.2
        ·have e':c= !b:=by cases c <;> cases b <;> simp_all
         subst e'
         exact skip _ _ (hf.set hc) (by rw [wanted_at h1 ht]; cases b <;> rfl) (hv.2 rfl)
       ·rename_i hc
        replace hc:=guardOf_undef hc
        exact skip _ _ hf (wanted_un h1 (hf.tmp hc)) hv
       ·exact hv.elim
    ·-- an effect
     have one:∀ (i:Nat) (dt:DT),(match ops[i]? with
      | some o=>match stripG P n ops.toList o with
        | some r=>match canonD P n keep ops l read k (layD keep lay r.d) (listed.setIfInBounds i true) with
          | some next=>some (DT.ef i (r.g.map fun p=>(cO keep lay (.tmp p.1),p.2)) (cD keep r.d) (r.s.map (cO keep lay)) next)
          | none=>none
        | none=>none
      | none=>none)=some dt→i ∈ Region.ready .any ops listed→vcD P E dt pend σ τ w.heap K→
      wpOp P ops Q i (fun a' w'=>SP pend (listed.setIfInBounds i true) w'∧wpAnyG P .any ops Q (SP pend) k (listed.setIfInBounds i true) a' w') a w:=by
      intro i dt h hi hv
      split at h
      case h_2=>cases h
      rename_i o ho
      split at h
      case h_2=>cases h
      rename_i r hg
      split at h
      case h_2=>cases h
      rename_i next hnext
      simp only [Option.some.injEq] at h; subst h
      obtain ⟨hd,h1,h2,hdd⟩:=stripG_spec hg
      rw [hdd] at hnext hv
      unfold wpOp
      rw [ho]
      -- what follows
      have go:∀ (σ':Slots) (τ':List Value) (a':Act) (w':World),F2 n dd keep (layD keep lay o.dst) σ' τ' a'→Same w0 w'→pendOk w'.heap (pendDrop i pend)→vcD P E next (pendDrop i pend) σ' τ' w'.heap K→
       SP pend (listed.setIfInBounds i true) w'∧wpAnyG P .any ops Q (SP pend) k (listed.setIfInBounds i true) a' w':=by
       intro σ' τ' a' w' hf' hs' hpo hv'
       have hSd:SP (pendDrop i pend) (listed.setIfInBounds i true) w':=fun e he _=>pendOk_mem hpo e he
       have up:∀ L w,L.getD i true=true→SP (pendDrop i pend) L w→SP pend L w:=fun L w hL h e he hd=>by
        by_cases hi:i ∈ e.1
        ·have:=hd i hi; rw [hL] at this; cases this
        ·exact h e (mem_pendDrop.2 ⟨he,hi⟩) hd
       exact ⟨up _ _ getD_set_self hSd,wpAnyG_mono' up _ _ _ _ getD_set_self (ih _ _ _ hnext _ _ _ _ _ hf' hs' (hp.drop i) hSd hv')⟩
      have same:∀ σ' τ' a',F2 n dd keep (layD keep lay o.dst) σ' τ' a'→vcD P E next (pendDrop i pend) σ' τ' w.heap K→SP pend (listed.setIfInBounds i true) w∧wpAnyG P .any ops Q (SP pend) k (listed.setIfInBounds i true) a' w:=by
       intro σ' τ' a' hf' hv'
       have hS1:=SP_set' (i:=i) hS
       have hSd:SP (pendDrop i pend) (listed.setIfInBounds i true) w:=fun e he hd=>hS1 e (mem_pendDrop.1 he).1 hd
       have up:∀ L w,L.getD i true=true→SP (pendDrop i pend) L w→SP pend L w:=fun L w hL h e he hd=>by
        by_cases hi:i ∈ e.1
        ·have:=hd i hi; rw [hL] at this; cases this
        ·exact h e (mem_pendDrop.2 ⟨he,hi⟩) hd
       exact ⟨hS1,wpAnyG_mono' up _ _ _ _ getD_set_self (ih _ _ _ hnext _ _ _ _ _ hf' hs (hp.drop i) hSd hv')⟩
      cases hgg:r.g with
      | none=>
        rw [hgg] at h1 hv
        simp only [Option.map_none,vcD,vc_map] at hv
        simp only [wanted_none (guardSlot_none h1),if_true]
        exact .inl ((stripOp_ok h2 hf.agree hv).wp (fun v w' hR hs'=>go _ _ _ w' (hf.put hd v) (hs.trans hs') hR.1 hR.2) fun c w' hc hs'=>hE c a w' hf.fixd (hs.trans hs') hc)
      | some p=>
        obtain ⟨t,b⟩:=p
        rw [hgg] at h1 hv
        simp only [Option.map_some,vcD,vc_map] at hv
        split at hv
        ·rename_i c hc
         replace hc:=guardOf_bool hc
         have ht:=hf.tmp hc
         simp only [wanted_at h1 ht]
         by_cases e:c=b
         ·subst e
          simp only [beq_self_eq_true,if_true]
          have hf':=hf.set hc
          exact .inl ((stripOp_ok h2 hf'.agree (hv.1 rfl)).wp (fun v w' hR hs'=>go _ _ _ w' (hf'.put hd v) (hs.trans hs') hR.1 hR.2) fun c w' hc hs'=>hE c a w' hf'.fixd (hs.trans hs') hc)
         ·have e':c= !b:=by cases c <;> cases b <;> simp_all
          subst e'
          rw [if_neg (by cases b <;> simp)]
          exact same _ _ _ ((hf.set hc).put hd undef) (hv.2 rfl)
        ·rename_i hc
         replace hc:=guardOf_undef hc
         simp only [wanted_un h1 (hf.tmp hc),Bool.false_eq_true,if_false]
         exact same _ _ _ (hf.put hd undef) hv
        ·exact hv.elim
     split at h
     ·refine ⟨fun h0=>(by rw [hr] at h0; cases h0),fun j hj=>?_⟩
      rw [hr] at hj
      simp at hj; subst hj
      exact one j dt h (by rw [hr]; simp) hv
     ·rename_i j
      split at h
      ·rename_i d1 d2 e1 e2
       simp at h; subst h
       refine ⟨fun h0=>(by rw [hr] at h0; cases h0),fun q hq=>?_⟩
       rw [hr] at hq
       simp at hq
       rcases hq with rfl | rfl
       ·exact one q d1 e1 (by rw [hr]; simp) hv.1
       ·exact one q d2 e2 (by rw [hr]; simp) hv.2
      ·simp at h
     ·simp at h
end
end Gx
end
section
namespace Gx
open Go
abbrev Env:=List (Nat × Value)
def Env.get:Env→Nat→Option Value
 | [],_=>none
 | (i,v) :: r,t=>if i=t then some v else Env.get r t
def mkS:List Nat→Env→Slots
 | [],_=>[]
 | t :: r,E=>Env.get E t :: mkS r E
def lookS:List Nat→Slots→Nat→Option Value
 | k :: ks,s :: ss,t=>if k=t then s else lookS ks ss t
 | _,_,_=>none
def knowsK (keep:List Nat) (σ:Slots):Env→Prop
 | []=>True
 | (t,v) :: r=>lookS keep σ t=some v∧knowsK keep σ r
theorem mkS_get:∀ {keep:List Nat} {E:Env} {t k:Nat} {v:Value},posOf keep t=some k→(mkS keep E)[k]?=some (some v)→E.get t=some v
 | [],E,t,k,v,h,_=>by simp [posOf] at h
 | x :: r,E,t,k,v,h,hv=>by
   simp only [posOf] at h
   split at h
   ·rename_i e; subst e; simp at h; subst h
    simpa [mkS] using hv
   ·split at h
    ·rename_i j hj; simp at h; subst h
     exact mkS_get hj (by simpa [mkS] using hv)
    ·cases h
theorem lookS_pos:∀ {keep:List Nat} {σ:Slots} {t:Nat} {v:Value},lookS keep σ t=some v→∃ k,posOf keep t=some k∧σ[k]?=some (some v)
 | [],σ,t,v,h=>by simp [lookS] at h
 | x :: r,[],t,v,h=>by simp [lookS] at h
 | x :: r,s :: ss,t,v,h=>by
   simp only [lookS] at h
   split at h
   ·rename_i e; subst e; subst h; exact ⟨0,by simp [posOf],rfl⟩
   ·rename_i e
    obtain ⟨k,h1,h2⟩:=lookS_pos h
    exact ⟨k + 1,by simp [posOf,if_neg e,h1],by simpa using h2⟩
theorem knows_get {keep:List Nat} {σ:Slots}:∀ {E:Env} {t:Nat} {v:Value},knowsK keep σ E→E.get t=some v→lookS keep σ t=some v
 | [],t,v,_,h=>by simp [Env.get] at h
 | (i,u) :: r,t,v,hk,h=>by
   simp only [Env.get] at h
   split at h
   ·rename_i e; subst e; simp at h; subst h; exact hk.1
   ·exact knows_get hk.2 h
theorem F2.head {n:Nx} {dd:DD} {keep lay:List Nat} {σ:Slots} {τ:List Value} {a:Act} {E:Env} (h:F2 n dd keep lay σ τ a) (hk:knowsK keep σ E):F2 n dd keep [] (mkS keep E) [] a:=by
 refine ⟨h.size,h.fixd,fun t k v ht hv=>?_,fun t k v _ hk _=>by simp [posOf] at hk⟩
 obtain ⟨j,h1,h2⟩:=lookS_pos (knows_get hk (mkS_get ht hv))
 exact h.slots t j v h1 h2
theorem F2.rest {n:Nx} {dd:DD} {keep lay:List Nat} {σ:Slots} {τ:List Value} {a:Act} (h:F2 n dd keep lay σ τ a):F2 n dd keep [] σ [] a:=
 ⟨h.size,h.fixd,h.slots,fun t k v _ hk _=>by simp [posOf] at hk⟩
inductive SCode where
 | skip
 | ops (l:List GOp)
 | dq (l:List GOp)
 | de (t:DT)
 | seq (a b:SCode)
 | cond (c:Opd) (thn els:SCode)
 | block (id:Nat) (body:SCode)
 | loop (keep:List Nat) (body:SCode)
 | exit (id:Nat)
 | ret
inductive X where
 | nrm
 | ext (id:Nat)
 | ret
abbrev Post:=X→Slots→Heap→Prop
def nrmK (Q:Post):Slots→Heap→Prop:=fun σ H=>Q .nrm σ H
def seqK (F:Slots→Heap→Prop) (Q:Post):Post
 | .nrm,ρ,H=>F ρ H
 | .ext i,ρ,H=>Q (.ext i) ρ H
 | .ret,ρ,H=>Q .ret ρ H
def blockK (id:Nat) (Q:Post):Post
 | .nrm,ρ,H=>Q .nrm ρ H
 | .ext i,ρ,H=>if i=id then Q .nrm ρ H else Q (.ext i) ρ H
 | .ret,ρ,H=>Q .ret ρ H
def condN (A B:Prop):Option Value→Prop
 | some (.bool t)=>(t=true→A)∧(t=false→B)
 | _=>False
def loopK {α:Type} (keep:List Nat) (I:α→Heap→Prop) (E:α→Env) (μ:α→Nat) (x:α):Slots→Heap→Prop:=
 fun σ' H'=>∃ y,μ y < μ x∧knowsK keep σ' (E y)∧I y H'
def vc (P:Program) (E:Chain→Heap→Prop):SCode→Slots→Heap→Post→Prop
 | .skip,σ,H,Q=>Q .nrm σ H
 | .ops l,σ,H,Q=>vcOps P E l σ [] H (nrmK Q)
 | .dq l,σ,H,Q=>vcOps P E l σ [] H (nrmK Q)
 | .de t,σ,H,Q=>vcD P E t [] σ [] H (nrmK Q)
 | .seq a b,σ,H,Q=>vc P E a σ H (seqK (fun σ H=>vc P E b σ H Q) Q)
 | .cond c a b,σ,H,Q=>condN (vc P E a σ H Q) (vc P E b σ H Q) (evO σ [] c)
 | .block id c,σ,H,Q=>vc P E c σ H (blockK id Q)
 | .loop keep c,σ,H,Q=>∃ (α:Type) (I:α→Heap→Prop) (En:α→Env) (μ:α→Nat) (x₀:α),I x₀ H∧knowsK keep σ (En x₀)∧
  ∀ x H,I x H→vc P E c (mkS keep (En x)) H (seqK (loopK keep I En μ x) Q)
 | .exit i,σ,H,Q=>Q (.ext i) σ H
 | .ret,σ,H,Q=>Q .ret σ H
def stripOps (P:Program) (n:Nx) (ops:List Oper):List Oper→Option (List RawG)
 | []=>some []
 | o :: r=>match stripG P n ops o,stripOps P n ops r with
   | some g,some gs=>some (g :: gs)
   | _,_=>none
def strip (P:Program) (n:Nx) (keep:List Nat):Code→Option SCode
 | .skip=>some .skip
 | .region _ ops draw=>
   match stripOps P n ops.toList ops.toList with
   | some gs=>
     if draw then
      if gs.all (fun g=>g.s.reads) && Region.lexB .any ops && P.follows .mixedOrders then some (.dq (comp keep (gs.length + 1) none [] gs))
      else if P.follows .mixedOrders && Region.noSelect ops then
       match canonD P n keep ops ops.toList (ops.toList.map (opReads P)) ops.size [] (Array.replicate ops.size false) with
       | some t=>some (.de t)
       | none=>none
      else none
     else some (.ops (comp keep (gs.length + 1) none [] gs))
   | none=>none
 | .seq a b=>match strip P n keep a,strip P n keep b with
   | some x,some y=>some (.seq x y)
   | _,_=>none
 | .cond c a b=>match strip P n keep a,strip P n keep b with
   | some x,some y=>some (.cond (cO keep [] c) x y)
   | _,_=>none
 | .block id c=>match strip P n keep c with
   | some x=>some (.block id x)
   | none=>none
 | .loop c=>match strip P n keep c with
   | some x=>some (.loop keep x)
   | none=>none
 | .exit i=>some (.exit i)
 | .ret=>some .ret
 | .scope c=>strip P n keep c
 | .label _=>some .skip
 | _=>none
section
variable {P:Program} {E:Chain→Heap→Prop} {n:Nx} {dd:DD}
theorem stripOps_aligned {ops:Array Oper}:∀ {l:List Oper} {gs:List RawG},stripOps P n ops.toList l=some gs→Aligned P n ops l gs
 | [],gs,h=>by simp [stripOps] at h; subst h; exact ⟨rfl,fun j o hj=>by simp at hj⟩
 | o :: l,gs,h=>by
   simp only [stripOps] at h
   split at h
   ·rename_i g gs' h1 h2
    simp at h; subst h
    have ih:=stripOps_aligned h2
    refine ⟨by simp [ih.1],fun j o' hj=>?_⟩
    cases j with
    | zero=>simp at hj; subst hj; exact ⟨g,rfl,h1⟩
    | succ j=>simpa using ih.2 j o' (by simpa using hj)
   ·simp at h
theorem aligned_dst {ops:Array Oper} {l:List Oper} {gs:List RawG} (h:Aligned P n ops l gs):∀ o ∈ l,dstOk n o.dst=true:=by
 intro o ho
 obtain ⟨j,hj,rfl⟩:=List.getElem_of_mem ho
 obtain ⟨g,_,hg⟩:=h.2 j _ (List.getElem?_eq_getElem hj)
 exact (stripG_spec hg).1
theorem allowed_all {gs:List RawG}:rawAllow (Sense.all P E) gs=true:=by
 simp only [rawAllow,List.all_eq_true]
 intro g _; rfl
theorem allowed_quiet {gs:List RawG} (h:gs.all (fun g=>g.s.reads)=true):rawAllow (Sense.quiet P E) gs=true:=h
def QX (E:Chain→Heap→Prop) (n:Nx) (dd:DD) (keep:List Nat) (w0:World) (Q:Post):Exit→Act→World→Prop
 | .normal,a,w=>Same w0 w∧∃ σ,F2 n dd keep [] σ [] a∧Q .nrm σ w.heap
 | .exit i,a,w=>Same w0 w∧∃ σ,F2 n dd keep [] σ [] a∧Q (.ext i) σ w.heap
 | .ret,a,w=>Same w0 w∧∃ σ,F2 n dd keep [] σ [] a∧Q .ret σ w.heap
 | .panic c,a,w=>Same w0 w∧Fixed n dd a∧E c w.heap
 | _,_,_=>False
theorem wpQuiet_mono {ops:Array Oper} {C:World→Prop} {Q Q':Act→Prop} (h:∀ a,Q a→Q' a):∀ (l:List Oper) (a:Act),wpQuiet P ops C Q l a→wpQuiet P ops C Q' l a
 | [],a,hq=>h a hq
 | o :: l,a,hq=>by
   unfold wpQuiet at *
   split
   ·rename_i hw; rw [if_pos hw] at hq; exact Oper.quiet_mono (fun a=>wpQuiet_mono h l a) hq
   ·rename_i hw; rw [if_neg hw] at hq; exact wpQuiet_mono h l _ hq
theorem vc_sound {keep:List Nat}:∀ (c:Code) {s:SCode},strip P n keep c=some s→∀ {σ:Slots} {a:Act} {w w0:World} {Q:Post},F2 n dd keep [] σ [] a→Same w0 w→vc P E s σ w.heap Q→c.wp P (QX E n dd keep w0 Q) a w
 | .skip,s,hs,σ,a,w,w0,Q,hf,hw,hv=>by
   simp [strip] at hs; subst hs
   exact wp_skip ⟨hw,σ,hf,hv⟩
 | .exit i,s,hs,σ,a,w,w0,Q,hf,hw,hv=>by
   simp [strip] at hs; subst hs
   exact wp_exit ⟨hw,σ,hf,hv⟩
 | .ret,s,hs,σ,a,w,w0,Q,hf,hw,hv=>by
   simp [strip] at hs; subst hs
   exact wp_ret ⟨hw,σ,hf,hv⟩
 | .region id ops draw,s,hs,σ,a,w,w0,Q,hf,hw,hv=>by
   simp only [strip] at hs
   split at hs
   case h_2=>simp at hs
   rename_i gs hgs
   have hal:=stripOps_aligned hgs
   cases draw with
   | false=>
     simp only [Bool.false_eq_true,if_false,Option.some.injEq] at hs; subst hs
     have:=comp_sound (keep:=keep) (Sense.all P E) (Q:=fun a H=>∃ σ,F2 n dd keep [] σ [] a∧Q .nrm σ H) (K:=nrmK Q) (fun lay σ τ a H hf h=>⟨_,hf.rest,h⟩) (gs.length + 1) none [] gs ops.toList hal allowed_all σ [] a w.heap hf hv
     exact wp_region_list (wpList_of_runL (n:=n) (dd:=dd) ops.toList a w w0 hw hf.fixd (aligned_dst hal) (fun a w' hs' h=>⟨hs',h⟩) (fun c a w' hd hs' hE=>⟨hs',hd,hE⟩) this)
   | true=>
     simp only [if_true] at hs
     split at hs
     ·rename_i hc
      simp only [Bool.and_eq_true] at hc
      simp only [Option.some.injEq] at hs; subst hs
      have:=comp_sound (keep:=keep) (Sense.quiet P E) (Q:=fun a H=>∃ σ,F2 n dd keep [] σ [] a∧Q .nrm σ H) (K:=nrmK Q) (fun lay σ τ a H hf h=>⟨_,hf.rest,h⟩) (gs.length + 1) none [] gs ops.toList hal (allowed_quiet hc.1.1) σ [] a w.heap hf hv
      have hq:=wpQuiet_of_runL (w0:=w0) _ _ this
      refine wp_region_quiet (C:=fun w'=>w'.heap=w.heap∧Same w0 w') hc.2 hc.1.2 ⟨rfl,⟨hw.os,hw.tape,hw.output⟩⟩ ?_
      refine wpQuiet_mono (fun a h w' hw'=>?_) _ _ hq
      obtain ⟨σ,h1,h2⟩:=h
      exact ⟨hw'.2,σ,h1,hw'.1 ▸ h2⟩
     ·split at hs
      ·rename_i hc
       simp only [Bool.and_eq_true] at hc
       split at hs
       ·rename_i dt hdt
        simp only [Option.some.injEq] at hs; subst hs
        refine wp_region_any hc.1 (wpAny_of_G _ _ _ _ (canonD_sound (w0:=w0) (K:=nrmK Q) (fun c a w hd hs' hE=>⟨hs',hd,hE⟩) (fun c a d v w hd h=>⟨h.1,h.2.1.unput hd,h.2.2⟩) (fun lay σ τ a w hf hs hK=>⟨hs,_,hf.rest,hK⟩) hc.2 _ _ _ _ hdt σ [] a _ [] hf ⟨hw.os,hw.tape,hw.output⟩ (fun e he=>by cases he) (fun e he=>by cases he) hv))
       ·simp at hs
      ·simp at hs
 | .seq c d,s,hs,σ,a,w,w0,Q,hf,hw,hv=>by
   simp only [strip] at hs
   split at hs
   ·rename_i x y h1 h2
    simp only [Option.some.injEq] at hs; subst hs
    refine wp_seq (wp_mono (vc_sound c h1 hf hw hv) fun e a' w' hq=>?_)
    cases e <;> simp only [QX,Exit.then] at hq ⊢
    ·obtain ⟨hw',σ',hf',hv'⟩:=hq
     exact vc_sound d h2 hf' hw' hv'
    ·exact hq
    ·exact hq
    ·exact hq
   ·simp at hs
 | .cond x c d,s,hs,σ,a,w,w0,Q,hf,hw,hv=>by
   simp only [strip] at hs
   split at hs
   ·rename_i s1 s2 h1 h2
    simp only [Option.some.injEq] at hs; subst hs
    simp only [vc,condN] at hv
    split at hv
    ·rename_i t ht
     exact wp_cond_split (hf.agree x _ ht) (fun e=>vc_sound c h1 hf hw (hv.1 e)) (fun e=>vc_sound d h2 hf hw (hv.2 e))
    ·exact hv.elim
   ·simp at hs
 | .block id c,s,hs,σ,a,w,w0,Q,hf,hw,hv=>by
   simp only [strip] at hs
   split at hs
   ·rename_i s1 h1
    simp only [Option.some.injEq] at hs; subst hs
    refine wp_block (wp_mono (vc_sound c h1 hf hw hv) fun e a' w' hq=>?_)
    cases e <;> simp only [QX,Exit.inBlock,blockK] at hq ⊢
    ·exact hq
    ·obtain ⟨hw',σ',hf',hv'⟩:=hq
     split at hv'
     ·rename_i e; rw [if_pos e]; exact ⟨hw',σ',hf',hv'⟩
     ·rename_i e; rw [if_neg e]; exact ⟨hw',σ',hf',hv'⟩
    ·exact hq
    ·exact hq
   ·simp at hs
 | .loop c,s,hs,σ,a,w,w0,Q,hf,hw,hv=>by
   simp only [strip] at hs
   split at hs
   ·rename_i s1 h1
    simp only [Option.some.injEq] at hs; subst hs
    obtain ⟨α,I,En,μ,x₀,hI,hk,hround⟩:=hv
    refine wp_loop_ghost (fun m a w=>Same w0 w∧∃ x,F2 n dd keep [] (mkS keep (En x)) [] a∧I x w.heap∧μ x=m) (μ x₀) ⟨hw,x₀,hf.head hk,hI,rfl⟩ fun m a w ⟨hw,x,hf,hI,hm⟩=>?_
    refine wp_mono (vc_sound c h1 hf hw (hround x w.heap hI)) fun e a' w' hq=>?_
    cases e <;> simp only [QX,Exit.then,seqK] at hq ⊢
    ·obtain ⟨hw',σ',hf',y,hlt,hk,hI'⟩:=hq
     exact ⟨μ y,hm ▸ hlt,hw',y,hf'.head hk,hI',rfl⟩
    ·exact hq
    ·exact hq
    ·exact hq
   ·simp at hs
 | .rangeFunc ..,s,hs,σ,a,w,w0,Q,hf,hw,hv=>by simp [strip] at hs
 | .scope c,s,hs,σ,a,w,w0,Q,hf,hw,hv=>by
   simp only [strip] at hs
   refine wp_scope_straight (wp_mono (vc_sound c hs hf hw hv) fun e a' w' hq=>?_)
   cases e <;> first | exact hq | exact hq.elim
 | .label _,s,hs,σ,a,w,w0,Q,hf,hw,hv=>by
   simp [strip] at hs; subst hs
   exact wp_label ⟨hw,σ,hf,hv⟩
 | .goto _,s,hs,σ,a,w,w0,Q,hf,hw,hv=>by simp [strip] at hs
 | .refuse _,s,hs,σ,a,w,w0,Q,hf,hw,hv=>by simp [strip] at hs
end
end Gx
end
section
namespace Gx
open Go
inductive RV where
 | tmp (t:Opd)
 | cell (t:Opd) (sz:Option Nat)
def RV.val (σ:Slots) (H:Heap):RV→Option Value
 | .tmp t=>evO σ [] t
 | .cell t sz=>ldN H sz (evO σ [] t)
def resV (σ:Slots) (H:Heap):List RV→Option (List Value)
 | []=>some []
 | r :: rs=>match r.val σ H,resV σ H rs with
   | some v,some vs=>some (v :: vs)
   | _,_=>none
def finN (R:Value→Heap→Prop) (H:Heap):Option (List Value)→Prop
 | some [v]=>R v H
 | some vs=>R (.tuple vs.toArray) H
 | none=>False
def finQ (rs:List RV) (R:Value→Heap→Prop):Post
 | .nrm,σ,H=>finN R H (resV σ H rs)
 | .ret,σ,H=>finN R H (resV σ H rs)
 | .ext _,_,_=>False
def argV:Option Value→Option Value
 | some v=>some v
 | none=>some undef
def argS:List Nat→List Value→Slots
 | [],_=>[]
 | t :: r,vs=>argV vs.toArray[t]? :: argS r vs
def stripRV (P:Program) (keep:List Nat):ResultVar→Option RV
 | .tmp t=>some (.tmp (cO keep [] (.tmp t)))
 | .cell a t=>match isAggB P t with
   | some false=>some (.cell (cO keep [] (.tmp a)) none)
   | some true=>(sizeOfB P t).map fun n=>.cell (cO keep [] (.tmp a)) (some n)
   | none=>none
def stripRVs (P:Program) (keep:List Nat):List ResultVar→Option (List RV)
 | []=>some []
 | r :: rs=>match stripRV P keep r,stripRVs P keep rs with
   | some x,some xs=>some (x :: xs)
   | _,_=>none
structure Fn where
 n:Nat
 keep:List Nat
 code:SCode
 res:List RV
def stripFn (P:Program) (keep:List Nat) (fn:Func):Option Fn:=
 if keep.all (fun t=>decide (t < fn.ntmps)) then
  match fn.body with
  | some c=>match strip P ⟨fn.ntmps,[]⟩ keep c,stripRVs P keep fn.results.toList with
    | some s,some rs=>some ⟨fn.ntmps,keep,s,rs⟩
    | _,_=>none
  | none=>none
 else none
section
variable {P:Program}
theorem argS_get:∀ {keep:List Nat} {vs:List Value} {t k:Nat} {v:Value},posOf keep t=some k→(argS keep vs)[k]?=some (some v)→vs[t]?=some v∨(vs[t]?=none∧v=undef)
 | [],vs,t,k,v,h,_=>by simp [posOf] at h
 | x :: r,vs,t,k,v,h,hv=>by
   simp only [posOf] at h
   split at h
   ·rename_i e; subst e; simp at h; subst h
    simp only [argS,List.getElem?_cons_zero,Option.some.injEq] at hv
    have e:vs.toArray[x]?=vs[x]?:=by simp
    rw [e] at hv
    cases hx:vs[x]? with
    | none=>rw [hx] at hv; simp [argV] at hv; exact .inr ⟨rfl,hv.symm⟩
    | some u=>rw [hx] at hv; simp [argV] at hv; exact .inl (by rw [hv])
   ·split at h
    ·rename_i j hj; simp at h; subst h
     exact argS_get hj (by simpa [argS] using hv)
    ·cases h
theorem fits_args {n:Nat} {dd:DD} {keep:List Nat} {vs:List Value} (h:vs.length≤n) (hk:keep.all (fun t=>decide (t < n))=true):F2 ⟨n,[]⟩ ⟨[],dd.fix⟩ keep [] (argS keep vs) [] { tmps:=vs.toArray ++ Array.replicate (n - vs.toArray.size) undef,defers:=[] }:=by
 refine ⟨by simp; omega,⟨rfl,fun t ht=>by cases ht⟩,fun t k v ht hv=>?_,fun t k v _ hk _=>by simp [posOf] at hk⟩
 have htn:t < n:=by
  have:=List.mem_of_getElem? (posOf_get ht)
  have:=List.all_eq_true.1 hk t this
  simpa using this
 rcases argS_get ht hv with h1 | ⟨h1,rfl⟩
 ·have hlt:t < vs.length:=by
   rcases Nat.lt_or_ge t vs.length with h | h
   ·exact h
   ·rw [List.getElem?_eq_none h] at h1; cases h1
  simp [Array.getElem?_append,hlt]
  simpa [hlt] using h1
 ·have hge:vs.length≤t:=by
   rcases Nat.lt_or_ge t vs.length with h | h
   ·rw [List.getElem?_eq_getElem h] at h1; cases h1
   ·exact h
  rw [Array.getElem?_append_right (by simpa using hge)]
  simp [Array.getElem?_replicate]; omega
theorem run_loadVar_ok {a:Nat} {t:TypeId} {r:RV} {n:Nx} {dd:DD} {keep:List Nat} {σ:Slots} {act:Act} (h:stripRV P keep (.cell a t)=some r) (hf:F2 n dd keep [] σ [] act) {w:World} {v:Value} (hv:r.val σ w.heap=some v) :
 (do loadVar t (← asAddr (act.tmps.getD a undef)):Sem Value).run P w= .ok v w:=by
 have key:∀ sz,(sz=none∧isAggB P t=some false∨∃ n,sz=some n∧isAggB P t=some true∧sizeOfB P t=some n)→ldN w.heap sz (evO σ [] (cO keep [] (.tmp a)))=some v→(do loadVar t (← asAddr (act.tmps.getD a undef)):Sem Value).run P w= .ok v w:=by
  intro sz hsz hv
  unfold ldN at hv
  split at hv
  ·rename_i ad hx
   have:act.tmps.getD a undef= .pointer (some ad):=by simp [Array.getD_eq_getD_getElem?,hf.tmp hx]
   simp [this,asAddr,run_ld hsz hv]
  ·simp at hv
 simp only [stripRV] at h
 split at h
 ·rename_i hag; simp at h; subst h; exact key none (.inl ⟨rfl,hag⟩) hv
 ·rename_i hag
  simp only [Option.map_eq_some_iff] at h
  obtain ⟨k,hk,rfl⟩:=h
  exact key (some k) (.inr ⟨k,rfl,hag,hk⟩) hv
 ·simp at h
theorem run_results {n:Nx} {dd:DD} {keep:List Nat} {σ:Slots} {act:Act} (hf:F2 n dd keep [] σ [] act) {w:World} {f:ResultVar→Sem Value} (hf1:∀ t,f (.tmp t)=pure (act.tmps.getD t undef)) (hf2:∀ a t,f (.cell a t)=do loadVar t (← asAddr (act.tmps.getD a undef))) :
 ∀ {rs:List ResultVar} {xs:List RV} {vs:List Value},stripRVs P keep rs=some xs→resV σ w.heap xs=some vs→(rs.mapM f).run P w= .ok vs w
 | [],xs,vs,h,hv=>by simp [stripRVs] at h; subst h; simp [resV] at hv; subst hv; simp
 | r :: rs,xs,vs,h,hv=>by
   simp only [stripRVs] at h
   split at h
   ·rename_i x xs' h1 h2
    simp at h; subst h
    simp only [resV] at hv
    split at hv
    ·rename_i v vs' h3 h4
     simp at hv; subst hv
     have ih:=run_results hf hf1 hf2 h2 h4
     have hr:(f r).run P w= .ok v w:=by
      cases r with
      | tmp t=>
        simp [stripRV] at h1; subst h1
        simp only [RV.val] at h3
        simp [hf1,Array.getD_eq_getD_getElem?,hf.tmp h3]
      | cell a t=>rw [hf2]; exact run_loadVar_ok h1 hf h3
     simp only [List.mapM_cons,Sem.run_bind,hr,Result.andThen_ok,ih,Sem.run_pure]
    ·simp at hv
   ·simp at h
theorem results_ok {fn:Func} {n:Nx} {dd:DD} {keep:List Nat} {σ:Slots} {act:Act} (hf:F2 n dd keep [] σ [] act) {w:World} {xs:List RV} {vs:List Value} (h:stripRVs P keep fn.results.toList=some xs) (hv:resV σ w.heap xs=some vs) :
 (results fn act.tmps).run P w= .ok (match vs with | [v]=>v | vs=>.tuple vs.toArray) w:=by
 simp only [results,Array.mapM_eq_mapM_toList,Sem.run_bind,Sem.run_map]
 rw [run_results hf (fun _=>rfl) (fun _ _=>rfl) h hv]
 simp only [Result.andThen_ok,Sem.run_pure]
 match vs with
 | []=>rfl
 | [v]=>rfl
 | v :: u :: r=>simp
theorem pcalls_of_vc {f:Nat} {fn:Func} {keep:List Nat} {F:Fn} {args:List Value} {H:Heap} {R:Value→Heap→Prop} {E:Chain→Heap→Prop} (hf:P.funcs[f]?=some fn) (hs:stripFn P keep fn=some F)
 (hn:args.length≤F.n) (h:vc P E F.code (argS F.keep args) H (finQ F.res R)):PCalls P f args.toArray H R E:=by
 unfold stripFn at hs
 split at hs
 case isFalse=>cases hs
 rename_i hkn
 split at hs
 ·rename_i c hb
  split at hs
  ·rename_i s rs h1 h2
   simp at hs; subst hs
   intro w hw
   subst hw
   refine calls_of_wp hf hb ?_
   refine wp_mono (vc_sound c h1 (fits_args (dd:=⟨[],fun _=>undef⟩) hn hkn) (Same.refl w) h) fun e a w' hq=>?_
   have fin:∀ σ,F2 ⟨fn.ntmps,[]⟩ ⟨[],fun _=>undef⟩ keep [] σ [] a→Same w w'→finN R w'.heap (resV σ w'.heap rs)→a.defers=[]∧∃ v,(results fn a.tmps).run P w'= .ok v w'∧EndH R E w (.returned v) w':=by
    intro σ hfit hsame hfin
    refine ⟨hfit.fixd.1,?_⟩
    cases hr:resV σ w'.heap rs with
    | none=>rw [hr] at hfin; exact hfin.elim
    | some vs=>
      rw [hr] at hfin
      refine ⟨_,results_ok hfit h2 hr,?_,hsame⟩
      match vs,hfin with
      | [],hfin=>exact hfin
      | [v],hfin=>exact hfin
      | v :: u :: r,hfin=>exact hfin
   cases e <;> simp only [QX,bodyPost,finQ] at hq ⊢
   ·obtain ⟨hsame,σ,hfit,hfin⟩:=hq; exact fin σ hfit hsame hfin
   ·obtain ⟨_,_,_,hfin⟩:=hq; exact hfin
   ·obtain ⟨hsame,σ,hfit,hfin⟩:=hq; exact fin σ hfit hsame hfin
   ·obtain ⟨hsame,hfx,hE⟩:=hq; exact ⟨hfx.1,hE,hsame⟩
  ·simp at hs
 ·simp at hs
theorem calls_of_vc {f:Nat} {fn:Func} {keep:List Nat} {F:Fn} {args:List Value} {H:Heap} {R:Value→Heap→Prop} (hf:P.funcs[f]?=some fn) (hs:stripFn P keep fn=some F)
 (hn:args.length≤F.n) (h:vc P (fun _ _=>False) F.code (argS F.keep args) H (finQ F.res R)):HCalls P f args.toArray H R:=pcalls_of_vc hf hs hn h
end
end Gx
end
