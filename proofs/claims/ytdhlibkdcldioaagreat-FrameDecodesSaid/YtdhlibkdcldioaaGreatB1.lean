import Derived.Tactics
import Derived.Orders
import Derived.Laws.AppendOwn
import Derived.WalkKit
import Derived.KernelRfl
section
namespace Gx
open Go
abbrev Heap:=Array Obj
def Agree (ev:Operand→Option Value) (a:Act):Prop:=∀ x v,ev x=some v→a.eval x=v
def evs {O:Type} (ev:O→Option Value):List O→Option (List Value)
 | []=>some []
 | x :: r=>match ev x,evs ev r with
   | some v,some vs=>some (v :: vs)
   | _,_=>none
theorem Agree.ev {ev:Operand→Option Value} {a:Act} (h:Agree ev a) {x:Operand} {v:Value} (hv:ev x=some v):a.eval x=v:=h x v hv
theorem Agree.evs {ev:Operand→Option Value} {a:Act} (h:Agree ev a):∀ {xs:List Operand} {vs:List Value},Gx.evs ev xs=some vs→xs.map a.eval=vs
 | [],vs,hv=>by simp [Gx.evs] at hv; simp [← hv]
 | x :: xs,vs,hv=>by
   simp only [Gx.evs] at hv
   split at hv
   ·rename_i v vs' h1 h2
    simp at hv; subst hv
    simp [h.ev h1,h.evs h2]
   ·simp at hv
structure Same (w w':World):Prop where
 os:w'.os=w.os
 tape:w'.tape=w.tape
 output:w'.output=w.output
theorem Same.refl (w:World):Same w w:=⟨rfl,rfl,rfl⟩
theorem Same.trans {a b c:World} (h:Same a b) (k:Same b c):Same a c:=⟨k.os.trans h.os,k.tape.trans h.tape,k.output.trans h.output⟩
abbrev Chain:=List PanicEntry
def EndH (R:Value→Heap→Prop) (E:Chain→Heap→Prop) (w:World):Ending→World→Prop
 | .returned v,w'=>R v w'.heap∧Same w w'
 | .panicked c,w'=>E c w'.heap∧Same w w'
 | .outgrown,_=>False
def PCalls (P:Program) (f:FuncId) (args:Array Value) (H:Heap) (R:Value→Heap→Prop) (E:Chain→Heap→Prop):Prop:=
 ∀ w:World,w.heap=H→Calls P f args w (EndH R E w)
def HCalls (P:Program) (f:FuncId) (args:Array Value) (H:Heap) (R:Value→Heap→Prop):Prop:=PCalls P f args H R fun _ _=>False
theorem EndH.mono {R R':Value→Heap→Prop} {E E':Chain→Heap→Prop} {w:World} (hr:∀ v H',R v H'→R' v H') (he:∀ c H',E c H'→E' c H'):∀ e w',EndH R E w e w'→EndH R' E' w e w'
 | .returned _,_,h=>⟨hr _ _ h.1,h.2⟩
 | .panicked _,_,h=>⟨he _ _ h.1,h.2⟩
 | .outgrown,_,h=>h
theorem PCalls.mono {P:Program} {f:FuncId} {args:Array Value} {H:Heap} {R R':Value→Heap→Prop} {E E':Chain→Heap→Prop} (h:PCalls P f args H R E)
 (hr:∀ v H',R v H'→R' v H') (he:∀ c H',E c H'→E' c H'):PCalls P f args H R' E':=
 fun w hw=>(h w hw).mono (EndH.mono hr he)
theorem HCalls.mono {P:Program} {f:FuncId} {args:Array Value} {H:Heap} {R R':Value→Heap→Prop} {E':Chain→Heap→Prop} (h:HCalls P f args H R)
 (hr:∀ v H',R v H'→R' v H'):PCalls P f args H R' E':=PCalls.mono h hr (fun _ _ h=>h.elim)
theorem HCalls.out {P:Program} {f:FuncId} {args:Array Value} {H:Heap} {R:Value→Heap→Prop} (h:HCalls P f args H R) (w:World) (hw:w.heap=H) :
 Calls P f args w fun e w'=>∃ v,e= .returned v∧R v w'.heap∧Same w w':=
 (h w hw).mono fun e w' he=>by
  cases e with
  | returned v=>exact ⟨v,rfl,he.1,he.2⟩
  | panicked c=>exact he.1.elim
  | outgrown=>exact he.elim
def cellAt (H:Heap) (a:Addr):Option Value:=
 match H[a.block]? with
 | some (.cells c _ _)=>if a.spot.isSome then none else c[a.off]?
 | _=>none
theorem cell?_eq (w:World) (a:Addr):w.cell? a=cellAt w.heap a:=rfl
def frozenAt (H:Heap) (a:Addr):Bool:=
 match H[a.block]? with
 | some (.cells _ _ (lo,hi))=>lo≤a.off && a.off < hi
 | _=>false
def setCellH (H:Heap) (a:Addr) (v:Value):Heap:=
 H.modify a.block fun
  | .cells c elem frozen=>.cells (if a.spot.isSome then c else c.setIfInBounds a.off v) elem frozen
  | o=>o
def OpOk (P:Program) (E:Chain→Heap→Prop) (o:Oper) (ev:Operand→Value) (H:Heap) (R:Value→Heap→Prop):Prop:=
 ∀ w:World,w.heap=H→match (execOp ev o).run P w with
   | .ok (.value v) w'=>R v w'.heap∧Same w w'
   | .ok .skip w'=>R undef w'.heap∧Same w w'
   | .ok (.enter f args) w'=>Calls P f args w' (EndH R E w)
   | .halt (.panic v) w'=>E [{ v,recovered:=false }] w'.heap∧Same w w'
   | _=>False
theorem OpOk.mono {P:Program} {E:Chain→Heap→Prop} {o:Oper} {ev:Operand→Value} {H:Heap} {R R':Value→Heap→Prop} (h:OpOk P E o ev H R) (hr:∀ v H',R v H'→R' v H'):OpOk P E o ev H R':=by
 intro w hw
 have:=h w hw
 split at this
 ·exact ⟨hr _ _ this.1,this.2⟩
 ·exact ⟨hr _ _ this.1,this.2⟩
 ·exact this.mono (EndH.mono hr fun _ _ h=>h)
 ·exact this
 ·exact this
theorem OpOk.wp {P:Program} {E:Chain→Heap→Prop} {o:Oper} {a:Act} {w:World} {K:Act→World→Prop} {Q:Exit→Act→World→Prop} {R:Value→Heap→Prop}
 (h:OpOk P E o a.eval w.heap R) (hK:∀ v w',R v w'.heap→Same w w'→K (a.put o.dst v) w') (hE:∀ c w',E c w'.heap→Same w w'→Q (.panic c) a w'):o.wp P a w K Q:=by
 have:=h w rfl
 unfold Oper.wp
 generalize (execOp a.eval o).run P w=r at *
 cases r with
 | ok n w'=>
   cases n <;> simp only at this <;> try exact this.elim
   ·exact hK _ _ this.1 this.2
   ·exact hK _ _ this.1 this.2
   ·rename_i f args
    simp only [Oper.upon]
    exact this.mono fun e w'' hend=>by
     cases e with
     | returned v=>exact hK _ _ hend.1 hend.2
     | panicked c=>exact hE _ _ hend.1 hend.2
     | outgrown=>exact hend.elim
 | halt x w'=>
   cases x <;> simp only at this <;> try exact this.elim
   exact hE _ _ this.1 this.2
def OpVal (P:Program) (o:Oper) (ev:Operand→Value) (H:Heap) (v:Value):Prop:=
 ∀ w:World,w.heap=H→(execOp ev o).run P w= .ok (.value v) w
theorem OpVal.ok {P:Program} {E:Chain→Heap→Prop} {o:Oper} {ev:Operand→Value} {H:Heap} {v:Value} {R:Value→Heap→Prop} (h:OpVal P o ev H v) (hR:R v H):OpOk P E o ev H R:=by
 intro w hw
 rw [h w hw]
 exact ⟨hw ▸ hR,Same.refl _⟩
end Gx
end
section
namespace Gx
open Go
inductive LK where
 | i
 | s
 | b
 deriving Inhabited
inductive PE (O:Type) where
 | mv (x:O)
 | pick (c a b:O)
 | bin (op:BinOp) (x y:O)
 | beq (neg:Bool) (x y:O)
 | steq (neg:Bool) (ks:List (Nat × LK)) (x y:O)
 | isnil (neg:Bool) (x:O)
 | isnils (neg:Bool) (x:O)
 | un (op:UnOp) (x:O)
 | cvi (k:IntKind) (x:O)
 | cvs (x:O)
 | fa (off:Nat) (x:O)
 | ix (size:Nat) (x i:O)
 | six (x i:O)
 | sl (size:Nat) (x:O) (lo hi:Option O)
 | ssl (x:O) (lo hi:Option O)
 | len (x:O)
 | slen (x:O)
 | fld1 (off:Nat) (x:O)
 | fldA (off size:Nat) (x:O)
 | ext (x:O) (i:Nat)
 | mm (max:Bool) (x y:O)
 | nc (x:O)
 | mkf (f:Nat) (first caps:List O)
 | mki (t:Nat) (x:O)
 | isnilf (neg:Bool) (x:O)
 | tya (t:Nat) (zero:Value) (x:O)
 | tyb (t:Nat) (x:O)
 | bld (zero:List Value) (parts:List (Nat × Nat × O))
 | ixa (size len:Nat) (x i:O)
def shlI (k:IntKind) (a b:Int):Int:=k.wrap (a * 2 ^ (min b.toNat k.bits))
def shrI (k:IntKind) (a b:Int):Int:=a.fdiv (2 ^ (min b.toNat k.bits))
def intV (op:BinOp) (k:IntKind) (a b:Int):Option (Prop × Value):=
 match op with
 | .add=>some (True,.int k (k.wrap (a + b)))
 | .sub=>some (True,.int k (k.wrap (a - b)))
 | .mul=>some (True,.int k (k.wrap (a * b)))
 | .quo=>some (b≠0,.int k (k.wrap (a.tdiv b)))
 | .rem=>some (b≠0,.int k (a.tmod b))
 | .and=>some (True,.int k (bits .and k a b))
 | .or=>some (True,.int k (bits .or k a b))
 | .xor=>some (True,.int k (bits .xor k a b))
 | .andNot=>some (True,.int k (bits .andNot k a b))
 | .eql=>some (True,.bool (decide (a=b)))
 | .neq=>some (True,.bool (!decide (a=b)))
 | .lss=>some (True,.bool (decide (a < b)))
 | .leq=>some (True,.bool (decide (a≤b)))
 | .gtr=>some (True,.bool (decide (b < a)))
 | .geq=>some (True,.bool (decide (b≤a)))
 | .shl=>some (0≤b,.int k (shlI k a b))
 | .shr=>some (0≤b,.int k (shrI k a b))
def strV (op:BinOp) (a b:ByteArray):Option (Prop × Value):=
 match op with
 | .add=>some (a.size + b.size≤9223372036854775807,.string (a ++ b))
 | .eql=>some (True,.bool (decide (a=b)))
 | .neq=>some (True,.bool (!decide (a=b)))
 | .lss=>some (True,.bool (Op.bytesLess a.data.toList b.data.toList))
 | .leq=>some (True,.bool (Op.bytesLess a.data.toList b.data.toList || decide (a=b)))
 | .gtr=>some (True,.bool (!(Op.bytesLess a.data.toList b.data.toList || decide (a=b))))
 | .geq=>some (True,.bool (!Op.bytesLess a.data.toList b.data.toList))
 | _=>none
def binV (op:BinOp):Value→Value→Option (Prop × Value)
 | .int k a,.int k' b=>
   match op with
   | .shl=>intV .shl k a b
   | .shr=>intV .shr k a b
   | op=>if k=k' then intV op k a b else none
 | .string a,.string b=>strV op a b
 | _,_=>none
def unV (op:UnOp):Value→Option (Prop × Value)
 | .int k n=>match op with
   | .neg=>some (True,.int k (k.wrap (0 - n)))
   | .xor=>some (True,.int k (bits .xor k (if k.signed then -1 else k.max) n))
   | _=>none
 | .bool b=>match op with
   | .not=>some (True,.bool (!b))
   | _=>none
 | _=>none
def slV (size:Nat) (a:Option Addr) (len cap:Nat) (lo hi:Option Int):Prop × Value:=
 match lo,hi with
 | none,none=>(True,.slice a len cap)
 | some l,none=>(0≤l∧l≤len,.slice (if cap=l.toNat then a else a.map (·.add (l.toNat * size))) (len - l.toNat) (cap - l.toNat))
 | none,some h=>(0≤h∧h≤cap,.slice a h.toNat cap)
 | some l,some h=>((0≤h∧h≤cap)∧0≤l∧l≤h,.slice (if cap=l.toNat then a else a.map (·.add (l.toNat * size))) (h.toNat - l.toNat) (cap - l.toNat))
def sslV (s:ByteArray) (lo hi:Option Int):Prop × Value:=
 match lo,hi with
 | none,none=>(True,.string (s.extract 0 s.size))
 | some l,none=>(0≤l∧l≤s.size,.string (s.extract l.toNat s.size))
 | none,some h=>(0≤h∧h≤s.size,.string (s.extract 0 h.toNat))
 | some l,some h=>((0≤h∧h≤s.size)∧0≤l∧l≤h,.string (s.extract l.toNat h.toNat))
def bnd {O:Type} (ev:O→Option Value):Option O→Option (Option Int)
 | none=>some none
 | some x=>match ev x with
   | some (.int _ n)=>some (some n)
   | _=>none
def fillV (cells:List Value):List (Nat × Nat × Value)→Option (List Value)
 | []=>some cells
 | (off,size,v) :: rest=>
   match v with
   | .agg cs=>if cs.size=size∧off + size≤cells.length then fillV (cells.take off ++ cs.toList ++ cells.drop (off + size)) rest else none
   | v=>if size=1∧off < cells.length then fillV (cells.set off v) rest else none
def partsE {O:Type} (ev:O→Option Value):List (Nat × Nat × O)→Option (List (Nat × Nat × Value))
 | []=>some []
 | (o,s,x) :: r=>match ev x,partsE ev r with
   | some v,some vs=>some ((o,s,v) :: vs)
   | _,_=>none
def pickV:Value→Value→Value→Option (Prop × Value)
 | .bool true,a,_=>some (True,a)
 | .bool false,_,b=>some (True,b)
 | _,_,_=>none
def pickN:Option Value→Option Value→Option Value→Option (Prop × Value)
 | some (.bool c),some (.bool a),some (.bool b)=>some (True,.bool (bif c then a else b))
 | some (.bool true),some a,_=>some (True,a)
 | some (.bool false),_,some b=>some (True,b)
 | _,_,_=>none
def mvN:Option Value→Option (Prop × Value)
 | some v=>some (True,v)
 | none=>none
def binN (op:BinOp):Option Value→Option Value→Option (Prop × Value)
 | some a,some b=>binV op a b
 | _,_=>none
def beqN (neg:Bool):Option Value→Option Value→Option (Prop × Value)
 | some (.bool a),some (.bool b)=>some (True,.bool (if neg then a != b else a == b))
 | _,_=>none
def leafEq:LK→Option Value→Option Value→Option Bool
 | .i,some (.int k a),some (.int k' b)=>if k=k' then some (decide (a=b)) else none
 | .s,some (.string a),some (.string b)=>some (decide (a=b))
 | .b,some (.bool a),some (.bool b)=>some (a == b)
 | _,_,_=>none
def andB:Option Bool→Option Bool→Option Bool
 | some a,some b=>some (a && b)
 | _,_=>none
def stEq (xs ys:Array Value):List (Nat × LK)→Option Bool
 | []=>some true
 | (o,k) :: r=>andB (leafEq k xs[o]? ys[o]?) (stEq xs ys r)
def negN (neg:Bool):Option Bool→Option (Prop × Value)
 | some b=>some (True,.bool (if neg then !b else b))
 | none=>none
def steqN (neg:Bool) (ks:List (Nat × LK)):Option Value→Option Value→Option (Prop × Value)
 | some (.agg xs),some (.agg ys)=>negN neg (stEq xs ys ks)
 | _,_=>none
def isnilN (neg:Bool):Option Value→Option (Prop × Value)
 | some (.pointer a)=>some (True,.bool (if neg then a.isSome else a.isNone))
 | _=>none
def isnilsN (neg:Bool):Option Value→Option (Prop × Value)
 | some (.slice a _ _)=>some (True,.bool (if neg then a.isSome else a.isNone))
 | _=>none
def unN (op:UnOp):Option Value→Option (Prop × Value)
 | some a=>unV op a
 | _=>none
def cviN (k:IntKind):Option Value→Option (Prop × Value)
 | some (.int _ n)=>some (True,.int k (k.wrap n))
 | _=>none
def cvsN:Option Value→Option (Prop × Value)
 | some (.string s)=>some (True,.string s)
 | _=>none
def faN (off:Nat):Option Value→Option (Prop × Value)
 | some (.pointer (some a))=>some (True,.pointer (some (a.add off)))
 | _=>none
def ixN (size:Nat):Option Value→Option Value→Option (Prop × Value)
 | some (.slice (some a) len _),some (.int _ i)=>some (0≤i∧i < len,.pointer (some (a.add (i.toNat * size))))
 | some (.slice none _ _),some (.int _ _)=>some (False,.pointer none)
 | _,_=>none
def ixaN (size len:Nat):Option Value→Option Value→Option (Prop × Value)
 | some (.pointer (some a)),some (.int _ i)=>some (0≤i∧i < len,.pointer (some (a.add (i.toNat * size))))
 | _,_=>none
def sixN:Option Value→Option Value→Option (Prop × Value)
 | some (.string s),some (.int _ i)=>some (0≤i∧i < s.size,.int .u8 (s.data.toList.getD i.toNat 0).toNat)
 | _,_=>none
def slN (size:Nat):Option Value→Option (Option Int)→Option (Option Int)→Option (Prop × Value)
 | some (.slice a len cap),some lo,some hi=>some (slV size a len cap lo hi)
 | _,_,_=>none
def sslN:Option Value→Option (Option Int)→Option (Option Int)→Option (Prop × Value)
 | some (.string s),some lo,some hi=>some (sslV s lo hi)
 | _,_,_=>none
def lenN:Option Value→Option (Prop × Value)
 | some (.slice _ n _)=>some (True,.int .i64 n)
 | _=>none
def slenN:Option Value→Option (Prop × Value)
 | some (.string s)=>some (True,.int .i64 s.size)
 | _=>none
def fld1N (off:Nat):Option Value→Option (Prop × Value)
 | some (.agg cs)=>match cs[off]? with
   | some v=>some (True,v)
   | none=>none
 | _=>none
def fldAN (off size:Nat):Option Value→Option (Prop × Value)
 | some (.agg cs)=>some (True,.agg (cs.extract off (off + size)))
 | _=>none
def extN (i:Nat):Option Value→Option (Prop × Value)
 | some (.tuple vs)=>match vs[i]? with
   | some v=>some (True,v)
   | none=>none
 | _=>none
def mmN (max:Bool):Option Value→Option Value→Option (Prop × Value)
 | some (.int k a),some (.int k' b)=>if k=k' then some (True,.int k (if max then (if b > a then b else a) else (if b < a then b else a))) else none
 | _,_=>none
def ncN:Option Value→Option (Prop × Value)
 | some (.pointer (some a))=>some (True,.pointer (some a))
 | some (.func (.func f) c d)=>some (True,.func (.func f) c d)
 | _=>none
def mkfN (f:Nat):Option (List Value)→Option (List Value)→Option (Prop × Value)
 | some us,some vs=>some (True,.func (.func f) us.toArray vs.toArray)
 | _,_=>none
def mkiN (t:Nat):Option Value→Option (Prop × Value)
 | some v=>some (True,.iface t v)
 | none=>none
def isnilfN (neg:Bool):Option Value→Option (Prop × Value)
 | some (.iface _ _)=>some (True,.bool neg)
 | some .nilIface=>some (True,.bool (!neg))
 | _=>none
def tyaN (t:Nat) (zero:Value):Option Value→Option (Prop × Value)
 | some (.iface t' v)=>some (True,if t'=t then .tuple #[v,.bool true] else .tuple #[zero,.bool false])
 | some .nilIface=>some (True,.tuple #[zero,.bool false])
 | _=>none
def tybN (t:Nat):Option Value→Option (Prop × Value)
 | some (.iface t' v)=>some (t'=t,v)
 | _=>none
def bldN (zero:List Value):Option (List (Nat × Nat × Value))→Option (Prop × Value)
 | some ps=>match fillV zero ps with
   | some cs=>some (True,.agg cs.toArray)
   | none=>none
 | _=>none
def PE.val {O:Type} (ev:O→Option Value):PE O→Option (Prop × Value)
 | .mv x=>mvN (ev x)
 | .pick c a b=>pickN (ev c) (ev a) (ev b)
 | .bin op x y=>binN op (ev x) (ev y)
 | .beq n x y=>beqN n (ev x) (ev y)
 | .steq n ks x y=>steqN n ks (ev x) (ev y)
 | .isnil n x=>isnilN n (ev x)
 | .isnils n x=>isnilsN n (ev x)
 | .un op x=>unN op (ev x)
 | .cvi k x=>cviN k (ev x)
 | .cvs x=>cvsN (ev x)
 | .fa off x=>faN off (ev x)
 | .ix s x i=>ixN s (ev x) (ev i)
 | .six x i=>sixN (ev x) (ev i)
 | .sl s x lo hi=>slN s (ev x) (bnd ev lo) (bnd ev hi)
 | .ssl x lo hi=>sslN (ev x) (bnd ev lo) (bnd ev hi)
 | .len x=>lenN (ev x)
 | .slen x=>slenN (ev x)
 | .fld1 off x=>fld1N off (ev x)
 | .fldA off s x=>fldAN off s (ev x)
 | .ext x i=>extN i (ev x)
 | .mm m x y=>mmN m (ev x) (ev y)
 | .nc x=>ncN (ev x)
 | .mkf f first caps=>mkfN f (evs ev first) (evs ev caps)
 | .mki t x=>mkiN t (ev x)
 | .isnilf neg x=>isnilfN neg (ev x)
 | .tya t z x=>tyaN t z (ev x)
 | .tyb t x=>tybN t (ev x)
 | .bld z ps=>bldN z (partsE ev ps)
 | .ixa s n x i=>ixaN s n (ev x) (ev i)
def isAggB (P:Program) (t:TypeId):Option Bool:=
 match P.underlying t with
 | some (.struct _) | some (.array _ _)=>some true
 | some _=>some false
 | none=>none
def zeroOf (P:Program) (t:TypeId):Option Value:=(P.info? t).bind (·.zero)
def sizeOfB (P:Program) (t:TypeId):Option Nat:=(P.info? t).map (·.size)
def partOffs (P:Program) (fields:List Field):List (Nat × Operand)→Option (List (Nat × Nat × Operand))
 | []=>some []
 | (i,x) :: r=>
   match fields[i]? with
   | none=>none
   | some f=>match sizeOfB P f.type,partOffs P fields r with
     | some s,some ps=>some ((f.offset,s,x) :: ps)
     | _,_=>none
def arrOffs (size:Nat):List (Nat × Operand)→List (Nat × Nat × Operand)
 | []=>[]
 | (i,x) :: r=>(i * size,size,x) :: arrOffs size r
def leafKinds (P:Program):List Field→Option (List (Nat × LK))
 | []=>some []
 | f :: r=>if f.name= "_" then none else match leafKinds P r with
   | none=>none
   | some ks=>match P.underlying f.type with
     | some (.int _)=>some ((f.offset,.i) :: ks)
     | some .string=>some ((f.offset,.s) :: ks)
     | some .bool=>some ((f.offset,.b) :: ks)
     | _=>none
def steqOf (P:Program) (ty:TypeId) (fields:List Field):Option (List (Nat × LK)):=
 if P.stoodInHeld ty=false∧P.eqGuardType P.depth ty=false then leafKinds P fields else none
def stripPE (P:Program) (op:Op):Option (PE Operand):=
 match op with
 | .move x=>some (.mv x)
 | .assign x=>some (.mv x)
 | .pick c a b=>some (.pick c a b)
 | .binOp op ty x y _=>
   match P.underlying ty with
   | some (.int _)=>some (.bin op x y)
   | some .string=>some (.bin op x y)
   | some .bool=>match op with
     | .eql=>some (.beq false x y)
     | .neq=>some (.beq true x y)
     | _=>none
   | some (.struct fields)=>match steqOf P ty fields.toList with
     | some ks=>match op with
       | .eql=>some (.steq false ks x y)
       | .neq=>some (.steq true ks x y)
       | _=>none
     | none=>none
   | some (.pointer _)=>match y with
     | .const (.pointer none)=>match op with
       | .eql=>some (.isnil false x)
       | .neq=>some (.isnil true x)
       | _=>none
     | _=>none
   | some (.slice _)=>match y with
     | .const (.slice none _ _)=>match op with
       | .eql=>some (.isnils false x)
       | .neq=>some (.isnils true x)
       | _=>none
     | _=>none
   | some (.interface _)=>match y with
     | .const .nilIface=>match op with
       | .eql=>some (.isnilf false x)
       | .neq=>some (.isnilf true x)
       | _=>none
     | _=>none
   | _=>none
 | .unOp op _ x=>some (.un op x)
 | .convert src dst x=>
   match P.underlying src,P.underlying dst with
   | some (.int _),some (.int k)=>some (.cvi k x)
   | some .string,some .string=>some (.cvs x)
   | _,_=>none
 | .fieldAddr s x f=>
   match P.underlying s with
   | some (.struct fields)=>match fields[f]? with
     | some fd=>match sizeOfB P fd.type with
       | some (_ + 1)=>some (.fa fd.offset x)
       | _=>none
     | none=>none
   | _=>none
 | .indexAddr t x i=>
   match P.underlying t with
   | some (.slice e)=>(sizeOfB P e).map fun s=>.ix s x i
   | some (.array n e)=>(sizeOfB P e).map fun s=>.ixa s n x i
   | _=>none
 | .index t x i=>
   match P.underlying t with
   | some .string=>some (.six x i)
   | _=>none
 | .slice t x lo hi mx=>
   match P.underlying t,mx with
   | some (.slice e),none=>(sizeOfB P e).map fun s=>.sl s x lo hi
   | some .string,none=>some (.ssl x lo hi)
   | _,_=>none
 | .field t x f=>
   match P.underlying t with
   | some (.struct fields)=>match fields[f]? with
     | some fd=>match isAggB P fd.type,sizeOfB P fd.type with
       | some true,some s=>some (.fldA fd.offset s x)
       | some false,_=>some (.fld1 fd.offset x)
       | _,_=>none
     | none=>none
   | _=>none
 | .extract x i=>some (.ext x i)
 | .nilCheck x=>some (.nc x)
 | .makeFunc (.func f) first captured=>some (.mkf f first.toList captured.toList)
 | .makeInterface t x=>
   match P.underlying t with
   | some (.interface _)=>none
   | some _=>some (.mki t x)
   | none=>none
 | .typeAssert x _ t ok=>
   match P.underlying t with
   | some (.interface _)=>none
   | some _=>if ok then (zeroOf P t).map fun z=>.tya t z x else some (.tyb t x)
   | none=>none
 | .build t parts=>
   match P.underlying t,zeroOf P t with
   | some (.struct fields),some z=>
     if fields.toList.all (fun f=>(sizeOfB P f.type).isSome) then (partOffs P fields.toList parts.toList).map fun ps=>.bld z.cells.toList ps else none
   | some (.array _ e),some z=>(sizeOfB P e).map fun s=>.bld z.cells.toList (arrOffs s parts.toList)
   | _,_=>none
 | .call { callee:=.builtin .len,args,argTypes }=>
   match argTypes.toList,args.toList with
   | [t],[x]=>match P.underlying t with
     | some (.slice _)=>some (.len x)
     | some .string=>some (.slen x)
     | _=>none
   | _,_=>none
 | .call { callee:=.builtin .max,args,argTypes }=>
   match argTypes.toList,args.toList with
   | [t,_],[x,y]=>match P.underlying t with
     | some (.int _)=>some (.mm true x y)
     | _=>none
   | _,_=>none
 | .call { callee:=.builtin .min,args,argTypes }=>
   match argTypes.toList,args.toList with
   | [t,_],[x,y]=>match P.underlying t with
     | some (.int _)=>some (.mm false x y)
     | _=>none
   | _,_=>none
 | _=>none
end Gx
end
