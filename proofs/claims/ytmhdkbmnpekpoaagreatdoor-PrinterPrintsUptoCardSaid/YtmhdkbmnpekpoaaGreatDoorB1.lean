import Derived.Tactics
import Derived.Orders
import Derived.Laws.AppendOwn
import Derived.WalkKit
import Derived.KernelRfl
import Derived.Laws.StructEq
import Derived.Laws.BytesArg
import Derived.Laws.IdiomStrings
import Derived.Laws.MakeOwn
import Derived.MapKept
import Derived.Deep.Quiet
import Derived.OrdersHeld
import Derived.Deep.LoopGhost
import Derived.Scope
open Bool renaming and_eq_true→ae5,false_eq_true→ae6,or_eq_true→afl,not_eq_true'→afo
open Go.Result renaming andThen_ok→ae7
open Nat renaming lt_or_ge→ae8
open Option renaming some→ae9,map_eq_some_iff→afe,bind_eq_some_iff→afn,map_some→afp,map_none→aft,isSome_none→afw,isSome_iff_exists→afy
open List renaming mem_cons→afa,all_cons→afb,all_eq_true→afg,map_cons→afi,mem_cons_of_mem→afu,mem_filter→afv,mapM_cons→afB
open Go.Sem renaming run_bind→afc,run_pure→afk
open Go.IntKind renaming i64→afd
open Prod renaming mk→aff
open Array renaming toList_inj→afh,getD_eq_getD_getElem?→afm,toList_map→afs,mapM_eq_mapM_toList→afx,setIfInBounds_comm→afz,replicate→afA,toArray_toList→afC,range→afH
open Go.Region renaming wanted→afj,ready→afq,binds→afr,noSelect_spec→afD,free_spec→afF,noSelect→afG
open Go.Value renaming cells→afE
set_option linter.unusedSimpArgs false
set_option linter.unusedVariables false
set_option maxRecDepth 8000
namespace Gx
open Go
abbrev Heap:=Array Obj
def jV (ev:Operand→Option Value) (a:Act):Prop:=∀ x v,ev x=some v→a.eval x=v
def ye {O:Type} (ev:O→Option Value):List O→Option (List Value)
 | []=>some []
 | x :: r=>match ev x,ye ev r with
   | some v,some vs=>some (v :: vs)
   | _,_=>none
theorem jV.ev {ev:Operand→Option Value} {a:Act} (h:jV ev a) {x:Operand} {v:Value} (hv:ev x=some v):a.eval x=v:=h x v hv
theorem jV.ye {ev:Operand→Option Value} {a:Act} (h:jV ev a):∀ {xs:List Operand} {vs:List Value},Gx.ye ev xs=some vs→xs.map a.eval=vs
 | [],vs,hv=>by simp[Gx.ye] at hv; simp[← hv]
 | x :: xs,vs,hv=>by
   simp only[Gx.ye] at hv
   split at hv
   ·rename_i v vs' h1 h2
    simp at hv; subst hv
    simp[h.ev h1,h.ye h2]
   ·simp at hv
structure Same (w w':World):Prop where
 os:w'.os=w.os
 tape:w'.tape=w.tape
 output:w'.output=w.output
theorem Same.refl (w:World):Same w w:=⟨rfl,rfl,rfl⟩
theorem Same.trans {a b c:World} (h:Same a b) (k:Same b c):Same a c:=⟨k.os.trans h.os,k.tape.trans h.tape,k.output.trans h.output⟩
abbrev cd:=List PanicEntry
def pI (R:Value→Heap→Prop) (E:cd→Heap→Prop) (w:World):Ending→World→Prop
 | .returned v,w'=>R v w'.heap∧Same w w'
 | .panicked c,w'=>E c w'.heap∧Same w w'
 | .outgrown,_=>False
def bU (P:Program) (f:FuncId) (args:Array Value) (H:Heap) (R:Value→Heap→Prop) (E:cd→Heap→Prop):Prop:=
 ∀ w:World,w.heap=H→Calls P f args w (pI R E w)
def aE (P:Program) (f:FuncId) (args:Array Value) (H:Heap) (R:Value→Heap→Prop):Prop:=bU P f args H R fun _ _=>False
theorem pI.mono {R R':Value→Heap→Prop} {E E':cd→Heap→Prop} {w:World} (hr:∀ v H',R v H'→R' v H') (he:∀ c H',E c H'→E' c H'):∀ e w',pI R E w e w'→pI R' E' w e w'
 | .returned _,_,h=>⟨hr _ _ h.1,h.2⟩
 | .panicked _,_,h=>⟨he _ _ h.1,h.2⟩
 | .outgrown,_,h=>h
theorem bU.mono {P:Program} {f:FuncId} {args:Array Value} {H:Heap} {R R':Value→Heap→Prop} {E E':cd→Heap→Prop} (h:bU P f args H R E)
 (hr:∀ v H',R v H'→R' v H') (he:∀ c H',E c H'→E' c H'):bU P f args H R' E':=
 fun w hw=>(h w hw).mono (pI.mono hr he)
theorem aE.mono {P:Program} {f:FuncId} {args:Array Value} {H:Heap} {R R':Value→Heap→Prop} {E':cd→Heap→Prop} (h:aE P f args H R)
 (hr:∀ v H',R v H'→R' v H'):bU P f args H R' E':=bU.mono h hr (fun _ _ h=>h.elim)
theorem aE.out {P:Program} {f:FuncId} {args:Array Value} {H:Heap} {R:Value→Heap→Prop} (h:aE P f args H R) (w:World) (hw:w.heap=H) :
 Calls P f args w fun e w'=>∃ v,e= .returned v∧R v w'.heap∧Same w w':=
 (h w hw).mono fun e w' he=>by
  cases e with
  | returned v=>exact ⟨v,rfl,he.1,he.2⟩
  | panicked c=>exact he.1.elim
  | outgrown=>exact he.elim
def cellAt (H:Heap) (a:Addr):Option Value:=
 match H[a.block]? with
 | some (.cells c _ _)=>if a.spot.isSome then none else c[a.off]?
 | _=>none
theorem qU (w:World) (a:Addr):w.cell? a=cellAt w.heap a:=rfl
def frozenAt (H:Heap) (a:Addr):Bool:=
 match H[a.block]? with
 | some (.cells _ _ (lo,hi))=>lo≤a.off && a.off < hi
 | _=>false
def iY (H:Heap) (a:Addr) (v:Value):Heap:=
 H.modify a.block fun
  | .cells c elem frozen=>.cells (if a.spot.isSome then c else c.setIfInBounds a.off v) elem frozen
  | o=>o
def qV (P:Program) (E:cd→Heap→Prop) (o:Oper) (ev:Operand→Value) (H:Heap) (R:Value→Heap→Prop):Prop:=
 ∀ w:World,w.heap=H→match (execOp ev o).run P w with
   | .ok (.value v) w'=>R v w'.heap∧Same w w'
   | .ok .skip w'=>R undef w'.heap∧Same w w'
   | .ok (.enter f args) w'=>Calls P f args w' (pI R E w)
   | .halt (.panic v) w'=>E [{ v,recovered:=false }] w'.heap∧Same w w'
   | _=>False
theorem qV.mono {P:Program} {E:cd→Heap→Prop} {o:Oper} {ev:Operand→Value} {H:Heap} {R R':Value→Heap→Prop} (h:qV P E o ev H R) (hr:∀ v H',R v H'→R' v H'):qV P E o ev H R':=by
 intro w hw
 have:=h w hw
 split at this
 ·exact ⟨hr _ _ this.1,this.2⟩
 ·exact ⟨hr _ _ this.1,this.2⟩
 ·exact this.mono (pI.mono hr fun _ _ h=>h)
 ·exact this
 ·exact this
theorem qV.wp {P:Program} {E:cd→Heap→Prop} {o:Oper} {a:Act} {w:World} {K:Act→World→Prop} {Q:Exit→Act→World→Prop} {R:Value→Heap→Prop}
 (h:qV P E o a.eval w.heap R) (hK:∀ v w',R v w'.heap→Same w w'→K (a.put o.dst v) w') (hE:∀ c w',E c w'.heap→Same w w'→Q (.panic c) a w'):o.wp P a w K Q:=by
 have:=h w rfl
 unfold Oper.wp
 generalize (execOp a.eval o).run P w=r at *
 cases r with
 | ok n w'=>
   cases n <;> simp only at this <;> try exact this.elim
   ·exact hK _ _ this.1 this.2
   ·exact hK _ _ this.1 this.2
   ·rename_i f args
    simp only[Oper.upon]
    exact this.mono fun e WI IL=>by
     cases e with
     | returned v=>exact hK _ _ IL.1 IL.2
     | panicked c=>exact hE _ _ IL.1 IL.2
     | outgrown=>exact IL.elim
 | halt x w'=>
   cases x <;> simp only at this <;> try exact this.elim
   exact hE _ _ this.1 this.2
def pR (P:Program) (o:Oper) (ev:Operand→Value) (H:Heap) (v:Value):Prop:=
 ∀ w:World,w.heap=H→(execOp ev o).run P w= .ok (.value v) w
theorem pR.ok {P:Program} {E:cd→Heap→Prop} {o:Oper} {ev:Operand→Value} {H:Heap} {v:Value} {R:Value→Heap→Prop} (h:pR P o ev H v) (hR:R v H):qV P E o ev H R:=by
 intro w hw
 rw[h w hw]
 exact ⟨hw ▸ hR,Same.refl _⟩
inductive LK where
 | i
 | s
 | b
 deriving Inhabited
inductive PE (O:Type) where
 | mv (x:O)
 | pick (c a b:O)
 | bin (op:BinOp) (x y:O)
 | beq (neg:Bool) (x y:O)
 | GP (neg:Bool) (ks:List (Nat × LK)) (x y:O)
 | yL (neg:Bool) (x:O)
 | tp (neg:Bool) (x:O)
 | un (op:UnOp) (x:O)
 | RA (k:IntKind) (x:O)
 | Fp (x:O)
 | fa (off:Nat) (x:O)
 | ix (size:Nat) (x i:O)
 | vm (x i:O)
 | sl (size:Nat) (x:O) (lo hi:Option O)
 | MR (x:O) (lo hi:Option O)
 | len (x:O)
 | gP (x:O)
 | jW (off:Nat) (x:O)
 | IM (off size:Nat) (x:O)
 | ext (x:O) (i:Nat)
 | mm (max:Bool) (x y:O)
 | nc (x:O)
 | Fq (f:Nat) (first uX:List O)
 | WJ (t:Nat) (x:O)
 | nD (neg:Bool) (x:O)
 | tya (t:Nat) (zero:Value) (x:O)
 | WK (t:Nat) (x:O)
 | jA (zero:List Value) (parts:List (Nat × Nat × O))
 | ixa (size len:Nat) (x i:O)
 | WL (size len:Nat) (x i:O)
def WM (k:IntKind) (a b:Int):Int:=k.wrap (a * 2 ^ (min b.toNat k.bits))
def WN (k:IntKind) (a b:Int):Int:=a.fdiv (2 ^ (min b.toNat k.bits))
def Bm (op:BinOp) (k:IntKind) (a b:Int):Option (Prop × Value):=
 match op with
 | .add=>some (True,.int k (k.wrap (a + b)))
 | .sub=>some (True,.int k (k.wrap (a - b)))
 | .mul=>some (True,.int k (k.wrap (a * b)))
 | .quo=>some (b≠0,.int k (k.wrap (a.tdiv b)))
 | .rem=>some (b≠0,.int k (a.tmod b))
 | .and=>some (True,.int k (bits .and k a b))
 | .or=>some (True,.int k (bits .or k a b))
 | .xor=>some (True,.int k (bits .xor k a b))
 | .andNot=>some (True,.int k (bits .andNot k a b))
 | .eql=>some (True,.bool (decide (a=b)))
 | .neq=>some (True,.bool (!decide (a=b)))
 | .lss=>some (True,.bool (decide (a < b)))
 | .leq=>some (True,.bool (decide (a≤b)))
 | .gtr=>some (True,.bool (decide (b < a)))
 | .geq=>some (True,.bool (decide (b≤a)))
 | .shl=>some (0≤b,.int k (WM k a b))
 | .shr=>some (0≤b,.int k (WN k a b))
def Nr (op:BinOp) (a b:ByteArray):Option (Prop × Value):=
 match op with
 | .add=>some (a.size + b.size≤9223372036854775807,.string (a ++ b))
 | .eql=>some (True,.bool (decide (a=b)))
 | .neq=>some (True,.bool (!decide (a=b)))
 | .lss=>some (True,.bool (Op.bytesLess a.data.toList b.data.toList))
 | .leq=>some (True,.bool (Op.bytesLess a.data.toList b.data.toList || decide (a=b)))
 | .gtr=>some (True,.bool (!(Op.bytesLess a.data.toList b.data.toList || decide (a=b))))
 | .geq=>some (True,.bool (!Op.bytesLess a.data.toList b.data.toList))
 | _=>none
def Ns (op:BinOp):Value→Value→Option (Prop × Value)
 | .int k a,.int k' b=>
   match op with
   | .shl=>Bm .shl k a b
   | .shr=>Bm .shr k a b
   | op=>if k=k' then Bm op k a b else none
 | .string a,.string b=>Nr op a b
 | _,_=>none
def unV (op:UnOp):Value→Option (Prop × Value)
 | .int k n=>match op with
   | .neg=>some (True,.int k (k.wrap (0 - n)))
   | .xor=>some (True,.int k (bits .xor k (if k.signed then -1 else k.max) n))
   | _=>none
 | .bool b=>match op with
   | .not=>some (True,.bool (!b))
   | _=>none
 | _=>none
def RB (size:Nat) (a:Option Addr) (len cap:Nat) (lo hi:Option Int):Prop × Value:=
 match lo,hi with
 | none,none=>(True,.slice a len cap)
 | some l,none=>(0≤l∧l≤len,.slice (if cap=l.toNat then a else a.map (·.add (l.toNat * size))) (len - l.toNat) (cap - l.toNat))
 | none,some h=>(0≤h∧h≤cap,.slice a h.toNat cap)
 | some l,some h=>((0≤h∧h≤cap)∧0≤l∧l≤h,.slice (if cap=l.toNat then a else a.map (·.add (l.toNat * size))) (h.toNat - l.toNat) (cap - l.toNat))
def Dx (s:ByteArray) (lo hi:Option Int):Prop × Value:=
 match lo,hi with
 | none,none=>(True,.string (s.extract 0 s.size))
 | some l,none=>(0≤l∧l≤s.size,.string (s.extract l.toNat s.size))
 | none,some h=>(0≤h∧h≤s.size,.string (s.extract 0 h.toNat))
 | some l,some h=>((0≤h∧h≤s.size)∧0≤l∧l≤h,.string (s.extract l.toNat h.toNat))
def aO {O:Type} (ev:O→Option Value):Option O→Option (Option Int)
 | none=>some none
 | some x=>match ev x with
   | some (.int _ n)=>some (some n)
   | _=>none
def lq (cells:List Value):List (Nat × Nat × Value)→Option (List Value)
 | []=>some cells
 | (off,size,v) :: rest=>
   match v with
   | .agg cs=>if cs.size=size∧off + size≤cells.length then lq (cells.take off ++ cs.toList ++ cells.drop (off + size)) rest else none
   | v=>if size=1∧off < cells.length then lq (cells.set off v) rest else none
def fR {O:Type} (ev:O→Option Value):List (Nat × Nat × O)→Option (List (Nat × Nat × Value))
 | []=>some []
 | (o,s,x) :: r=>match ev x,fR ev r with
   | some v,some vs=>some ((o,s,v) :: vs)
   | _,_=>none
def aes:Value→Value→Value→Option (Prop × Value)
 | .bool true,a,_=>some (True,a)
 | .bool false,_,b=>some (True,b)
 | _,_,_=>none
def vR:Option Value→Option Value→Option Value→Option (Prop × Value)
 | some (.bool c),some (.bool a),some (.bool b)=>some (True,.bool (bif c then a else b))
 | some (.bool true),some a,_=>some (True,a)
 | some (.bool false),_,some b=>some (True,b)
 | _,_,_=>none
def IP:Option Value→Option (Prop × Value)
 | some v=>some (True,v)
 | none=>none
def RD (op:BinOp):Option Value→Option Value→Option (Prop × Value)
 | some a,some b=>Ns op a b
 | _,_=>none
def RE (neg:Bool):Option Value→Option Value→Option (Prop × Value)
 | some (.bool a),some (.bool b)=>some (True,.bool (if neg then a != b else a == b))
 | _,_=>none
def qd:LK→Option Value→Option Value→Option Bool
 | .i,some (.int k a),some (.int k' b)=>if k=k' then some (decide (a=b)) else none
 | .s,some (.string a),some (.string b)=>some (decide (a=b))
 | .b,some (.bool a),some (.bool b)=>some (a == b)
 | _,_,_=>none
def IQ:Option Bool→Option Bool→Option Bool
 | some a,some b=>some (a && b)
 | _,_=>none
def zK (xs ys:Array Value):List (Nat × LK)→Option Bool
 | []=>some true
 | (o,k) :: r=>IQ (qd k xs[o]? ys[o]?) (zK xs ys r)
def Nt (neg:Bool):Option Bool→Option (Prop × Value)
 | some b=>some (True,.bool (if neg then !b else b))
 | none=>none
def IU (neg:Bool) (ks:List (Nat × LK)):Option Value→Option Value→Option (Prop × Value)
 | some (.agg xs),some (.agg ys)=>Nt neg (zK xs ys ks)
 | _,_=>none
def Dy (neg:Bool):Option Value→Option (Prop × Value)
 | some (.pointer a)=>some (True,.bool (if neg then a.isSome else a.isNone))
 | _=>none
def zL (neg:Bool):Option Value→Option (Prop × Value)
 | some (.slice a _ _)=>some (True,.bool (if neg then a.isSome else a.isNone))
 | _=>none
def unN (op:UnOp):Option Value→Option (Prop × Value)
 | some a=>unV op a
 | _=>none
def RF (k:IntKind):Option Value→Option (Prop × Value)
 | some (.int _ n)=>some (True,.int k (k.wrap n))
 | _=>none
def RG:Option Value→Option (Prop × Value)
 | some (.string s)=>some (True,.string s)
 | _=>none
def faN (off:Nat):Option Value→Option (Prop × Value)
 | some (.pointer (some a))=>some (True,.pointer (some (a.add off)))
 | _=>none
def ixN (size:Nat):Option Value→Option Value→Option (Prop × Value)
 | some (.slice (some a) len _),some (.int _ i)=>some (0≤i∧i < len,.pointer (some (a.add (i.toNat * size))))
 | some (.slice none _ _),some (.int _ _)=>some (False,.pointer none)
 | _,_=>none
def RH (size len:Nat):Option Value→Option Value→Option (Prop × Value)
 | some (.pointer (some a)),some (.int _ i)=>some (0≤i∧i < len,.pointer (some (a.add (i.toNat * size))))
 | _,_=>none
def RI (size len:Nat):Option Value→Option Value→Option (Prop × Value)
 | some (.agg cs),some (.int _ i)=>match cs[i.toNat * size]? with
   | some v=>some (0≤i∧i < len,v)
   | none=>none
 | _,_=>none
def RJ:Option Value→Option Value→Option (Prop × Value)
 | some (.string s),some (.int _ i)=>some (0≤i∧i < s.size,.int .u8 (s.data.toList.getD i.toNat 0).toNat)
 | _,_=>none
def slN (size:Nat):Option Value→Option (Option Int)→Option (Option Int)→Option (Prop × Value)
 | some (.slice a len cap),some lo,some hi=>some (RB size a len cap lo hi)
 | _,_,_=>none
def RK:Option Value→Option (Option Int)→Option (Option Int)→Option (Prop × Value)
 | some (.string s),some lo,some hi=>some (Dx s lo hi)
 | _,_,_=>none
def RL:Option Value→Option (Prop × Value)
 | some (.slice _ n _)=>some (True,.int .i64 n)
 | _=>none
def IV:Option Value→Option (Prop × Value)
 | some (.string s)=>some (True,.int .i64 s.size)
 | _=>none
def IW (off:Nat):Option Value→Option (Prop × Value)
 | some (.agg cs)=>match cs[off]? with
   | some v=>some (True,v)
   | none=>none
 | _=>none
def IX (off size:Nat):Option Value→Option (Prop × Value)
 | some (.agg cs)=>some (True,.agg (cs.extract off (off + size)))
 | _=>none
def RM (i:Nat):Option Value→Option (Prop × Value)
 | some (.tuple vs)=>match vs[i]? with
   | some v=>some (True,v)
   | none=>none
 | _=>none
def mmN (max:Bool):Option Value→Option Value→Option (Prop × Value)
 | some (.int k a),some (.int k' b)=>if k=k' then some (True,.int k (if max then (if b > a then b else a) else (if b < a then b else a))) else none
 | _,_=>none
def ncN:Option Value→Option (Prop × Value)
 | some (.pointer (some a))=>some (True,.pointer (some a))
 | some (.func (.func f) c d)=>some (True,.func (.func f) c d)
 | _=>none
def RN (f:Nat):Option (List Value)→Option (List Value)→Option (Prop × Value)
 | some us,some vs=>some (True,.func (.func f) us.toArray vs.toArray)
 | _,_=>none
def RO (t:Nat):Option Value→Option (Prop × Value)
 | some v=>some (True,.iface t v)
 | none=>none
def zM (neg:Bool):Option Value→Option (Prop × Value)
 | some (.iface _ _)=>some (True,.bool neg)
 | some .nilIface=>some (True,.bool (!neg))
 | _=>none
def RP (t:Nat) (zero:Value):Option Value→Option (Prop × Value)
 | some (.iface t' v)=>some (True,if t'=t then .tuple #[v,.bool true] else .tuple #[zero,.bool false])
 | some .nilIface=>some (True,.tuple #[zero,.bool false])
 | _=>none
def RQ (t:Nat):Option Value→Option (Prop × Value)
 | some (.iface t' v)=>some (t'=t,v)
 | _=>none
def Nu (zero:List Value):Option (List (Nat × Nat × Value))→Option (Prop × Value)
 | some ps=>match lq zero ps with
   | some cs=>some (True,.agg cs.toArray)
   | none=>none
 | _=>none
def PE.val {O:Type} (ev:O→Option Value):PE O→Option (Prop × Value)
 | .mv x=>IP (ev x)
 | .pick c a b=>vR (ev c) (ev a) (ev b)
 | .bin op x y=>RD op (ev x) (ev y)
 | .beq n x y=>RE n (ev x) (ev y)
 | .GP n ks x y=>IU n ks (ev x) (ev y)
 | .yL n x=>Dy n (ev x)
 | .tp n x=>zL n (ev x)
 | .un op x=>unN op (ev x)
 | .RA k x=>RF k (ev x)
 | .Fp x=>RG (ev x)
 | .fa off x=>faN off (ev x)
 | .ix s x i=>ixN s (ev x) (ev i)
 | .vm x i=>RJ (ev x) (ev i)
 | .sl s x lo hi=>slN s (ev x) (aO ev lo) (aO ev hi)
 | .MR x lo hi=>RK (ev x) (aO ev lo) (aO ev hi)
 | .len x=>RL (ev x)
 | .gP x=>IV (ev x)
 | .jW off x=>IW off (ev x)
 | .IM off s x=>IX off s (ev x)
 | .ext x i=>RM i (ev x)
 | .mm m x y=>mmN m (ev x) (ev y)
 | .nc x=>ncN (ev x)
 | .Fq f first uX=>RN f (ye ev first) (ye ev uX)
 | .WJ t x=>RO t (ev x)
 | .nD neg x=>zM neg (ev x)
 | .tya t z x=>RP t z (ev x)
 | .WK t x=>RQ t (ev x)
 | .jA z ps=>Nu z (fR ev ps)
 | .ixa s n x i=>RH s n (ev x) (ev i)
 | .WL s n x i=>RI s n (ev x) (ev i)
def im (P:Program) (t:TypeId):Option Bool:=
 match P.underlying t with
 | some (.struct _) | some (.array _ _)=>some true
 | some _=>some false
 | none=>none
def zeroOf (P:Program) (t:TypeId):Option Value:=(P.info? t).bind (·.zero)
def cb (P:Program) (t:TypeId):Option Nat:=(P.info? t).map (·.size)
def lu (P:Program) (fields:List Field):List (Nat × Operand)→Option (List (Nat × Nat × Operand))
 | []=>some []
 | (i,x) :: r=>
   match fields[i]? with
   | none=>none
   | some f=>match cb P f.type,lu P fields r with
     | some s,some ps=>some ((f.offset,s,x) :: ps)
     | _,_=>none
def mj (size:Nat):List (Nat × Operand)→List (Nat × Nat × Operand)
 | []=>[]
 | (i,x) :: r=>(i * size,size,x) :: mj size r
def lx (P:Program):List Field→Option (List (Nat × LK))
 | []=>some []
 | f :: r=>if f.name= "_" then none else match lx P r with
   | none=>none
   | some ks=>match P.underlying f.type with
     | some (.int _)=>some ((f.offset,.i) :: ks)
     | some .string=>some ((f.offset,.s) :: ks)
     | some .bool=>some ((f.offset,.b) :: ks)
     | _=>none
def Dz (P:Program) (ty:TypeId) (fields:List Field):Option (List (Nat × LK)):=
 if P.stoodInHeld ty=false∧P.eqGuardType P.depth ty=false then lx P fields else none
def zN (P:Program) (op:Op):Option (PE Operand):=
 match op with
 | .move x=>some (.mv x)
 | .assign x=>some (.mv x)
 | .pick c a b=>some (.pick c a b)
 | .binOp op ty x y _=>
   match P.underlying ty with
   | some (.int _)=>some (.bin op x y)
   | some .string=>some (.bin op x y)
   | some .bool=>match op with
     | .eql=>some (.beq false x y)
     | .neq=>some (.beq true x y)
     | _=>none
   | some (.struct fields)=>match Dz P ty fields.toList with
     | some ks=>match op with
       | .eql=>some (.GP false ks x y)
       | .neq=>some (.GP true ks x y)
       | _=>none
     | none=>none
   | some (.pointer _)=>match y with
     | .const (.pointer none)=>match op with
       | .eql=>some (.yL false x)
       | .neq=>some (.yL true x)
       | _=>none
     | _=>none
   | some (.slice _)=>match y with
     | .const (.slice none _ _)=>match op with
       | .eql=>some (.tp false x)
       | .neq=>some (.tp true x)
       | _=>none
     | _=>none
   | some (.interface _)=>match y with
     | .const .nilIface=>match op with
       | .eql=>some (.nD false x)
       | .neq=>some (.nD true x)
       | _=>none
     | _=>none
   | _=>none
 | .unOp op _ x=>some (.un op x)
 | .convert src dst x=>
   match P.underlying src,P.underlying dst with
   | some (.int _),some (.int k)=>some (.RA k x)
   | some .string,some .string=>some (.Fp x)
   | _,_=>none
 | .fieldAddr s x f=>
   match P.underlying s with
   | some (.struct fields)=>match fields[f]? with
     | some fd=>match cb P fd.type with
       | some (_ + 1)=>some (.fa fd.offset x)
       | _=>none
     | none=>none
   | _=>none
 | .indexAddr t x i=>
   match P.underlying t with
   | some (.slice e)=>(cb P e).map fun s=>.ix s x i
   | some (.array n e)=>(cb P e).map fun s=>.ixa s n x i
   | _=>none
 | .index t x i=>
   match P.underlying t with
   | some .string=>some (.vm x i)
   | some (.array n e)=>match im P e,cb P e with
     | some false,some s=>some (.WL s n x i)
     | _,_=>none
   | _=>none
 | .slice t x lo hi mx=>
   match P.underlying t,mx with
   | some (.slice e),none=>(cb P e).map fun s=>.sl s x lo hi
   | some .string,none=>some (.MR x lo hi)
   | _,_=>none
 | .field t x f=>
   match P.underlying t with
   | some (.struct fields)=>match fields[f]? with
     | some fd=>match im P fd.type,cb P fd.type with
       | some true,some s=>some (.IM fd.offset s x)
       | some false,_=>some (.jW fd.offset x)
       | _,_=>none
     | none=>none
   | _=>none
 | .extract x i=>some (.ext x i)
 | .nilCheck x=>some (.nc x)
 | .makeFunc (.func f) first captured=>some (.Fq f first.toList captured.toList)
 | .makeInterface t x=>
   match P.underlying t with
   | some (.interface _)=>none
   | some _=>some (.WJ t x)
   | none=>none
 | .typeAssert x _ t ok=>
   match P.underlying t with
   | some (.interface _)=>none
   | some _=>if ok then (zeroOf P t).map fun z=>.tya t z x else some (.WK t x)
   | none=>none
 | .build t parts=>
   match P.underlying t,zeroOf P t with
   | some (.struct fields),some z=>
     if fields.toList.all (fun f=>(cb P f.type).isSome) then (lu P fields.toList parts.toList).map fun ps=>.jA z.cells.toList ps else none
   | some (.array _ e),some z=>(cb P e).map fun s=>.jA z.cells.toList (mj s parts.toList)
   | _,_=>none
 | .call { callee:=.builtin .len,args,argTypes }=>
   match argTypes.toList,args.toList with
   | [t],[x]=>match P.underlying t with
     | some (.slice _)=>some (.len x)
     | some .string=>some (.gP x)
     | _=>none
   | _,_=>none
 | .call { callee:=.builtin .max,args,argTypes }=>
   match argTypes.toList,args.toList with
   | [t,_],[x,y]=>match P.underlying t with
     | some (.int _)=>some (.mm true x y)
     | _=>none
   | _,_=>none
 | .call { callee:=.builtin .min,args,argTypes }=>
   match argTypes.toList,args.toList with
   | [t,_],[x,y]=>match P.underlying t with
     | some (.int _)=>some (.mm false x y)
     | _=>none
   | _,_=>none
 | _=>none
section
variable {P:Program}
theorem iZ {x:Option Value} {p:Prop} {v:Value} (h:IP x=some (p,v)):x=some v:=by
 cases x <;> simp[IP] at h; simp[h.2]
theorem zO (op:BinOp) (k:IntKind) (a b:Int) (p:Prop) (v:Value) (h:Bm op k a b=some (p,v)) (hp:p) (w:World)
 (WO:op≠.shl) (WQ:op≠.shr) (ty:TypeId):(binOp op ty (.int k a) (.int k b)).run P w= .ok v w:=by
 cases op <;> simp only[Bm,ae9.injEq,aff.injEq] at h WO WQ <;> (try exact absurd rfl WO) <;> (try exact absurd rfl WQ) <;> obtain ⟨rfl,rfl⟩:=h <;>
  simp[binOp,Op.intArith,Op.intDiv,Op.intBits,Op.intCmp,BEq.beq,bne,bits]
 all_goals (intro h0; exact absurd h0 hp)
theorem yM (op:BinOp) (jX:op= .shl∨op= .shr) (k k':IntKind) (a b:Int) (p:Prop) (v:Value) (h:Bm op k a b=some (p,v)) (hp:p) (w:World) (ty:TypeId) :
 (binOp op ty (.int k a) (.int k' b)).run P w= .ok v w:=by
 rcases jX with rfl | rfl <;> simp only[Bm,ae9.injEq,aff.injEq] at h <;> obtain ⟨rfl,rfl⟩:=h <;>
  simp[binOp,Op.shift,show ¬ b < 0 by omega,WM,WN]
theorem Bn (a b:ByteArray):(a.data == b.data)=decide (a=b):=by
 rw[Bool.eq_iff_iff]
 simp only[beq_iff_eq,decide_eq_true_eq]
 constructor
 ·intro h
  cases a; cases b
  simpa using h
 ·rintro rfl; rfl
theorem GQ (op:BinOp) (a b:ByteArray) (p:Prop) (v:Value) (h:Nr op a b=some (p,v)) (hp:p) (w:World) (ty:TypeId) :
 (binOp op ty (.string a) (.string b)).run P w= .ok v w:=by
 cases op <;> simp only[Nr,ae9.injEq,aff.injEq,reduceCtorEq] at h <;> obtain ⟨rfl,rfl⟩:=h
 case add=>
  have h0:¬ (((a.size + b.size:Nat):Int) > afd.max):=by
   have:afd.max=9223372036854775807:=by decide
   rw[this]; omega
  simp only[binOp,Op.stringOp,if_neg h0,afk]
 all_goals simp[binOp,Op.stringOp,ByteArray.toList_eq,Bn]
theorem uY (op:BinOp) (ty:TypeId) (x y:Operand) (k k':IntKind) (a b:Int) (w:World):(eqGuard op ty x y (.int k a) (.int k' b)).run P w= .ok () w:=by
 unfold eqGuard; cases op <;> simp
theorem uZ (op:BinOp) (ty:TypeId) (x y:Operand) (a b:ByteArray) (w:World):(eqGuard op ty x y (.string a) (.string b)).run P w= .ok () w:=by
 unfold eqGuard; cases op <;> simp
theorem tq (op:BinOp) (ty:TypeId) (x y:Operand) (a b:Bool) (w:World):(eqGuard op ty x y (.bool a) (.bool b)).run P w= .ok () w:=by
 unfold eqGuard; cases op <;> simp
theorem Nv {op:BinOp} {a b:Value} {p:Prop} {v:Value} (h:Ns op a b=some (p,v)) (hp:p) (w:World) (ty:TypeId) (x y:Operand) :
 ((do eqGuard op ty x y a b; binOp op ty a b):Sem Value).run P w= .ok v w:=by
 unfold Ns at h
 split at h
 ·rename_i k a k' b
  simp only[afc,uY,ae7]
  split at h
  ·exact yM _ (.inl rfl) _ _ _ _ _ _ h hp w ty
  ·exact yM _ (.inr rfl) _ _ _ _ _ _ h hp w ty
  ·rename_i h1 h2
   split at h
   ·rename_i e; subst e; exact zO _ _ _ _ _ _ h hp w (fun e=>h1 e) (fun e=>h2 e) ty
   ·simp at h
 ·simp only[afc,uZ,ae7]
  exact GQ _ _ _ _ _ h hp w ty
 ·simp at h
theorem RR {op:UnOp} {a:Value} {p:Prop} {v:Value} (h:unV op a=some (p,v)) (w:World):(Op.unary op a).run P w= .ok v w:=by
 unfold unV at h
 split at h
 ·split at h <;> simp at h <;> obtain ⟨_,rfl⟩:=h <;> simp[Op.unary,Op.intArith,Op.intBits,bits]
 ·split at h <;> simp at h <;> obtain ⟨_,rfl⟩:=h <;> simp[Op.unary]
 ·simp at h
theorem run_equalIn_bool {ty:TypeId} (ht:P.underlying ty=some .bool) (d:Nat) (a b:Bool) (w:World):(Op.equalIn (d + 1) ty (.bool a) (.bool b)).run P w= .ok (a == b) w:=by
 simp[Op.equalIn,run_underlying ht]
theorem run_equal_bool {ty:TypeId} (ht:P.underlying ty=some .bool) (a b:Bool) (w:World):(Op.equal ty (.bool a) (.bool b)).run P w= .ok (a == b) w:=
 run_equalIn_bool ht 9999 a b w
theorem RS {neg:Bool} {a b:Bool} {ty:TypeId} (ht:P.underlying ty=some .bool) (w:World) (x y:Operand) :
 ((do eqGuard (if neg then .neq else .eql) ty x y (.bool a) (.bool b); binOp (if neg then .neq else .eql) ty (.bool a) (.bool b)):Sem Value).run P w= .ok (.bool (if neg then a != b else a == b)) w:=by
 simp only[afc,tq,ae7]
 cases neg
 ·simp only[ae6,if_false,binOp,afc,run_equal_bool ht,ae7,afk]
 ·simp only[if_true,binOp,afc,run_equal_bool ht,ae7,afk]; rfl
theorem pS {ty e:TypeId} (ht:P.underlying ty=some (.pointer e)) (a:Option Addr) (w:World):(Op.equal ty (.pointer a) (.pointer none)).run P w= .ok a.isNone w:=by
 have key:∀ d,(Op.equalIn (d + 1) ty (.pointer a) (.pointer none)).run P w= .ok a.isNone w:=by
  intro d
  cases a <;> simp[Op.equalIn,run_underlying ht]
 exact key 9999
theorem mY {ty e:TypeId} (ht:P.underlying ty=some (.slice e)) (a:Option Addr) (n c n' c':Nat) (w:World):(Op.equal ty (.slice a n c) (.slice none n' c')).run P w= .ok a.isNone w:=by
 have key:∀ d,(Op.equalIn (d + 1) ty (.slice a n c) (.slice none n' c')).run P w= .ok a.isNone w:=by
  intro d
  cases a <;> simp[Op.equalIn,run_underlying ht]
 exact key 9999
theorem zP {neg:Bool} {ty e:TypeId} (ht:P.underlying ty=some (.pointer e)) (a:Option Addr) (w:World) (x y:Operand) :
 ((do eqGuard (if neg then .neq else .eql) ty x y (.pointer a) (.pointer none); binOp (if neg then .neq else .eql) ty (.pointer a) (.pointer none)):Sem Value).run P w= .ok (.bool (if neg then a.isSome else a.isNone)) w:=by
 have hg:∀ op,(eqGuard op ty x y (.pointer a) (.pointer none)).run P w= .ok () w:=by intro op; unfold eqGuard; cases op <;> simp
 simp only[afc,hg,ae7]
 cases neg
 ·simp only[ae6,if_false,binOp,afc,pS ht,ae7,afk]
 ·simp only[if_true,binOp,afc,pS ht,ae7,afk]; cases a <;> rfl
theorem vS {neg:Bool} {ty e:TypeId} (ht:P.underlying ty=some (.slice e)) (a:Option Addr) (n c n' c':Nat) (w:World) (x y:Operand) :
 ((do eqGuard (if neg then .neq else .eql) ty x y (.slice a n c) (.slice none n' c'); binOp (if neg then .neq else .eql) ty (.slice a n c) (.slice none n' c')):Sem Value).run P w= .ok (.bool (if neg then a.isSome else a.isNone)) w:=by
 have hg:∀ op,(eqGuard op ty x y (.slice a n c) (.slice none n' c')).run P w= .ok () w:=by intro op; unfold eqGuard; cases op <;> simp
 simp only[afc,hg,ae7]
 cases neg
 ·simp only[ae6,if_false,binOp,afc,mY ht,ae7,afk]
 ·simp only[if_true,binOp,afc,mY ht,ae7,afk]; cases a <;> rfl
theorem gJ {ty:TypeId} {ms:Array (String × TypeId)} (ht:P.underlying ty=some (.interface ms)) (t:TypeId) (v:Value) (w:World):(Op.equal ty (.iface t v) .nilIface).run P w= .ok false w∧(Op.equal ty .nilIface .nilIface).run P w= .ok true w:=by
 have h:∀ d:Nat,(Op.equalIn (d + 1) ty (.iface t v) .nilIface).run P w= .ok false w∧(Op.equalIn (d + 1) ty .nilIface .nilIface).run P w= .ok true w:=fun d=>by
  constructor <;> simp[Op.equalIn,run_underlying ht]
 simpa [Op.equal,Op.maxDepth] using h 9999
def iE:Value→Bool
 | .nilIface=>true
 | _=>false
theorem vT {neg:Bool} {ty:TypeId} {ms:Array (String × TypeId)} (ht:P.underlying ty=some (.interface ms)) (u:Value) (hu:(∃ t v,u= .iface t v)∨u= .nilIface) (w:World) (x:Operand) :
 ((do eqGuard (if neg then .neq else .eql) ty x (.const .nilIface) u .nilIface; binOp (if neg then .neq else .eql) ty u .nilIface):Sem Value).run P w= .ok (.bool (if neg then !iE u else iE u)) w:=by
 rcases hu with ⟨t,v,rfl⟩ | rfl
 ·have hg:∀ op,(eqGuard op ty x (.const .nilIface) (.iface t v) .nilIface).run P w= .ok () w:=by intro op; unfold eqGuard; cases op <;> simp
  simp only[afc,hg,ae7]
  cases neg
  ·simp only[ae6,if_false,binOp,afc,(gJ ht t v w).1,ae7,afk]; try rfl
  ·simp only[if_true,binOp,afc,(gJ ht t v w).1,ae7,afk]; try rfl
 ·have hg:∀ op,(eqGuard op ty x (.const .nilIface) .nilIface .nilIface).run P w= .ok () w:=by intro op; unfold eqGuard; cases op <;> simp
  simp only[afc,hg,ae7]
  cases neg
  ·simp only[ae6,if_false,binOp,afc,(gJ ht 0 undef w).2,ae7,afk]; try rfl
  ·simp only[if_true,binOp,afc,(gJ ht 0 undef w).2,ae7,afk]; try rfl
theorem Bo {f:Field} {k:LK} (hu:(∃ i,k= .i∧P.underlying f.type=some (.int i))∨(k= .s∧P.underlying f.type=some .string)∨(k= .b∧P.underlying f.type=some .bool)) (d:Nat) (xs ys:Array Value) {b:Bool}
 (h:qd k xs[f.offset]? ys[f.offset]?=some b) (w:World):∃ x y,(part f.type xs f.offset).run P w= .ok x w∧(part f.type ys f.offset).run P w= .ok y w∧(Op.equalIn (d + 1) f.type x y).run P w= .ok b w:=by
 have qW:∀ (cs:Array Value) v,cs[f.offset]?=some v→(part f.type cs f.offset).run P w= .ok v w:=by
  intro cs v hv
  rcases hu with ⟨i,_,h⟩ | ⟨_,h⟩ | ⟨_,h⟩ <;> simp[part,isAgg,run_underlying h,hv]
 rcases hu with ⟨i,rfl,hu⟩ | ⟨rfl,hu⟩ | ⟨rfl,hu⟩
 ·unfold qd at h
  split at h
  ·rename_i k1 a1 k2 a2 _ e2 e3
   split at h
   ·rename_i hk
    simp only[ae9.injEq] at h; subst h; subst hk
    refine ⟨_,_,qW _ _ e2,qW _ _ e3,?_⟩
    rw[run_equalIn_int w d f.type _ i _ _ hu]
    congr 1
   ·cases h
  all_goals simp_all
 ·unfold qd at h
  split at h
  ·simp_all
  ·rename_i a1 a2 _ e2 e3
   simp only[ae9.injEq] at h; subst h
   refine ⟨_,_,qW _ _ e2,qW _ _ e3,?_⟩
   rw[run_equalIn_string w d f.type _ _ hu]
   simp[ByteArray.toList_eq,Bn]
  all_goals simp_all
 ·unfold qd at h
  split at h
  ·simp_all
  ·simp_all
  ·rename_i a1 a2 _ e2 e3
   simp only[ae9.injEq] at h; subst h
   refine ⟨_,_,qW _ _ e2,qW _ _ e3,?_⟩
   exact Go.run_equalIn_bool w d f.type _ _ hu
  ·cases h
theorem uy (d:Nat) (xs ys:Array Value):∀ {fs:List Field} {ks:List (Nat × LK)} {b:Bool},lx P fs=some ks→zK xs ys ks=some b→∀ w:World,(Op.eqFields (d + 1) xs ys fs).run P w= .ok b w
 | [],ks,b,hk,h,w=>by
   simp[lx] at hk; subst hk
   simp[zK] at h; subst h
   simp[Op.eqFields]
 | f :: fs,ks,b,hk,h,w=>by
   simp only[lx] at hk
   split at hk
   ·cases hk
   rename_i hn
   split at hk
   ·cases hk
   rename_i iK jk
   have key:∀ k,ks=(f.offset,k) :: iK→((∃ i,k= .i∧P.underlying f.type=some (.int i))∨(k= .s∧P.underlying f.type=some .string)∨(k= .b∧P.underlying f.type=some .bool))→
    (Op.eqFields (d + 1) xs ys (f :: fs)).run P w= .ok b w:=by
    intro k e hu
    subst e
    simp only[zK] at h
    cases h1:qd k xs[f.offset]? ys[f.offset]? with
    | none=>rw[h1] at h; simp[IQ] at h
    | some b1=>
      cases h2:zK xs ys iK with
      | none=>rw[h1,h2] at h; simp[IQ] at h
      | some b2=>
        rw[h1,h2] at h
        simp[IQ] at h
        obtain ⟨x,y,e1,e2,e3⟩:=Bo hu d xs ys h1 w
        have ih:=uy d xs ys jk h2 w
        simp only[Op.eqFields,ne_eq,hn,not_false_eq_true,if_true,afc,e1,e2,e3,ae7]
        cases b1
        ·simp at h; subst h; simp
        ·simp at h; subst h; simpa using ih
   split at hk
   ·rename_i i hu; simp at hk; exact key .i hk.symm (.inl ⟨i,rfl,hu⟩)
   ·rename_i hu; simp at hk; exact key .s hk.symm (.inr (.inl ⟨rfl,hu⟩))
   ·rename_i hu; simp at hk; exact key .b hk.symm (.inr (.inr ⟨rfl,hu⟩))
   ·cases hk
theorem Nw {neg:Bool} {ty:TypeId} {fields:Array Field} {ks:List (Nat × LK)} (ht:P.underlying ty=some (.struct fields)) (hs:Dz P ty fields.toList=some ks) {xs ys:Array Value} {b:Bool}
 (h:zK xs ys ks=some b) (w:World) (x y:Operand) :
 ((do eqGuard (if neg then .neq else .eql) ty x y (.agg xs) (.agg ys); binOp (if neg then .neq else .eql) ty (.agg xs) (.agg ys)):Sem Value).run P w= .ok (.bool (if neg then !b else b)) w:=by
 unfold Dz at hs
 split at hs
 case isFalse=>cases hs
 rename_i hc
 have hf:P.fieldsOf ty=fields:=by simp[Program.fieldsOf,ht]
 have hg:=fun op=>run_eqGuard_agg (P:=P) w op ty x y xs ys hc.2
 have he:(Op.equalIn 10000 ty (.agg xs) (.agg ys)).run P w= .ok b w:=by
  rw[show (10000:Nat)=9998 + 1 + 1 from rfl,run_equalIn_struct w _ ty xs ys (by rw[hf]; exact ht) hc.1,hf]
  exact uy 9998 xs ys hs h w
 cases neg
 ·simp only[ae6,if_false,afc,hg,ae7,run_eql_struct,he]
 ·simp only[if_true,afc,hg,ae7,run_neq_struct,he]
theorem nE {t:TypeId} {i:TypeInfo} (h:P.info? t=some i) (w:World):(typeInfo t).run P w= .ok i w:=by
 simp[typeInfo,h]
theorem fk {t:TypeId} {s:Nat} (h:cb P t=some s) (w:World):(Go.sizeOf t).run P w= .ok s w:=by
 simp only[cb,afe] at h
 obtain ⟨i,hi,rfl⟩:=h
 simp[Go.sizeOf,nE hi]
theorem ly {t:TypeId} {b:Bool} (h:im P t=some b) (w:World):(isAgg t).run P w= .ok b w:=by
 unfold im at h
 split at h
 ·rename_i hu; simp at h; subst h; simp[isAgg,run_underlying hu]
 ·rename_i hu; simp at h; subst h; simp[isAgg,run_underlying hu]
 ·rename_i d h1 h2 hu
  simp at h; subst h
  simp only[isAgg,afc,run_underlying hu,ae7]
  rfl
 ·simp at h
theorem IY {c a b:Option Value} {p:Prop} {v:Value} (h:vR c a b=some (p,v)) :
 ∃ t,c=some (.bool t)∧(t=true→∃ x,a=some x∧v=x)∧(t=false→∃ x,b=some x∧v=x):=by
 unfold vR at h
 split at h
 ·rename_i c a b
  simp at h; obtain ⟨_,rfl⟩:=h
  exact ⟨c,rfl,fun e=>⟨_,rfl,by simp[e]⟩,fun e=>⟨_,rfl,by simp[e]⟩⟩
 ·rename_i a _ _
  simp at h; obtain ⟨_,rfl⟩:=h
  exact ⟨true,rfl,fun _=>⟨_,rfl,rfl⟩,fun e=>by cases e⟩
 ·rename_i a _ _
  simp at h; obtain ⟨_,rfl⟩:=h
  exact ⟨false,rfl,fun e=>(by cases e),fun _=>⟨_,rfl,rfl⟩⟩
 ·simp at h
theorem cH (k:IntKind) (i:Int) (y:Nat) (code:BoundsCode) (h0:0≤i) (h1:i≤y) (w:World) :
 (Instr.sliceBound (.int k i) y code).run P w= .ok i.toNat w:=by
 simp[Instr.sliceBound,asIntOf,h0,h1]
theorem lz {ev:Operand→Option Value} {x:Option Operand} (h:aO ev x=some none):x=none:=by
 cases x with
 | none=>rfl
 | some y=>simp only[aO] at h; split at h <;> simp at h
theorem lA {ev:Operand→Option Value} {x:Option Operand} {n:Int} (h:aO ev x=some (some n)):∃ y k,x=some y∧ev y=some (.int k n):=by
 cases x with
 | none=>simp[aO] at h
 | some y=>
   simp only[aO] at h
   split at h
   ·rename_i k m he; simp at h; subst h; exact ⟨y,k,rfl,he⟩
   ·simp at h
theorem zQ {t e:TypeId} {s:Nat} (ht:P.underlying t=some (.slice e)) (hs:cb P e=some s) {ev:Operand→Option Value} {a:Act} (hf:jV ev a)
 {lo hi:Option Operand} {ad:Option Addr} {len cap:Nat} {l h:Option Int} (hl:aO ev lo=some l) (hh:aO ev hi=some h) {p:Prop} {v:Value} (hv:RB s ad len cap l h=(p,v)) (hp:p) (w:World) :
 (Instr.sliceAt t (.slice ad len cap) (lo.map a.eval) (hi.map a.eval) none).run P w= .ok v w:=by
 have dO:=fun w=>fk hs w
 simp only[Instr.sliceAt,afc,run_underlying ht,ae7,Instr.slice]
 cases l with
 | none=>
   cases lz hl
   cases h with
   | none=>
     cases lz hh
     simp only[RB,aff.injEq] at hv; obtain ⟨_,rfl⟩:=hv
     simp[Instr.sliceBounds,dO]
     intro _; cases ad <;> simp[Addr.add]
   | some h=>
     obtain ⟨y,k,rfl,he⟩:=lA hh
     simp only[RB,aff.injEq] at hv; obtain ⟨rfl,rfl⟩:=hv
     simp only[afp,aft,hf.ev he,Instr.sliceBounds,afc,afk,ae7,cH k h cap _ hp.1 hp.2,dO]
     simp
     intro h; cases ad <;> simp[Addr.add]
 | some l=>
   obtain ⟨y,k,rfl,he⟩:=lA hl
   cases h with
   | none=>
     cases lz hh
     simp only[RB,aff.injEq] at hv; obtain ⟨rfl,rfl⟩:=hv
     simp only[afp,aft,hf.ev he,Instr.sliceBounds,afc,afk,ae7,afw,ae6,if_false,cH k l len _ hp.1 hp.2,dO]
   | some h=>
     obtain ⟨y',k',rfl,s8⟩:=lA hh
     simp only[RB,aff.injEq] at hv; obtain ⟨rfl,rfl⟩:=hv
     have h2:l≤(h.toNat:Int):=by omega
     simp only[afp,hf.ev he,hf.ev s8,Instr.sliceBounds,afc,afk,ae7,afw,ae6,if_false,
      cH k' h cap _ hp.1.1 hp.1.2,cH k l h.toNat _ hp.2.1 h2,dO]
theorem yn {t:TypeId} (ht:P.underlying t=some .string) {ev:Operand→Option Value} {a:Act} (hf:jV ev a)
 {lo hi:Option Operand} {x:ByteArray} {l h:Option Int} (hl:aO ev lo=some l) (hh:aO ev hi=some h) {p:Prop} {v:Value} (hv:Dx x l h=(p,v)) (hp:p) (w:World) :
 (Instr.sliceAt t (.string x) (lo.map a.eval) (hi.map a.eval) none).run P w= .ok v w:=by
 simp only[Instr.sliceAt,afc,run_underlying ht,ae7,Instr.slice]
 cases l with
 | none=>
   cases lz hl
   cases h with
   | none=>
     cases lz hh
     simp only[Dx,aff.injEq] at hv; obtain ⟨_,rfl⟩:=hv
     simp[Instr.sliceBounds]
   | some h=>
     obtain ⟨y,k,rfl,he⟩:=lA hh
     simp only[Dx,aff.injEq] at hv; obtain ⟨rfl,rfl⟩:=hv
     simp[hf.ev he,Instr.sliceBounds,cH k h x.size _ hp.1 hp.2]
 | some l=>
   obtain ⟨y,k,rfl,he⟩:=lA hl
   cases h with
   | none=>
     cases lz hh
     simp only[Dx,aff.injEq] at hv; obtain ⟨rfl,rfl⟩:=hv
     simp[hf.ev he,Instr.sliceBounds,cH k l x.size _ hp.1 hp.2]
   | some h=>
     obtain ⟨y',k',rfl,s8⟩:=lA hh
     simp only[Dx,aff.injEq] at hv; obtain ⟨rfl,rfl⟩:=hv
     have h2:l≤(h.toNat:Int):=by omega
     simp[hf.ev he,hf.ev s8,Instr.sliceBounds,cH k' h x.size _ hp.1.1 hp.1.2,cH k l h.toNat _ hp.2.1 h2]
end
section
variable {P:Program}
theorem GR (cs:List Value):∀ (off j:Nat) (cells:List Value),off + j + cs.length≤cells.length→
 ((cs.zipIdx j).foldl (fun (acc:Array Value) (x:Value × Nat)=>acc.setIfInBounds (off + x.2) x.1) cells.toArray).toList=cells.take (off + j) ++ cs ++ cells.drop (off + j + cs.length):=by
 induction cs with
 | nil=>intro off j cells _; simp
 | cons c cs ih=>
   intro off j cells h
   simp only[List.length_cons] at h
   simp only[List.zipIdx_cons,List.foldl_cons,List.setIfInBounds_toArray]
   rw[ih off (j + 1) (cells.set (off + j) c) (by simp; omega)]
   have e1:off + (j + 1)=off + j + 1:=by omega
   rw[e1]
   have e2:(cells.set (off + j) c).take (off + j + 1)=cells.take (off + j) ++ [c]:=by
    rw[List.take_add_one,List.take_set_of_le (Nat.le_refl _)]
    simp[show off + j < cells.length by omega]
   have e3:(cells.set (off + j) c).drop (off + j + 1 + cs.length)=cells.drop (off + j + (cs.length + 1)):=by
    rw[List.drop_set_of_lt (by omega)]; congr 1; omega
   rw[e2,e3]
   simp
theorem vo (place:Nat→Option (Nat × Nat)):∀ (ps:List (Nat × Value)) (qs:List (Nat × Nat × Value)) (cells out:List Value),
 qs.length=ps.length→(∀ (j i:Nat) (v:Value),ps[j]?=some (i,v)→∃ o s,place i=some (o,s)∧qs[j]?=some (o,s,v))→
 lq cells qs=some out→Instr.fill place cells.toArray ps=some out.toArray
 | [],[],cells,out,_,_,h=>by simp[lq] at h; simp[Instr.fill,h]
 | [],q :: qs,_,_,hl,_,_=>by simp at hl
 | p :: ps,[],_,_,hl,_,_=>by simp at hl
 | (i,v) :: ps,q :: qs,cells,out,hl,hp,h=>by
   obtain ⟨o,s,h1,h2⟩:=hp 0 i v rfl
   simp at h2; subst h2
   have ih:=fun qe=>vo place ps qs qe out (by simpa using hl) (fun j i v hj=>by simpa using hp (j + 1) i v (by simpa using hj))
   simp only[Instr.fill,h1]
   have key:∀ qe,lq qe qs=some out→(v.cells.size=s∧o + v.cells.size≤cells.length)→
    qe=cells.take o ++ v.cells.toList ++ cells.drop (o + v.cells.size)→
    (if v.cells.size≠s || o + v.cells.size > cells.toArray.size then none else Instr.fill place (v.cells.zipIdx.foldl (fun cs (c,j)=>cs.setIfInBounds (o + j) c) cells.toArray) ps)=some out.toArray:=by
    intro qe hf ⟨hs,hb⟩ he
    rw[if_neg (by simp[hs]; rw[hs] at hb; omega)]
    have e:=GR v.cells.toList o 0 cells (by simpa using hb)
    have e':(v.cells.zipIdx.foldl (fun (cs:Array Value) (x:Value × Nat)=>cs.setIfInBounds (o + x.2) x.1) cells.toArray)=qe.toArray:=by
     apply afh.1
     rw[← Array.foldl_toList]
     simp only[Array.toList_zipIdx]
     rw[e,he]
     simp
    have:=ih qe hf
    rw[← e'] at this
    exact this
   unfold lq at h
   split at h
   ·rename_i cs
    split at h
    ·rename_i hc
     exact key _ h ⟨hc.1,by simp[afE]; omega⟩ (by simp[afE,hc.1])
    ·simp at h
   ·rename_i hv
    split at h
    ·rename_i hc
     have Bp:v.cells=#[v]:=by cases v <;> first | rfl | (exfalso; exact hv _ rfl)
     refine key _ h ⟨by rw[Bp]; simp[hc.1],by rw[Bp]; simp; omega⟩ ?_
     rw[Bp,List.set_eq_take_append_cons_drop,if_pos hc.2]
     simp
    ·simp at h
theorem run_places:∀ (fields:List Field) (w:World),fields.all (fun f=>(cb P f.type).isSome)=true→
 ((fields.mapM fun f=>do pure (f.offset,← Go.sizeOf f.type)):Sem (List (Nat × Nat))).run P w= .ok (fields.map fun f=>(f.offset,(cb P f.type).getD 0)) w
 | [],w,_=>by simp
 | f :: fs,w,h=>by
   simp only[afb,ae5] at h
   obtain ⟨s,hs⟩:=afy.1 h.1
   simp only[afB,afc,fk hs,ae7,afk,run_places fs w h.2,afi,hs,Option.getD_some]
theorem pT {fields:List Field}:∀ {parts:List (Nat × Operand)} {ps:List (Nat × Nat × Operand)},lu P fields parts=some ps→
 ps.length=parts.length∧∀ (j i:Nat) (x:Operand),parts[j]?=some (i,x)→∃ f s,fields[i]?=some f∧cb P f.type=some s∧ps[j]?=some (f.offset,s,x)
 | [],ps,h=>by simp[lu] at h; subst h; exact ⟨rfl,fun j i x hj=>by simp at hj⟩
 | (i,x) :: r,ps,h=>by
   simp only[lu] at h
   split at h
   ·simp at h
   ·rename_i f hf
    split at h
    ·rename_i s ps' h1 h2
     simp at h; subst h
     obtain ⟨hl,ih⟩:=pT h2
     refine ⟨by simp[hl],fun j i' x' hj=>?_⟩
     cases j with
     | zero=>simp at hj; obtain ⟨rfl,rfl⟩:=hj; exact ⟨f,s,hf,h1,rfl⟩
     | succ j=>simpa using ih j i' x' (by simpa using hj)
    ·simp at h
theorem ml {ev:Operand→Option Value}:∀ {ps:List (Nat × Nat × Operand)} {qs:List (Nat × Nat × Value)},fR ev ps=some qs→
 qs.length=ps.length∧∀ (j o s:Nat) (x:Operand),ps[j]?=some (o,s,x)→∃ v,ev x=some v∧qs[j]?=some (o,s,v)
 | [],qs,h=>by simp[fR] at h; subst h; exact ⟨rfl,fun j o s x hj=>by simp at hj⟩
 | (o,s,x) :: r,qs,h=>by
   simp only[fR] at h
   split at h
   ·rename_i v vs h1 h2
    simp at h; subst h
    obtain ⟨hl,ih⟩:=ml h2
    refine ⟨by simp[hl],fun j o' s' x' hj=>?_⟩
    cases j with
    | zero=>simp at hj; obtain ⟨rfl,rfl,rfl⟩:=hj; exact ⟨v,h1,rfl⟩
    | succ j=>simpa using ih j o' s' x' (by simpa using hj)
   ·simp at h
theorem zR {t:TypeId} {fields:Array Field} {z:Value} (ht:P.underlying t=some (.struct fields)) (hz:zeroOf P t=some z) {parts:Array (Nat × Operand)} {ps:List (Nat × Nat × Operand)}
 (dk:fields.toList.all (fun f=>(cb P f.type).isSome)=true) (qQ:lu P fields.toList parts.toList=some ps) {ev:Operand→Option Value} {a:Act} (hf:jV ev a)
 {qs:List (Nat × Nat × Value)} (hq:fR ev ps=some qs) {out:List Value} (ho:lq z.cells.toList qs=some out) (w:World) :
 (Instr.build t (parts.map fun (i,x)=>(i,a.eval x))).run P w= .ok (.agg out.toArray) w:=by
 have Ir:(zeroValue t).run P w= .ok z w:=by
  simp only[zeroOf,afn] at hz
  obtain ⟨i,hi,hz⟩:=hz
  simp[zeroValue,nE hi,hz]
 obtain ⟨yN,h1⟩:=pT qQ
 obtain ⟨yf,h2⟩:=ml hq
 have pU:=vo (fun i=>(fields.toList.map fun f=>(f.offset,(cb P f.type).getD 0))[i]?) (parts.toList.map fun (i,x)=>(i,a.eval x)) qs z.cells.toList out (by simp[yN,yf])
  (fun j i v hj=>by
   simp only[List.getElem?_map,afe,aff.injEq] at hj
   obtain ⟨⟨i',x⟩,hp,rfl,rfl⟩:=hj
   obtain ⟨f,s,bY,cQ,dE⟩:=h1 j i' x hp
   obtain ⟨v,VL,u0⟩:=h2 j _ _ _ dE
   refine ⟨f.offset,s,?_,?_⟩
   ·simp; exact ⟨f,by simpa using bY,rfl,by simp[cQ]⟩
   ·rw[u0]; simp[hf.ev VL]) ho
 simp only[Instr.build,afc,Ir,ae7,run_underlying ht,afx,Sem.run_map,run_places _ _ dk]
 simp only[afs,List.getElem?_toArray,afC] at pU ⊢
 rw[pU]
 rfl
theorem qX {size:Nat}:∀ {parts:List (Nat × Operand)},(mj size parts).length=parts.length∧∀ (j i:Nat) (x:Operand),parts[j]?=some (i,x)→(mj size parts)[j]?=some (i * size,size,x)
 | []=>⟨rfl,fun j i x hj=>by simp at hj⟩
 | (i,x) :: r=>by
   obtain ⟨hl,ih⟩:=qX (size:=size) (parts:=r)
   refine ⟨by simp[mj,hl],fun j i' x' hj=>?_⟩
   cases j with
   | zero=>simp at hj; obtain ⟨rfl,rfl⟩:=hj; rfl
   | succ j=>simpa [mj] using ih j i' x' (by simpa using hj)
theorem yo {t n e s:Nat} {z:Value} (ht:P.underlying t=some (.array n e)) (hz:zeroOf P t=some z) {parts:Array (Nat × Operand)} (hs:cb P e=some s) {ev:Operand→Option Value} {a:Act} (hf:jV ev a)
 {qs:List (Nat × Nat × Value)} (hq:fR ev (mj s parts.toList)=some qs) {out:List Value} (ho:lq z.cells.toList qs=some out) (w:World) :
 (Instr.build t (parts.map fun (i,x)=>(i,a.eval x))).run P w= .ok (.agg out.toArray) w:=by
 have Ir:(zeroValue t).run P w= .ok z w:=by
  simp only[zeroOf,afn] at hz
  obtain ⟨i,hi,hz⟩:=hz
  simp[zeroValue,nE hi,hz]
 obtain ⟨yN,h1⟩:=qX (size:=s) (parts:=parts.toList)
 obtain ⟨yf,h2⟩:=ml hq
 have pU:=vo (fun i=>some (i * s,s)) (parts.toList.map fun (i,x)=>(i,a.eval x)) qs z.cells.toList out (by simp[yN,yf])
  (fun j i v hj=>by
   simp only[List.getElem?_map,afe,aff.injEq] at hj
   obtain ⟨⟨i',x⟩,hp,rfl,rfl⟩:=hj
   obtain ⟨v,VL,u0⟩:=h2 j _ _ _ (h1 j i' x hp)
   refine ⟨i' * s,s,rfl,?_⟩
   rw[u0]; simp[hf.ev VL]) ho
 simp only[Instr.build,afc,Ir,ae7,run_underlying ht,fk hs]
 simp only[afs,afC] at pU ⊢
 rw[pU]
 rfl
end
section
variable {P:Program}
theorem qY {ev:Operand→Option Value} {a:Act} (hf:jV ev a) {xs:Array Operand} {vs:List Value} (h:ye ev xs.toList=some vs):xs.map a.eval=vs.toArray:=by
 have:=hf.ye h
 apply afh.1
 simpa using this
theorem vU {o:Oper} {ev:Operand→Option Value} {a:Act} {e:PE Operand} {p:Prop} {v:Value} (hs:zN P o.op=some e) (hf:jV ev a)
 (hv:e.val ev=some (p,v)) (hp:p) (w:World):(execOp a.eval o).run P w= .ok (.value v) w:=by
 unfold zN at hs
 unfold execOp
 split at hs
 case h_1 x ho=>-- move
  simp at hs; subst hs
  have:=hf.ev (iZ hv)
  simp[ho,this]
 case h_2 x ho=>
  simp at hs; subst hs
  have:=hf.ev (iZ hv)
  simp[ho,this]
 case h_3 c x y ho=>-- pick
  simp at hs; subst hs
  obtain ⟨t,h1,h2,h3⟩:=IY hv
  cases t with
  | true=>obtain ⟨x',e1,rfl⟩:=h2 rfl; simp[ho,hf.ev h1,hf.ev e1,asBool]
  | false=>obtain ⟨x',e1,rfl⟩:=h3 rfl; simp[ho,hf.ev h1,hf.ev e1,asBool]
 case h_4 op ty x y yt ho=>-- binOp
  have P1:(PE.bin op x y).val ev=some (p,v)→(do let r ← (do eqGuard op ty x y (a.eval x) (a.eval y); binOp op ty (a.eval x) (a.eval y)); pure (Next.value r):Sem Next).run P w= .ok (.value v) w:=by
   intro hv
   simp only[PE.val,RD] at hv
   split at hv
   ·rename_i u1 u2 h1 h2
    rw[hf.ev h1,hf.ev h2,afc,Nv hv hp w ty x y]
    rfl
   ·simp at hv
  have P2:∀ neg,op=(if neg then .neq else .eql)→P.underlying ty=some .bool→(PE.beq neg x y).val ev=some (p,v)→(do let r ← (do eqGuard op ty x y (a.eval x) (a.eval y); binOp op ty (a.eval x) (a.eval y)); pure (Next.value r):Sem Next).run P w= .ok (.value v) w:=by
   intro neg jX It hv
   simp only[PE.val,RE] at hv
   split at hv
   ·rename_i u1 u2 h1 h2
    simp at hv; obtain ⟨_,rfl⟩:=hv
    rw[hf.ev h1,hf.ev h2,afc,jX,RS It w x y]
    rfl
   ·simp at hv
  rw[ho]
  split at hs
  ·simp at hs; subst hs; exact P1 hv
  ·simp at hs; subst hs; exact P1 hv
  ·rename_i It
   split at hs
   ·simp at hs; subst hs; exact P2 false rfl It hv
   ·simp at hs; subst hs; exact P2 true rfl It hv
   ·simp at hs
  ·rename_i fields It
   split at hs
   ·rename_i ks jk
    have st:∀ neg,op=(if neg then .neq else .eql)→(PE.GP neg ks x y).val ev=some (p,v)→(do let r ← (do eqGuard op ty x y (a.eval x) (a.eval y); binOp op ty (a.eval x) (a.eval y)); pure (Next.value r):Sem Next).run P w= .ok (.value v) w:=by
     intro neg jX hv
     simp only[PE.val,IU] at hv
     split at hv
     ·rename_i xs ys h1 h2
      cases hb:zK xs ys ks with
      | none=>rw[hb] at hv; simp[Nt] at hv
      | some b=>
        rw[hb] at hv
        simp[Nt] at hv; obtain ⟨_,rfl⟩:=hv
        rw[hf.ev h1,hf.ev h2,afc,jX,Nw It jk hb w x y]
        rfl
     ·simp at hv
    split at hs
    ·simp at hs; subst hs; exact st false rfl hv
    ·simp at hs; subst hs; exact st true rfl hv
    ·simp at hs
   ·simp at hs
  ·rename_i el It
   split at hs
   ·have nil:∀ neg,op=(if neg then .neq else .eql)→(PE.yL neg x).val ev=some (p,v)→(do let r ← (do eqGuard op ty x (.const (.pointer none)) (a.eval x) (a.eval (.const (.pointer none))); binOp op ty (a.eval x) (a.eval (.const (.pointer none)))); pure (Next.value r):Sem Next).run P w= .ok (.value v) w:=by
     intro neg jX hv
     simp only[PE.val,Dy] at hv
     split at hv
     ·rename_i ad he
      simp at hv; obtain ⟨_,rfl⟩:=hv
      rw[hf.ev he,afc,jX]
      show ((Sem.run P (do eqGuard (if neg then BinOp.neq else BinOp.eql) ty x _ (.pointer ad) (.pointer none); binOp (if neg then BinOp.neq else BinOp.eql) ty (.pointer ad) (.pointer none)) w).andThen _)=_
      rw[zP It]
      rfl
     ·simp at hv
    split at hs
    ·simp at hs; subst hs; exact nil false rfl hv
    ·simp at hs; subst hs; exact nil true rfl hv
    ·simp at hs
   ·simp at hs
  ·rename_i el It
   split at hs
   ·rename_i n' c'
    have nil:∀ neg,op=(if neg then .neq else .eql)→(PE.tp neg x).val ev=some (p,v)→(do let r ← (do eqGuard op ty x (.const (.slice none n' c')) (a.eval x) (a.eval (.const (.slice none n' c'))); binOp op ty (a.eval x) (a.eval (.const (.slice none n' c')))); pure (Next.value r):Sem Next).run P w= .ok (.value v) w:=by
     intro neg jX hv
     simp only[PE.val,zL] at hv
     split at hv
     ·rename_i ad m c he
      simp at hv; obtain ⟨_,rfl⟩:=hv
      rw[hf.ev he,afc,jX]
      show ((Sem.run P (do eqGuard (if neg then BinOp.neq else BinOp.eql) ty x _ (.slice ad m c) (.slice none n' c'); binOp (if neg then BinOp.neq else BinOp.eql) ty (.slice ad m c) (.slice none n' c')) w).andThen _)=_
      rw[vS It]
      rfl
     ·simp at hv
    split at hs
    ·simp at hs; subst hs; exact nil false rfl hv
    ·simp at hs; subst hs; exact nil true rfl hv
    ·simp at hs
   ·simp at hs
  ·rename_i ms It
   split at hs
   ·have nil:∀ neg,op=(if neg then .neq else .eql)→(PE.nD neg x).val ev=some (p,v)→(do let r ← (do eqGuard op ty x (.const .nilIface) (a.eval x) (a.eval (.const .nilIface)); binOp op ty (a.eval x) (a.eval (.const .nilIface))); pure (Next.value r):Sem Next).run P w= .ok (.value v) w:=by
     intro neg jX hv
     simp only[PE.val,zM] at hv
     have key:∀ u,ev x=some u→((∃ t v,u= .iface t v)∨u= .nilIface)→v= .bool (if neg then !iE u else iE u)→(do let r ← (do eqGuard op ty x (.const .nilIface) (a.eval x) (a.eval (.const .nilIface)); binOp op ty (a.eval x) (a.eval (.const .nilIface))); pure (Next.value r):Sem Next).run P w= .ok (.value v) w:=by
      intro u he hu hv
      subst hv
      rw[hf.ev he,afc,jX]
      show ((Sem.run P (do eqGuard (if neg then BinOp.neq else BinOp.eql) ty x (.const .nilIface) u .nilIface; binOp (if neg then BinOp.neq else BinOp.eql) ty u .nilIface) w).andThen _)=_
      rw[vT It u hu]
      rfl
     split at hv
     ·rename_i t' u he
      simp at hv; obtain ⟨_,rfl⟩:=hv
      exact key _ he (.inl ⟨_,_,rfl⟩) (by cases neg <;> rfl)
     ·rename_i he
      simp at hv; obtain ⟨_,rfl⟩:=hv
      exact key _ he (.inr rfl) (by cases neg <;> rfl)
     ·simp at hv
    split at hs
    ·simp at hs; subst hs; exact nil false rfl hv
    ·simp at hs; subst hs; exact nil true rfl hv
    ·simp at hs
   ·simp at hs
  ·simp at hs
 case h_5 op ty x ho=>-- unOp
  simp at hs; subst hs
  simp only[PE.val,unN] at hv
  split at hv
  ·rename_i u h1
   simp[ho,hf.ev h1,RR hv]
  ·simp at hv
 case h_6 src dst x ho=>-- convert
  split at hs
  ·rename_i ks kd h1 h2
   simp at hs; subst hs
   simp only[PE.val,RF] at hv
   split at hv
   ·rename_i k' m he
    simp at hv; obtain ⟨_,rfl⟩:=hv
    simp[ho,hf.ev he,convert,run_underlying h1,run_underlying h2,Conv.intToInt]
   ·simp at hv
  ·rename_i h1 h2
   simp at hs; subst hs
   simp only[PE.val,RG] at hv
   split at hv
   ·rename_i u he
    simp at hv; obtain ⟨_,rfl⟩:=hv
    simp[ho,hf.ev he,convert,run_underlying h1,run_underlying h2]
   ·simp at hv
  ·simp at hs
 case h_7 s x f ho=>-- fieldAddr
  split at hs
  ·rename_i fields hu
   split at hs
   ·rename_i fd hfd
    split at hs
    ·rename_i k hk
     simp at hs; subst hs
     simp only[PE.val,faN] at hv
     split at hv
     ·rename_i ad he
      simp at hv; obtain ⟨_,rfl⟩:=hv
      simp[ho,hf.ev he,Instr.fieldAt,run_underlying hu,hfd,Instr.sureAddr,fieldPlace,fk hk]
     ·simp at hv
    ·simp at hs
   ·simp at hs
  ·simp at hs
 case h_8 t x i ho=>-- indexAddr
  split at hs
  ·rename_i el hu
   simp only[afe] at hs
   obtain ⟨s,dO,rfl⟩:=hs
   simp only[PE.val,ixN] at hv
   split at hv
   ·rename_i ad len cap k m h1 h2
    simp only[ae9.injEq,aff.injEq] at hv; obtain ⟨rfl,rfl⟩:=hv
    simp[ho,hf.ev h1,hf.ev h2,Instr.indexAt,asIntOf,run_underlying hu,hp,fk dO]
   ·simp only[ae9.injEq,aff.injEq] at hv; obtain ⟨rfl,_⟩:=hv; exact hp.elim
   ·simp at hv
  ·rename_i len el hu
   simp only[afe] at hs
   obtain ⟨s,dO,rfl⟩:=hs
   simp only[PE.val,RH] at hv
   split at hv
   ·rename_i ad k m h1 h2
    simp only[ae9.injEq,aff.injEq] at hv; obtain ⟨rfl,rfl⟩:=hv
    simp[ho,hf.ev h1,hf.ev h2,Instr.indexAt,Instr.sureAddr,asIntOf,run_underlying hu,hp,fk dO]
   ·simp at hv
  ·simp at hs
 case h_9 t x i ho=>-- index
  split at hs
  ·rename_i hu
   simp at hs; subst hs
   simp only[PE.val,RJ] at hv
   split at hv
   ·rename_i s k m h1 h2
    simp only[ae9.injEq,aff.injEq] at hv; obtain ⟨rfl,rfl⟩:=hv
    have ba:m.toNat < s.size:=by omega
    simp[ho,hf.ev h1,hf.ev h2,Instr.index,asIntOf,run_underlying hu,hp.1,ba]
    rfl
   ·simp at hv
  ·rename_i n el hu
   split at hs
   ·rename_i s zS dO
    simp at hs; subst hs
    simp only[PE.val,RI] at hv
    split at hv
    ·rename_i cs k m h1 h2
     split at hv
     ·rename_i u hc
      simp only[ae9.injEq,aff.injEq] at hv; obtain ⟨rfl,rfl⟩:=hv
      simp[ho,hf.ev h1,hf.ev h2,Instr.index,asIntOf,run_underlying hu,hp,fk dO,part,ly zS,hc]
     ·simp at hv
    ·simp at hv
   ·simp at hs
  ·simp at hs
 case h_10 t x lo hi mx ho=>-- slice
  split at hs
  ·rename_i el hu
   simp only[afe] at hs
   obtain ⟨s,dO,rfl⟩:=hs
   simp only[PE.val,slN] at hv
   split at hv
   ·rename_i ad len cap l h h1 h2 h3
    simp only[ae9.injEq] at hv
    simp[ho,hf.ev h1,zQ hu dO hf h2 h3 hv hp]
   ·simp at hv
  ·rename_i hu
   simp at hs; subst hs
   simp only[PE.val,RK] at hv
   split at hv
   ·rename_i s l h h1 h2 h3
    simp only[ae9.injEq] at hv
    simp[ho,hf.ev h1,yn hu hf h2 h3 hv hp]
   ·simp at hv
  ·simp at hs
 case h_11 t x f ho=>-- field
  split at hs
  ·rename_i fields hu
   split at hs
   ·rename_i fd hfd
    split at hs
    ·rename_i s zS dO
     simp at hs; subst hs
     simp only[PE.val,IX] at hv
     split at hv
     ·rename_i cs he
      simp at hv; obtain ⟨_,rfl⟩:=hv
      simp[ho,hf.ev he,Instr.field,run_underlying hu,hfd,asAgg,part,ly zS,fk dO]
     ·simp at hv
    ·rename_i zS
     simp at hs; subst hs
     simp only[PE.val,IW] at hv
     split at hv
     ·rename_i cs he
      split at hv
      ·rename_i u hc
       simp at hv; obtain ⟨_,rfl⟩:=hv
       simp[ho,hf.ev he,Instr.field,run_underlying hu,hfd,asAgg,part,ly zS,hc]
      ·simp at hv
     ·simp at hv
    ·simp at hs
   ·simp at hs
  ·simp at hs
 case h_12 x i ho=>-- extract
  simp at hs; subst hs
  simp only[PE.val,RM] at hv
  split at hv
  ·rename_i vs he
   split at hv
   ·rename_i u hc
    simp at hv; obtain ⟨_,rfl⟩:=hv
    simp[ho,hf.ev he,Instr.extract,hc]
   ·simp at hv
  ·simp at hv
 case h_13 x ho=>-- nilCheck
  simp at hs; subst hs
  simp only[PE.val,ncN] at hv
  split at hv
  ·rename_i ad he
   simp at hv; obtain ⟨_,rfl⟩:=hv
   simp[ho,hf.ev he]
  ·rename_i f c d he
   simp at hv; obtain ⟨_,rfl⟩:=hv
   simp[ho,hf.ev he]
  ·simp at hv
 case h_14 f first uX ho=>-- makeFunc
  simp at hs; subst hs
  simp only[PE.val,RN] at hv
  split at hv
  ·rename_i us vs h1 h2
   simp at hv; obtain ⟨_,rfl⟩:=hv
   simp[ho,Instr.makeFunc,qY hf h1,qY hf h2]
  ·simp at hv
 case h_15 t x ho=>-- makeInterface
  split at hs
  ·simp at hs
  ·rename_i d hni hu
   simp at hs; subst hs
   simp only[PE.val,RO] at hv
   split at hv
   ·rename_i u h1
    simp at hv; obtain ⟨_,rfl⟩:=hv
    have:(Instr.makeInterface t u).run P w= .ok (.iface t u) w:=by
     unfold Instr.makeInterface
     simp only[afc,run_underlying hu,ae7]
     rfl
    simp[ho,hf.ev h1,this]
   ·simp at hv
  ·simp at hs
 case h_16 x xt t ok ho=>-- typeAssert
  split at hs
  ·simp at hs
  ·rename_i d hni hu
   have hd:∀ ms,d≠.interface ms:=fun ms e=>hni ms e
   split at hs
   ·rename_i dj
    simp only[afe] at hs
    obtain ⟨z,hz,rfl⟩:=hs
    subst dj
    have Ir:(zeroValue t).run P w= .ok z w:=by
     simp only[zeroOf,afn] at hz
     obtain ⟨i,hi,hz⟩:=hz
     simp[zeroValue,nE hi,hz]
    simp only[PE.val,RP] at hv
    split at hv
    ·rename_i t' u h1
     simp at hv; obtain ⟨_,rfl⟩:=hv
     have:(Instr.typeAssert (.iface t' u) xt t true).run P w= .ok (if t'=t then .tuple #[u,.bool true] else .tuple #[z,.bool false]) w:=by
      unfold Instr.typeAssert
      simp only[afc,run_underlying hu,ae7]
      cases d <;> first
       | exact absurd rfl (hd _)
       | (by_cases hc:t'=t <;> simp[hc,Ir])
     simp[ho,hf.ev h1,this]
    ·rename_i h1
     simp at hv; obtain ⟨_,rfl⟩:=hv
     have:(Instr.typeAssert .nilIface xt t true).run P w= .ok (.tuple #[z,.bool false]) w:=by
      unfold Instr.typeAssert
      simp only[afc,run_underlying hu,ae7]
      cases d <;> first
       | exact absurd rfl (hd _)
       | simp[Ir]
     simp[ho,hf.ev h1,this]
    ·simp at hv
   ·rename_i dj
    simp at hs; subst hs
    have dj:ok=false:=by simpa using dj
    subst dj
    simp only[PE.val,RQ] at hv
    split at hv
    ·rename_i t' u h1
     simp only[ae9.injEq,aff.injEq] at hv; obtain ⟨rfl,rfl⟩:=hv
     have:(Instr.typeAssert (.iface t' u) xt t false).run P w= .ok u w:=by
      unfold Instr.typeAssert
      simp only[afc,run_underlying hu,ae7]
      cases d <;> first
       | exact absurd rfl (hd _)
       | simp[hp]
     simp[ho,hf.ev h1,this]
    ·simp at hv
  ·simp at hs
 case h_17 t parts ho=>-- build
  split at hs
  ·rename_i fields z hu hz
   split at hs
   ·rename_i dk
    simp only[afe] at hs
    obtain ⟨ps,qQ,rfl⟩:=hs
    simp only[PE.val,Nu] at hv
    split at hv
    ·rename_i qs hq
     split at hv
     ·rename_i cs hc
      simp at hv; obtain ⟨_,rfl⟩:=hv
      simp[ho,zR hu hz dk qQ hf hq hc]
     ·simp at hv
    ·simp at hv
   ·simp at hs
  ·rename_i n el z hu hz
   simp only[afe] at hs
   obtain ⟨s,dO,rfl⟩:=hs
   simp only[PE.val,Nu] at hv
   split at hv
   ·rename_i qs hq
    split at hv
    ·rename_i cs hc
     simp at hv; obtain ⟨_,rfl⟩:=hv
     simp[ho,yo hu hz dO hf hq hc]
    ·simp at hv
   ·simp at hv
  ·simp at hs
 case h_18 args argTypes ho=>-- len
  split at hs
  ·rename_i t x ht hx
   split at hs
   ·rename_i el hu
    simp at hs; subst hs
    simp only[PE.val,RL] at hv
    split at hv
    ·rename_i ad m cap he
     simp at hv; obtain ⟨_,rfl⟩:=hv
     have e1:argTypes=#[t]:=afh.1 ht
     have e2:args=#[x]:=afh.1 hx
     simp[ho,e1,e2,resolve,invoke,builtin,Builtin.len_,hf.ev he,run_underlying hu,goInt]
    ·simp at hv
   ·rename_i hu
    simp at hs; subst hs
    simp only[PE.val,IV] at hv
    split at hv
    ·rename_i s he
     simp at hv; obtain ⟨_,rfl⟩:=hv
     have e1:argTypes=#[t]:=afh.1 ht
     have e2:args=#[x]:=afh.1 hx
     simp[ho,e1,e2,resolve,invoke,builtin,Builtin.len_,hf.ev he,run_underlying hu,goInt]
    ·simp at hv
   ·simp at hs
  ·simp at hs
 case h_19 args argTypes ho=>-- max
  split at hs
  ·rename_i t t' x y ht hx
   split at hs
   ·rename_i k hu
    simp at hs; subst hs
    simp only[PE.val,mmN] at hv
    split at hv
    ·rename_i k1 m1 k2 m2 h1 h2
     split at hv
     ·rename_i e; subst e
      simp at hv; obtain ⟨_,rfl⟩:=hv
      have e2:args=#[x,y]:=afh.1 hx
      simp[ho,e2,resolve,invoke,builtin,run_max_int2,hf.ev h1,hf.ev h2]
     ·simp at hv
    ·simp at hv
   ·simp at hs
  ·simp at hs
 case h_20 args argTypes ho=>-- min
  split at hs
  ·rename_i t t' x y ht hx
   split at hs
   ·rename_i k hu
    simp at hs; subst hs
    simp only[PE.val,mmN] at hv
    split at hv
    ·rename_i k1 m1 k2 m2 h1 h2
     split at hv
     ·rename_i e; subst e
      simp at hv; obtain ⟨_,rfl⟩:=hv
      have e2:args=#[x,y]:=afh.1 hx
      simp[ho,e2,resolve,invoke,builtin,run_min_int2,hf.ev h1,hf.ev h2]
     ·simp at hv
    ·simp at hv
   ·simp at hs
  ·simp at hs
 case h_21=>simp at hs
end
inductive da (O:Type) where
 | v (e:PE O)
 | ld (sz:Option Nat) (x:O)
 | st (n:Nat) (a x:O)
 | al (t:Nat) (zero:List Value)
 | bx (t:Nat) (x:O)
 | bs (t n:Nat) (zero:List Value) (parts:List (Nat × Nat × O))
 | ap (t tx:Nat) (s x:O)
 | mk (t size bytes:Nat) (zero:Value) (l c:O)
 | call (f:Nat) (args:List O)
 | cv (f:O) (args:List O)
 | Bb (x:O)
 | s2b (t:Nat) (x:O)
 | VM (x:O)
 | mks (x:O)
 | mm
 | ins (m k x:O)
 | RT (z:Value) (m k:O)
 | Bc (kd:IntKind) (m k x:O)
 | Ny (kd:IntKind) (z:Value) (m k:O)
def dm (H:Heap) (a:Addr) (i:Nat):Nat→Option (List Value)
 | 0=>some []
 | n + 1=>match cellAt H (a.add i),dm H a (i + 1) n with
   | some v,some vs=>some (v :: vs)
   | _,_=>none
def IZ (H:Heap) (sz:Option Nat) (a:Addr):Option Value:=
 match sz with
 | none=>cellAt H a
 | some n=>match dm H a 0 n with
   | some vs=>some (.agg vs.toArray)
   | none=>none
def I0 (H:Heap) (sz:Option Nat):Option Value→Option Value
 | some (.pointer (some a))=>IZ H sz a
 | _=>none
def iL (H:Heap) (a:Addr) (i:Nat):Nat→Option (List UInt8)
 | 0=>some []
 | n + 1=>match cellAt H (a.add i),iL H a (i + 1) n with
   | some (.int .u8 m),some r=>some (UInt8.ofNat m.toNat :: r)
   | _,_=>none
def pJ (H:Heap):Option Value→Option Value
 | some (.slice none _ _)=>some (.string ⟨⟨[]⟩⟩)
 | some (.slice (some a) n _)=>match iL H a 0 n with
   | some l=>some (.string ⟨⟨l⟩⟩)
   | none=>none
 | _=>none
def Nz (H:Heap) (a:Addr):List Value→Nat→(Heap→Prop)→Prop
 | [],_,R=>R H
 | v :: vs,i,R=>v.oneCell'=true∧(∃ u,cellAt H (a.add i)=some u)∧frozenAt H (a.add i)=false∧Nz (iY H (a.add i) v) a vs (i + 1) R
def GS (H:Heap) (t:Nat) (cs:List Value) (R:Value→Heap→Prop):Prop:=R (.pointer (some ⟨H.size,0,none⟩)) (H.push (.cells cs.toArray t))
def GU (H:Heap) (t n:Nat) (cs:List Value) (R:Value→Heap→Prop):Prop:=R (.slice (some ⟨H.size,0,none⟩) n n) (H.push (.cells cs.toArray t))
def App (P:Program) (ts tx ty:TypeId) (H:Heap) (s x:Value) (R:Value→Heap→Prop):Prop:=
 ∀ w:World,w.heap=H→∃ v w',(Builtin.append_ #[ts,tx] ty #[s,x]).run P w= .ok v w'∧R v w'.heap∧Same w w'
def Mk (H:Heap) (t size:Nat) (zero:Value) (l c:Int) (bytes:Nat) (R:Value→Heap→Prop):Prop:=
 0≤l∧l≤c∧c≤9223372036854775807∧(bytes:Int) * c≤281474976710656∧R (.slice (some ⟨H.size,0,none⟩) l.toNat c.toNat) (H.push (.cells (madeCells zero.cells (c.toNat * size)) t))
def S2b (H:Heap) (t:Nat) (s:ByteArray) (R:Value→Heap→Prop):Prop:=
 ∀ cap,s.size≤cap→R (.slice (some ⟨H.size,0,none⟩) s.size cap) (H.push (.cells (bytesRow s cap) t ((bytesRow s cap).size,(bytesRow s cap).size + 1)))
def dV (P:Program) (f:Nat):Bool:=
 match P.funcs[f]? with
 | some fn=>fn.body.isSome && !(fn.name == "runtime.NumGoroutine")
 | none=>false
def vN (H:Heap) (R:Value→Heap→Prop):Option (Prop × Value)→Prop
 | some (p,v)=>p∧R v H
 | none=>False
def NB (H:Heap) (R:Value→Heap→Prop):Option Value→Prop
 | some v=>R v H
 | none=>False
def stN (H:Heap) (n:Nat) (R:Value→Heap→Prop):Option Value→Option Value→Prop
 | some (.pointer (some a)),some v=>v.cells.size=n∧Nz H a v.cells.toList 0 (R undef)
 | _,_=>False
def bxN (H:Heap) (t:Nat) (R:Value→Heap→Prop):Option Value→Prop
 | some v=>GS H t v.cells.toList R
 | none=>False
def WR (H:Heap) (t n:Nat) (zero:List Value) (R:Value→Heap→Prop):Option (List (Nat × Nat × Value))→Prop
 | some ps=>match lq zero ps with
   | some cs=>GU H t n cs R
   | none=>False
 | none=>False
def apN (P:Program) (t tx:Nat) (H:Heap) (R:Value→Heap→Prop):Option Value→Option Value→Prop
 | some s,some x=>App P t tx t H s x R
 | _,_=>False
def Fs (P:Program) (E:cd→Heap→Prop) (f:Nat) (H:Heap) (R:Value→Heap→Prop):Option (List Value)→Prop
 | some vs=>bU P f vs.toArray H R E
 | none=>False
def cvN (P:Program) (E:cd→Heap→Prop) (H:Heap) (R:Value→Heap→Prop):Option Value→Option (List Value)→Prop
 | some (.func (.func f) first captured),some vs=>dV P f=true∧bU P f (first ++ vs.toArray ++ captured) H R E
 | _,_=>False
def mkN (H:Heap) (t size bytes:Nat) (zero:Value) (R:Value→Heap→Prop):Option Value→Option Value→Prop
 | some (.int .i64 l),some (.int .i64 c)=>Mk H t size zero l c bytes R
 | _,_=>False
def NC (E:cd→Heap→Prop) (H:Heap):Option Value→Prop
 | some (.iface t v)=>E [{ v:=.iface t v,recovered:=false }] H
 | _=>False
def WS (H:Heap) (b n:Nat):Heap:=
 H.modify b fun
  | .cells c elem (lo,hi)=>.cells c elem (if lo == hi then (n,n + 1) else (min lo n,max hi (n + 1)))
  | o=>o
def Mks (H:Heap) (a:Addr) (R:Heap→Prop):Prop:=∃ c e f,H[a.block]?=some (.cells c e f)∧R (WS H a.block c.size)
def WT (H:Heap) (R:Value→Heap→Prop):Option Value→Prop
 | some (.slice (some a) n c)=>Mks H a (R (.slice (some a) n c))
 | _=>False
def ND (H:Heap) (R:Value→Heap→Prop):Prop:=R (.map (some H.size)) (H.push (.map #[] 0))
def RU (H:Heap) (r:Nat) (s:ByteArray) (v:Value) (R:Heap→Prop):Prop:=
 ∃ es c,H[r]?=some (.map es c)∧Instr.findNow .string (.string s) es.toList 0=some none∧R (H.setIfInBounds r (.map (es.push ⟨.string s,v,c⟩) (c + 1)))
def RW (H:Heap) (z:Value) (r:Nat) (s:ByteArray) (R:Value→Prop):Prop:=
 ∃ es c,H[r]?=some (.map es c)∧((∃ i v,Instr.findNow .string (.string s) es.toList 0=some (some (i,v))∧R v)∨(Instr.findNow .string (.string s) es.toList 0=some none∧R z))
def NF (H:Heap) (R:Value→Heap→Prop):Option Value→Option Value→Option Value→Prop
 | some (.map (some r)),some (.string s),some v=>RU H r s v (R undef)
 | _,_,_=>False
def NG (H:Heap) (z:Value) (R:Value→Heap→Prop):Option Value→Option Value→Prop
 | some (.map (some r)),some (.string s)=>RW H z r s fun v=>R v H
 | _,_=>False
def RX (H:Heap) (r:Nat) (kd:IntKind) (s:Int) (v:Value) (R:Heap→Prop):Prop:=
 ∃ es c,H[r]?=some (.map es c)∧Instr.findNow (.int kd) (.int kd s) es.toList 0=some none∧R (H.setIfInBounds r (.map (es.push ⟨.int kd s,v,c⟩) (c + 1)))
def RY (H:Heap) (z:Value) (r:Nat) (kd:IntKind) (s:Int) (R:Value→Prop):Prop:=
 ∃ es c,H[r]?=some (.map es c)∧((∃ i v,Instr.findNow (.int kd) (.int kd s) es.toList 0=some (some (i,v))∧R v)∨(Instr.findNow (.int kd) (.int kd s) es.toList 0=some none∧R z))
def I1 (H:Heap) (kd:IntKind) (R:Value→Heap→Prop):Option Value→Option Value→Option Value→Prop
 | some (.map (some r)),some (.int k s),some v=>k=kd∧RX H r kd s v (R undef)
 | _,_,_=>False
def I2 (H:Heap) (kd:IntKind) (z:Value) (R:Value→Heap→Prop):Option Value→Option Value→Prop
 | some (.map (some r)),some (.int k s)=>k=kd∧RY H z r kd s fun v=>R v H
 | _,_=>False
def WU (H:Heap) (t:Nat) (R:Value→Heap→Prop):Option Value→Prop
 | some (.string s)=>S2b H t s R
 | _=>False
def da.vc {O:Type} (P:Program) (E:cd→Heap→Prop) (ev:O→Option Value) (H:Heap) (R:Value→Heap→Prop):da O→Prop
 | .v e=>vN H R (e.val ev)
 | .ld sz x=>NB H R (I0 H sz (ev x))
 | .st n a x=>stN H n R (ev a) (ev x)
 | .al t z=>GS H t z R
 | .bx t x=>bxN H t R (ev x)
 | .bs t n z ps=>WR H t n z R (fR ev ps)
 | .ap t tx s x=>apN P t tx H R (ev s) (ev x)
 | .mk t s b z l c=>mkN H t s b z R (ev l) (ev c)
 | .call f args=>Fs P E f H R (ye ev args)
 | .cv f args=>cvN P E H R (ev f) (ye ev args)
 | .Bb x=>NB H R (pJ H (ev x))
 | .s2b t x=>WU H t R (ev x)
 | .VM x=>NC E H (ev x)
 | .mks x=>WT H R (ev x)
 | .mm=>ND H R
 | .ins m k x=>NF H R (ev m) (ev k) (ev x)
 | .RT z m k=>NG H z R (ev m) (ev k)
 | .Bc kd m k x=>I1 H kd R (ev m) (ev k) (ev x)
 | .Ny kd z m k=>I2 H kd z R (ev m) (ev k)
def lB (size:Nat):List (Nat × Operand)→List (Nat × Nat × Operand)
 | []=>[]
 | (i,x) :: r=>(i * size,size,x) :: lB size r
def mn (zero:List Value):Nat→List Value
 | 0=>[]
 | n + 1=>zero ++ mn zero n
def iq (P:Program) (o:Oper):Option (da Operand):=
 match zN P o.op with
 | some e=>some (.v e)
 | none=>
 match o.op with
 | .load t x=>
   match im P t with
   | some false=>some (.ld none x)
   | some true=>(cb P t).map fun n=>.ld (some n) x
   | none=>none
 | .store t a x=>(cb P t).map fun n=>.st n a x
 | .alloc t=>(zeroOf P t).map fun z=>.al t z.cells.toList
 | .box t x=>some (.bx t x)
 | .buildSlice t n parts=>
   match P.underlying t with
   | some (.slice e)=>match cb P e,zeroOf P e with
     | some s,some z=>if z.cells.size=s∧0 < s∧n * s≤16777216 then some (.bs e n (mn z.cells.toList n) (lB s parts.toList)) else none
     | _,_=>none
   | _=>none
 | .convert src dst x=>
   match P.underlying src,P.underlying dst with
   | some (.slice e),some .string=>match P.underlying e with
     | some (.int .u8)=>some (.Bb x)
     | _=>none
   | some .string,some (.slice e)=>match P.underlying e with
     | some (.int .u8)=>some (.s2b e x)
     | _=>none
   | some (.slice _),some (.slice e)=>match P.underlying e with
     | some (.int .u8)=>if src=dst then some (.mks x) else none
     | _=>none
   | _,_=>none
 | .makeSlice t l c=>
   match P.underlying t with
   | some (.slice e)=>match cb P e,zeroOf P e,(P.info? e).map (·.bytes) with
     | some s,some z,some b=>if z.cells.size=s then some (.mk e s b z l c) else none
     | _,_,_=>none
   | _=>none
 | .call { callee:=.builtin .append,args,argTypes }=>
   match argTypes.toList,args.toList with
   | [t,t'],[s,x]=>some (.ap t t' s x)
   | _,_=>none
 | .call { callee:=.value (.func f),args,argTypes:=_ }=>if dV P f then some (.call f args.toList) else none
 | .call { callee:=.value f,args,argTypes:=_ }=>some (.cv f args.toList)
 | .panic x=>some (.VM x)
 | .makeMap _ none=>some .mm
 | .insert t m k x=>
   match P.underlying t with
   | some (.map kt _)=>match P.underlying kt with
     | some .string=>some (.ins m k x)
     | some (.int kd)=>some (.Bc kd m k x)
     | _=>none
   | _=>none
 | .lookup t m k false=>
   match P.underlying t with
   | some (.map kt e)=>match P.underlying kt,zeroOf P e with
     | some .string,some z=>some (.RT z m k)
     | some (.int kd),some z=>some (.Ny kd z m k)
     | _,_=>none
   | _=>none
 | _=>none
section
variable {P:Program}
theorem qZ {t:TypeId} {z:Value} (h:zeroOf P t=some z) (w:World):(zeroValue t).run P w= .ok z w:=by
 simp only[zeroOf,afn] at h
 obtain ⟨i,hi,hz⟩:=h
 simp[zeroValue,nE hi,hz]
theorem pV:∀ (n i:Nat) (a:Addr) (w:World) (vs:List Value) (acc:Array Value),dm w.heap a i n=some vs→(loadCellsFrom a i n acc).run P w= .ok (acc ++ vs.toArray) w
 | 0,i,a,w,vs,acc,h=>by simp[dm] at h; simp[loadCellsFrom,h]
 | n + 1,i,a,w,vs,acc,h=>by
   simp only[dm] at h
   split at h
   ·rename_i v vs' h1 h2
    simp at h; subst h
    have:w.cell? (a.add i)=some v:=h1
    simp only[loadCellsFrom,afc,run_load,this,ae7,pV n (i + 1) a w vs' _ h2]
    simp
   ·simp at h
theorem yO {n:Nat} {a:Addr} {w:World} {vs:List Value} (h:dm w.heap a 0 n=some vs):(loadCells a n).run P w= .ok vs.toArray w:=by
 simp[loadCells,pV n 0 a w vs #[] h]
theorem DA {t:TypeId} {a:Addr} {w:World} {v:Value} {sz:Option Nat} (dO:sz=none∧im P t=some false∨∃ n,sz=some n∧im P t=some true∧cb P t=some n)
 (h:IZ w.heap sz a=some v):(loadVar t a).run P w= .ok v w:=by
 rcases dO with ⟨rfl,ha⟩ | ⟨n,rfl,ha,hn⟩
 ·simp only[IZ] at h
  have:w.cell? a=some v:=h
  simp[loadVar,ly ha,this]
 ·simp only[IZ] at h
  split at h
  ·rename_i vs hvs
   simp at h; subst h
   simp[loadVar,ly ha,fk hn,yO hvs]
  ·simp at h
theorem Ft:∀ (vs:List Value) (i:Nat) (a:Addr) (w:World) (R:Heap→Prop),Nz w.heap a vs i R→∃ w',(storeCells a vs i).run P w= .ok () w'∧R w'.heap∧Same w w'
 | [],i,a,w,R,h=>⟨w,by simp[storeCells],h,Same.refl w⟩
 | v :: vs,i,a,w,R,h=>by
   obtain ⟨h1,⟨u,h2⟩,h3,h4⟩:=h
   obtain ⟨w',e,hR,hs⟩:=Ft vs (i + 1) a (w.setCell (a.add i) v) R h4
   refine ⟨w',?_,hR,⟨hs.os,hs.tape,hs.output⟩⟩
   have e2:w.cell? (a.add i)=some u:=h2
   have e3:w.frozen? (a.add i)=false:=h3
   simp only[storeCells,afc,run_store P w _ v _ h1,e2,e3,ae6,if_false,ae7,e]
theorem yP:∀ (n i:Nat) (a:Addr) (w:World) (l:List UInt8),iL w.heap a i n=some l→∃ ns:List Int,dm w.heap a i n=some (ns.map (Value.int .u8))∧ns.map (fun m=>UInt8.ofNat m.toNat)=l
 | 0,i,a,w,l,h=>by simp[iL] at h; subst h; exact ⟨[],rfl,rfl⟩
 | n + 1,i,a,w,l,h=>by
   simp only[iL] at h
   split at h
   ·rename_i m r h1 h2
    simp at h; subst h
    obtain ⟨ns,e1,e2⟩:=yP n (i + 1) a w r h2
    exact ⟨m :: ns,by simp[dm,h1,e1],by simp[e2]⟩
   ·simp at h
theorem Fu {w:World} {x v:Value} (h:pJ w.heap (some x)=some v):(Conv.bytesToString x).run P w= .ok v w:=by
 unfold pJ at h
 split at h
 ·rename_i e; simp at e h; subst e; subst h; simp[Conv.bytesToString]; rfl
 ·rename_i a n c e
  simp at e; subst e
  split at h
  ·rename_i l hl
   simp at h; subst h
   obtain ⟨ns,e1,e2⟩:=yP n 0 a w l hl
   rw[run_bytesToString w a n c ns (yO e1),foldl_push_bytes]
   simp[ByteArray.empty,ByteArray.emptyWithCapacity,e2]
   rfl
  ·simp at h
 ·simp at h
theorem jB {f:Nat} (hb:dV P f=true) (args:Array Value) (w:World):(callFunc f args).run P w= .ok (.enter f args) w:=by
 unfold dV at hb
 split at hb
 ·rename_i fn hf
  simp only[ae5,afo] at hb
  have n1:¬ fn.name= "runtime.NumGoroutine":=by simpa using hb.2
  have n2:¬ fn.body=none:=by intro e; simp[e] at hb
  simp[callFunc,hf,n1,n2]
 ·simp at hb
theorem pW {size:Nat}:∀ {parts:List (Nat × Operand)},(lB size parts).length=parts.length∧∀ (j i:Nat) (x:Operand),parts[j]?=some (i,x)→(lB size parts)[j]?=some (i * size,size,x)
 | []=>⟨rfl,fun j i x hj=>by simp at hj⟩
 | (i,x) :: r=>by
   obtain ⟨hl,ih⟩:=pW (size:=size) (parts:=r)
   refine ⟨by simp[lB,hl],fun j i' x' hj=>?_⟩
   cases j with
   | zero=>simp at hj; obtain ⟨rfl,rfl⟩:=hj; rfl
   | succ j=>simpa [lB] using ih j i' x' (by simpa using hj)
theorem vV (z:List Value) (hz:0 < z.length):∀ n,mn z n=(List.range (n * z.length)).map (fun i=>z[i % z.length]!)
 | 0=>by simp[mn]
 | n + 1=>by
   rw[mn,vV z hz n,Nat.add_mul,Nat.one_mul,Nat.add_comm (n * z.length),List.range_add,List.map_append]
   congr 1
   ·apply List.ext_getElem
    ·simp
    ·intro i h1 h2
     simp only[List.getElem_map,List.getElem_range]
     rw[Nat.mod_eq_of_lt h1]
     simp[h1]
   ·simp[Function.comp_def]
theorem Fv {f:Nat} {args:Array Value} {H:Heap} {R:Value→Heap→Prop} {E:cd→Heap→Prop} (h:bU P f args H R E) {s:Sem Next} (hs:∀ w:World,w.heap=H→s.run P w= .ok (.enter f args) w) :
 ∀ w:World,w.heap=H→match s.run P w with
 | .ok (.value v) w'=>R v w'.heap∧Same w w'
 | .ok .skip w'=>R undef w'.heap∧Same w w'
 | .ok (.enter f args) w'=>Calls P f args w' (pI R E w)
 | .halt (.panic v) w'=>E [{ v,recovered:=false }] w'.heap∧Same w w'
 | _=>False:=by
 intro w hw
 rw[hs w hw]
 exact h w hw
theorem qf {o:Oper} {ev:Operand→Value} {H:Heap} {R:Value→Heap→Prop} {E:cd→Heap→Prop} (v:Value) (hR:R v H) (h:∀ w:World,w.heap=H→(execOp ev o).run P w= .ok (.value v) w):qV P E o ev H R:=
 pR.ok (v:=v) h hR
theorem vW {o:Oper} {ev:Operand→Value} {H:Heap} {R:Value→Heap→Prop} {E:cd→Heap→Prop} (v:Value) (ob:Obj) (hR:R v (H.push ob)) (h:∀ w:World,w.heap=H→∃ w',(execOp ev o).run P w= .ok (.value v) w'∧w'.heap=H.push ob∧Same w w'):qV P E o ev H R:=by
 intro w hw
 obtain ⟨w',e,e2,e3⟩:=h w hw
 rw[e]
 exact ⟨e2 ▸ hR,e3⟩
theorem qg {o:Oper} {ev:Operand→Option Value} {a:Act} {s:da Operand} {H:Heap} {R:Value→Heap→Prop} {E:cd→Heap→Prop} (hs:iq P o=some s) (hf:jV ev a)
 (hv:s.vc P E ev H R):qV P E o a.eval H R:=by
 unfold iq at hs
 split at hs
 ·rename_i e he
  simp at hs; subst hs
  simp only[da.vc,vN] at hv
  split at hv
  ·rename_i p v pK
   exact qf v hv.2 fun w _=>vU he hf pK hv.1 w
  ·exact hv.elim
 ·split at hs
  case h_1 t x ho=>-- load
   have key:∀ sz,(sz=none∧im P t=some false∨∃ n,sz=some n∧im P t=some true∧cb P t=some n)→(da.ld sz x).vc P E ev H R→qV P E o a.eval H R:=by
    intro sz dO hv
    simp only[da.vc,NB] at hv
    split at hv
    ·rename_i v MS
     unfold I0 at MS
     split at MS
     ·rename_i ad hx
      refine qf v hv fun w hw=>?_
      simp[execOp,ho,hf.ev hx,Instr.loadAt,Instr.sureAddr,DA dO (hw ▸ MS)]
     ·simp at MS
    ·exact hv.elim
   split at hs
   ·rename_i zS; simp at hs; subst hs; exact key none (.inl ⟨rfl,zS⟩) hv
   ·rename_i zS
    simp only[afe] at hs
    obtain ⟨k,hk,rfl⟩:=hs
    exact key (some k) (.inr ⟨k,rfl,zS,hk⟩) hv
   ·simp at hs
  case h_2 t ad x ho=>-- store
   simp only[afe] at hs
   obtain ⟨k,hk,rfl⟩:=hs
   simp only[da.vc,stN] at hv
   split at hv
   ·rename_i p v h1 h2
    intro w hw
    obtain ⟨w',e,hR,P3⟩:=Ft (P:=P) v.cells.toList 0 p w (R undef) (hw ▸ hv.2)
    have e':(storeCells p v.cells.toList).run P w= .ok () w':=e
    have:(execOp a.eval o).run P w= .ok .skip w':=by
     simp[execOp,ho,hf.ev h1,hf.ev h2,Instr.storeAt,Instr.sureAddr,storeVar,fk hk,hv.1,e']
    rw[this]
    exact ⟨hR,P3⟩
   ·exact hv.elim
  case h_3 t ho=>-- alloc
   simp only[afe] at hs
   obtain ⟨z,hz,rfl⟩:=hs
   refine vW _ _ hv fun w hw=>⟨w.alloc (.cells z.cells t),?_,?_,⟨rfl,rfl,rfl⟩⟩
   ·subst hw; simp[execOp,ho,Instr.alloc,qZ hz,newVar,newRow]
   ·subst hw; rfl
  case h_4 t x ho=>-- box
   simp at hs; subst hs
   simp only[da.vc,bxN] at hv
   split at hv
   ·rename_i v h1
    refine vW _ _ hv fun w hw=>⟨w.alloc (.cells v.cells t),?_,?_,⟨rfl,rfl,rfl⟩⟩
    ·subst hw; simp[execOp,ho,hf.ev h1,Instr.box,newVar,newRow]
    ·subst hw; rfl
   ·exact hv.elim
  case h_5 t k parts ho=>-- buildSlice
   split at hs
   ·rename_i el hu
    split at hs
    ·rename_i sz z dO hz
     split at hs
     ·rename_i hc
      simp at hs; subst hs
      simp only[da.vc,WR] at hv
      split at hv
      ·rename_i qs hq
       split at hv
       ·rename_i cs Iu
        obtain ⟨yN,h1⟩:=pW (size:=sz) (parts:=parts.toList)
        obtain ⟨yf,h2⟩:=ml hq
        have hzl:z.cells.toList.length=sz:=by simpa using hc.1
        have pU:=vo (fun i=>some (i * sz,sz)) (parts.toList.map fun (i,x)=>(i,a.eval x)) qs _ cs (by simp[yN,yf])
         (fun j i v hj=>by
          simp only[List.getElem?_map,afe,aff.injEq] at hj
          obtain ⟨⟨i',x⟩,hp,rfl,rfl⟩:=hj
          obtain ⟨v,VL,u0⟩:=h2 j _ _ _ (h1 j i' x hp)
          exact ⟨_,_,rfl,by rw[u0]; simp[hf.ev VL]⟩) Iu
        have fm:(mn z.cells.toList k).toArray=(afH (k * sz)).map (fun i=>z.cells[i % z.cells.size]!):=by
         rw[vV _ (by omega)]
         apply afh.1
         rw[hzl]
         simp[hc.1]
         intro a _
         rw[getElem!_def]
         cases z.cells[a % sz]? <;> rfl
        refine vW _ _ hv fun w hw=>⟨w.alloc (.cells cs.toArray el),?_,by subst hw; rfl,⟨rfl,rfl,rfl⟩⟩
        subst hw
        have hn:¬ k * sz > 2 ^ 24:=by omega
        by_cases h0:k * sz=0
        ·have Dl:k=0:=by
          rcases Nat.mul_eq_zero.1 h0 with h | h
          ·exact h
          ·omega
         subst Dl
         simp only[mn] at pU
         have e0:(Array.map (fun x=>(#[]:Array Value)[x % (#[]:Array Value).size]!) (afH 0))=#[]:=by apply afh.1; simp
         simp only[execOp,ho,Instr.buildSlice,run_underlying hu,fk dO,Nat.zero_mul,show ¬ (0 > 2 ^ 24) from by omega,newRow,afc,ae7,if_true,if_false,afk,afs,e0]
         rw[pU]
         rfl
        ·rw[fm] at pU
         simp only[execOp,ho,Instr.buildSlice,run_underlying hu,fk dO,hn,h0,qZ hz,newRow,afc,ae7,if_false,afk,afs]
         rw[pU]
         rfl
       ·exact hv.elim
      ·exact hv.elim
     ·simp at hs
    ·simp at hs
   ·simp at hs
  case h_6 src dst x ho=>-- convert
   split at hs
   ·rename_i el h1 h2
    split at hs
    ·rename_i h3
     simp at hs; subst hs
     simp only[da.vc,NB] at hv
     split at hv
     ·rename_i v hb
      refine qf v hv fun w hw=>?_
      cases hx:ev x with
      | none=>rw[hx] at hb; simp[pJ] at hb
      | some u=>
        rw[hx] at hb
        have hr:=Fu (P:=P) (hw ▸ hb)
        cases u with
        | slice ad l c=>simp[execOp,ho,hf.ev hx,run_convert_bytes_string w src dst el ad l c h1 h3 h2,hr]
        | _=>simp[pJ] at hb
     ·exact hv.elim
    ·simp at hs
   ·rename_i el h1 h2
    split at hs
    ·rename_i h3
     simp at hs; subst hs
     simp only[da.vc,WU] at hv
     split at hv
     ·rename_i str hx
      intro w hw
      have hr:=run_bytes_of_string (P:=P) w src dst el str h1 h2 h3
      have:(execOp a.eval o).run P w= .ok (.value (.slice (some ⟨w.heap.size,0,none⟩) str.size (grownCap w str.size 0 el))) (w.drew.alloc (.cells (bytesRow str (grownCap w str.size 0 el)) el ((bytesRow str (grownCap w str.size 0 el)).size,(bytesRow str (grownCap w str.size 0 el)).size + 1))):=by
       simp[execOp,ho,hf.ev hx,hr]
      rw[this]
      have:=hv (grownCap w str.size 0 el) (grownCap_ge _ _ _ _)
      subst hw
      exact ⟨this,⟨rfl,rfl,rfl⟩⟩
     ·exact hv.elim
    ·simp at hs
   ·rename_i el' el h1 h2
    split at hs
    ·rename_i h3
     split at hs
     ·rename_i hc
      simp at hs; subst hs
      simp only[da.vc,WT] at hv
      split at hv
      ·rename_i ad n c hx
       obtain ⟨cc,ee,ff,hb,hR⟩:=hv
       intro w hw
       have VN:w.shape? ad.block=some (ee,cc.size):=by
        unfold World.shape?; rw[hw,hb]
       have:(execOp a.eval o).run P w= .ok (.value (.slice (some ad) n c)) (w.freeze ⟨ad.block,cc.size,none⟩ 1):=by
        subst hc
        rw[h1] at h2; cases h2
        simp[execOp,ho,hf.ev hx,convert,run_underlying h1,run_underlying h3,markStringish,VN]
       rw[this]
       have e:(w.freeze ⟨ad.block,cc.size,none⟩ 1).heap=WS H ad.block cc.size:=by
        subst hw; rfl
       refine ⟨by rw[e]; exact hR,⟨rfl,rfl,rfl⟩⟩
      ·exact hv.elim
     ·simp at hs
    ·simp at hs
   ·simp at hs
  case h_7 t l c ho=>-- makeSlice
   split at hs
   ·rename_i el hu
    split at hs
    ·rename_i sz z b dO hz hb
     split at hs
     ·simp at hs; subst hs
      simp only[da.vc,mkN] at hv
      split at hv
      ·rename_i lv cv h1 h2
       obtain ⟨g1,g2,g3,g4,g5⟩:=hv
       simp only[zeroOf,afn] at hz
       obtain ⟨i,hi,hz⟩:=hz
       simp only[cb,hi,afp,ae9.injEq] at dO hb
       refine vW _ _ g5 fun w hw=>⟨w.alloc (.cells (madeCells z.cells (cv.toNat * sz)) el),?_,by subst hw; rfl,⟨rfl,rfl,rfl⟩⟩
       subst hw
       simp[execOp,ho,hf.ev h1,hf.ev h2,run_make w t el i z hu hi hz .i64 .i64 lv cv g1 g2 (by rw[hb]; exact g4) g3,dO]
      ·exact hv.elim
     ·simp at hs
    ·simp at hs
   ·simp at hs
  case h_8 args argTypes ho=>-- append
   split at hs
   ·rename_i t t' x y ht hx
    simp at hs; subst hs
    simp only[da.vc,apN] at hv
    split at hv
    ·rename_i s' x' h1 h2
     intro w hw
     obtain ⟨v,w',e,hR,P3⟩:=hv w hw
     have e1:argTypes=#[t,t']:=afh.1 ht
     have e2:args=#[x,y]:=afh.1 hx
     have e3:(Builtin.append_ #[t,t'] o.type #[s',x']).run P w= .ok v w':=e
     have:(execOp a.eval o).run P w= .ok (.value v) w':=by
      simp[execOp,ho,e1,e2,resolve,invoke,builtin,hf.ev h1,hf.ev h2,e3]
     rw[this]
     exact ⟨hR,P3⟩
    ·exact hv.elim
   ·simp at hs
  case h_9 f args argTypes ho=>-- call
   split at hs
   ·rename_i hb
    simp at hs; subst hs
    simp only[da.vc,Fs] at hv
    split at hv
    ·rename_i vs he
     exact Fv hv fun w _=>by
      simp[execOp,ho,resolve,Act.eval,Deferred.ofValue,invoke,qY hf he,jB hb]
    ·exact hv.elim
   ·simp at hs
  case h_10 f args argTypes _ ho=>-- a function value
   simp at hs; subst hs
   simp only[da.vc,cvN] at hv
   split at hv
   ·rename_i g first uX vs h1 h2
    obtain ⟨hb,hv⟩:=hv
    exact Fv hv fun w _=>by
     simp[execOp,ho,resolve,hf.ev h1,Deferred.ofValue,invoke,qY hf h2,jB hb]
   ·exact hv.elim
  case h_11 x ho=>-- panic
   simp at hs; subst hs
   simp only[da.vc,NC] at hv
   split at hv
   ·rename_i t v h1
    intro w hw
    have:(execOp a.eval o).run P w= .halt (.panic (.iface t v)) w:=by
     simp[execOp,ho,hf.ev h1,Instr.panic,goPanic]
    rw[this]
    exact ⟨hw ▸ hv,Same.refl _⟩
   ·exact hv.elim
  case h_12 t ho=>-- makeMap
   simp at hs; subst hs
   refine vW _ _ hv fun w hw=>⟨w.alloc (.map #[] 0),?_,by subst hw; rfl,⟨rfl,rfl,rfl⟩⟩
   subst hw
   simp[execOp,ho,Instr.makeMap]
  case h_13 t m k x ho=>-- insert
   split at hs
   ·rename_i kt el hu
    split at hs
    ·rename_i hk
     simp at hs; subst hs
     simp only[da.vc,NF] at hv
     split at hv
     ·rename_i r s v h1 h2 h3
      obtain ⟨es,c,hb,gm,hR⟩:=hv
      intro w hw
      subst hw
      have:(execOp a.eval o).run P w= .ok .skip { w with heap:=w.heap.setIfInBounds r (.map (es.push ⟨.string s,v,c⟩) (c + 1)) }:=by
       simp[execOp,ho,hf.ev h1,hf.ev h2,hf.ev h3,Instr.mapUpdate,run_underlying hu,MapKept.run_getObj_map hb,MapKept.run_checkKey hk (show MapKept.IsKey .string (.string s) from trivial),MapKept.run_findKey hk gm,MapKept.run_setObj_map _ hb]
      rw[this]
      exact ⟨hR,⟨rfl,rfl,rfl⟩⟩
     ·exact hv.elim
    ·rename_i kd hk
     simp at hs; subst hs
     simp only[da.vc,I1] at hv
     split at hv
     ·rename_i r P4 s v h1 h2 h3
      obtain ⟨rfl,es,c,hb,gm,hR⟩:=hv
      intro w hw
      subst hw
      have:(execOp a.eval o).run P w= .ok .skip { w with heap:=w.heap.setIfInBounds r (.map (es.push ⟨.int P4 s,v,c⟩) (c + 1)) }:=by
       simp[execOp,ho,hf.ev h1,hf.ev h2,hf.ev h3,Instr.mapUpdate,run_underlying hu,MapKept.run_getObj_map hb,MapKept.run_checkKey hk (show MapKept.IsKey (.int P4) (.int P4 s) from rfl),MapKept.run_findKey hk gm,MapKept.run_setObj_map _ hb]
      rw[this]
      exact ⟨hR,⟨rfl,rfl,rfl⟩⟩
     ·exact hv.elim
    ·simp at hs
   ·simp at hs
  case h_14 t m k ho=>-- lookup
   split at hs
   ·rename_i kt el hu
    split at hs
    ·rename_i z hk hz
     simp at hs; subst hs
     simp only[da.vc,NG] at hv
     split at hv
     ·rename_i r s h1 h2
      obtain ⟨es,c,hb,hv⟩:=hv
      rcases hv with ⟨i,v,gm,hR⟩ | ⟨gm,hR⟩
      ·refine qf v hR fun w hw=>?_
       subst hw
       simp[execOp,ho,hf.ev h1,hf.ev h2,Instr.lookup,run_underlying hu,MapKept.run_getObj_map hb,MapKept.run_checkKey hk (show MapKept.IsKey .string (.string s) from trivial),MapKept.run_findKey hk gm]
      ·refine qf z hR fun w hw=>?_
       subst hw
       simp[execOp,ho,hf.ev h1,hf.ev h2,Instr.lookup,run_underlying hu,MapKept.run_getObj_map hb,MapKept.run_checkKey hk (show MapKept.IsKey .string (.string s) from trivial),MapKept.run_findKey hk gm,qZ hz]
     ·exact hv.elim
    ·rename_i kd z hk hz
     simp at hs; subst hs
     simp only[da.vc,I2] at hv
     split at hv
     ·rename_i r P4 s h1 h2
      obtain ⟨rfl,es,c,hb,hv⟩:=hv
      rcases hv with ⟨i,v,gm,hR⟩ | ⟨gm,hR⟩
      ·refine qf v hR fun w hw=>?_
       subst hw
       simp[execOp,ho,hf.ev h1,hf.ev h2,Instr.lookup,run_underlying hu,MapKept.run_getObj_map hb,MapKept.run_checkKey hk (show MapKept.IsKey (.int P4) (.int P4 s) from rfl),MapKept.run_findKey hk gm]
      ·refine qf z hR fun w hw=>?_
       subst hw
       simp[execOp,ho,hf.ev h1,hf.ev h2,Instr.lookup,run_underlying hu,MapKept.run_getObj_map hb,MapKept.run_checkKey hk (show MapKept.IsKey (.int P4) (.int P4 s) from rfl),MapKept.run_findKey hk gm,qZ hz]
     ·exact hv.elim
    ·simp at hs
   ·simp at hs
  case h_15=>simp at hs
end
inductive cE where
 | t (k:Nat)
 | s (k:Nat)
 | c (v:Value)
 | g (n:Nat)
 | f (n:Nat)
 | u
abbrev bf:=List (Option Value)
def jn:Option (Option Value)→Option Value
 | some x=>x
 | none=>none
def fO (σ:bf) (τ:List Value):cE→Option Value
 | .t k=>τ.toArray[k]?
 | .s k=>jn (σ.toArray[k]?)
 | .c v=>some v
 | .g n=>some (.pointer (some ⟨n,0,none⟩))
 | .f n=>some (.func (.func n) #[] #[])
 | .u=>none
def posOf:List Nat→Nat→Option Nat
 | [],_=>none
 | x :: r,t=>if x=t then some 0 else match posOf r t with
   | some k=>some (k + 1)
   | none=>none
def cO (keep lay:List Nat):Operand→cE
 | .tmp t=>match posOf keep t with
   | some k=>.s k
   | none=>match posOf lay t with
     | some k=>.t k
     | none=>.u
 | .const v=>.c v
 | .global g=>.g g
 | .func f=>.f f
section
variable {O O':Type}
def PE.map (m:O→O'):PE O→PE O'
 | .mv x=>.mv (m x)
 | .pick c a b=>.pick (m c) (m a) (m b)
 | .bin op x y=>.bin op (m x) (m y)
 | .beq n x y=>.beq n (m x) (m y)
 | .GP n ks x y=>.GP n ks (m x) (m y)
 | .yL n x=>.yL n (m x)
 | .tp n x=>.tp n (m x)
 | .un op x=>.un op (m x)
 | .RA k x=>.RA k (m x)
 | .Fp x=>.Fp (m x)
 | .fa off x=>.fa off (m x)
 | .ix s x i=>.ix s (m x) (m i)
 | .vm x i=>.vm (m x) (m i)
 | .sl s x lo hi=>.sl s (m x) (lo.map m) (hi.map m)
 | .MR x lo hi=>.MR (m x) (lo.map m) (hi.map m)
 | .len x=>.len (m x)
 | .gP x=>.gP (m x)
 | .jW off x=>.jW off (m x)
 | .IM off s x=>.IM off s (m x)
 | .ext x i=>.ext (m x) i
 | .mm b x y=>.mm b (m x) (m y)
 | .nc x=>.nc (m x)
 | .Fq f first uX=>.Fq f (first.map m) (uX.map m)
 | .WJ t x=>.WJ t (m x)
 | .nD n x=>.nD n (m x)
 | .tya t z x=>.tya t z (m x)
 | .WK t x=>.WK t (m x)
 | .jA z ps=>.jA z (ps.map fun p=>(p.1,p.2.1,m p.2.2))
 | .ixa s n x i=>.ixa s n (m x) (m i)
 | .WL s n x i=>.WL s n (m x) (m i)
def da.map (m:O→O'):da O→da O'
 | .v e=>.v (e.map m)
 | .ld sz x=>.ld sz (m x)
 | .st n a x=>.st n (m a) (m x)
 | .al t z=>.al t z
 | .bx t x=>.bx t (m x)
 | .bs t n z ps=>.bs t n z (ps.map fun p=>(p.1,p.2.1,m p.2.2))
 | .ap t tx s x=>.ap t tx (m s) (m x)
 | .mk t s b z l c=>.mk t s b z (m l) (m c)
 | .call f args=>.call f (args.map m)
 | .cv f args=>.cv (m f) (args.map m)
 | .Bb x=>.Bb (m x)
 | .s2b t x=>.s2b t (m x)
 | .VM x=>.VM (m x)
 | .mks x=>.mks (m x)
 | .mm=>.mm
 | .ins a k x=>.ins (m a) (m k) (m x)
 | .RT z a k=>.RT z (m a) (m k)
 | .Bc kd a k x=>.Bc kd (m a) (m k) (m x)
 | .Ny kd z a k=>.Ny kd z (m a) (m k)
theorem zT (m:O→O') (ev:O'→Option Value):∀ xs:List O,ye ev (xs.map m)=ye (fun x=>ev (m x)) xs
 | []=>rfl
 | x :: xs=>by simp only[afi,ye,zT m ev xs]
theorem qh (m:O→O') (ev:O'→Option Value):∀ ps:List (Nat × Nat × O),fR ev (ps.map fun p=>(p.1,p.2.1,m p.2.2))=fR (fun x=>ev (m x)) ps
 | []=>rfl
 | (a,b,x) :: ps=>by simp only[afi,fR,qh m ev ps]
theorem NH (m:O→O') (ev:O'→Option Value):∀ x:Option O,aO ev (x.map m)=aO (fun x=>ev (m x)) x
 | none=>rfl
 | some _=>rfl
theorem Fw (m:O→O') (ev:O'→Option Value) (e:PE O):(e.map m).val ev=e.val (fun x=>ev (m x)):=by
 cases e <;> simp only[PE.map,PE.val,zT,qh,NH]
theorem zU {P:Program} {E:cd→Heap→Prop} {H:Heap} {R:Value→Heap→Prop} (m:O→O') (ev:O'→Option Value) (s:da O):(s.map m).vc P E ev H R=s.vc P E (fun x=>ev (m x)) H R:=by
 cases s <;> simp only[da.map,da.vc,Fw,zT,qh]
def da.reads:da O→Bool
 | .v _ | .ld _ _ | .Bb _=>true
 | _=>false
def da.rd (ev:O→Option Value) (H:Heap):da O→Option (Prop × Value)
 | .v e=>e.val ev
 | .ld sz x=>IP (I0 H sz (ev x))
 | .Bb x=>IP (pJ H (ev x))
 | _=>none
theorem DB {H:Heap} (m:O→O') (ev:O'→Option Value) (s:da O):(s.map m).rd ev H=s.rd (fun x=>ev (m x)) H:=by
 cases s <;> simp only[da.map,da.rd,Fw]
def da.total:da O→Bool
 | .v (.mv _) | .v (.un _ _) | .v (.RA _ _) | .v (.Fp _) | .v (.len _) | .v (.gP _) | .v (.beq _ _ _) | .v (.fa _ _) | .v (.nc _) | .v (.jW _ _) | .v (.IM _ _ _) | .ld _ _=>true
 | .v (.bin op _ _)=>match op with | .quo | .rem | .shl | .shr=>false | _=>true
 | _=>false
end
inductive nj where
 | no
 | t
 | s (k:Nat)
def cD (keep:List Nat):Option Nat→nj
 | none=>.no
 | some d=>match posOf keep d with
   | some k=>.s k
   | none=>.t
def qi (keep lay:List Nat):Option Nat→List Nat
 | none=>lay
 | some d=>match posOf keep d with
   | some _=>lay
   | none=>d :: lay
def eh (d:nj) (v:Value) (σ:bf):bf:=
 match d with
 | .s k=>σ.set k (some v)
 | _=>σ
def eN (d:nj) (v:Value) (τ:List Value):List Value:=
 match d with
 | .t=>v :: τ
 | _=>τ
def gw (x:cE) (v:Value) (σ:bf):bf:=
 match x with
 | .s k=>σ.set k (some v)
 | _=>σ
def gx (x:cE) (v:Value) (τ:List Value):List Value:=
 match x with
 | .t k=>τ.set k v
 | _=>τ
def gS (first:Bool) (x:cE) (v:Value) (σ:bf):bf:=bif first then gw x v σ else σ
def gT (first:Bool) (x:cE) (v:Value) (τ:List Value):List Value:=bif first then gx x v τ else τ
inductive In where
 | op (s:da cE)
 | NI (t:cE) (b:Bool) (inner:List In) (x y:cE)
def RZ:Option Value→Option Value→Option Value→Option Value
 | some (.bool c),some (.bool a),some (.bool b)=>some (.bool (bif c then a else b))
 | _,_,_=>none
def DC (σ:bf) (τ:List Value) (t:cE) (b:Bool) (x y:cE):Option (Prop × List Value)→Option (Prop × Value)
 | some (p,τ')=>match fO σ τ t,RZ (fO σ τ t) (fO σ (if b then τ' else τ) x) (fO σ (if b then τ else τ') y) with
   | some (.bool c),some v=>some ((c=b→p),v)
   | _,_=>none
 | none=>match fO σ τ t,fO σ τ (if b then y else x) with
   | some (.bool c),some (.bool v)=>some ((c= !b),.bool v)
   | _,_=>none
def qj (v:Option (Prop × Value)) (τ:List Value):Option (Prop × List Value):=
 match v with
 | some (p,v)=>some (p,v :: τ)
 | none=>none
def zV (f:List Value→Option (Prop × List Value)):Option (Prop × List Value)→Option (Prop × List Value)
 | some (p,τ')=>match f τ' with
   | some (q,τ'')=>some (p∧q,τ'')
   | none=>none
 | none=>none
mutual
def NJ (H:Heap) (σ:bf):In→List Value→Option (Prop × List Value)
 | .op s,τ=>qj (s.rd (fO σ τ) H) τ
 | .NI t b inner x y,τ=>qj (DC σ τ t b x y (fS H σ inner τ)) τ
def fS (H:Heap) (σ:bf):List In→List Value→Option (Prop × List Value)
 | [],τ=>some (True,τ)
 | i :: r,τ=>zV (fun τ'=>fS H σ r τ') (NJ H σ i τ)
end
inductive pL where
 | op (g:Option (cE × Bool × Bool)) (d:nj) (s:da cE)
 | eO (t:cE) (b:Bool) (inner:List In) (d:nj) (x y:cE)
def guardOf:Option Value→Option (Option Bool)
 | some (.bool c)=>some (some c)
 | some (.tuple vs)=>if vs.isEmpty then some none else none
 | _=>none
def ei (P:Program) (E:cd→Heap→Prop):List pL→bf→List Value→Heap→(bf→Heap→Prop)→Prop
 | [],σ,_,H,K=>K σ H
 | .op none d s :: r,σ,τ,H,K=>s.vc P E (fO σ τ) H (fun v H'=>ei P E r (eh d v σ) (eN d v τ) H' K)
 | .op (some (t,b,fr)) d s :: r,σ,τ,H,K=>
   match guardOf (fO σ τ t) with
   | some (some c)=>(c=b→s.vc P E (fO (gS fr t (.bool b) σ) (gT fr t (.bool b) τ)) H (fun v H'=>ei P E r (eh d v (gS fr t (.bool b) σ)) (eN d v (gT fr t (.bool b) τ)) H' K))∧
    (c=(!b)→ei P E r (eh d undef (gS fr t (.bool (!b)) σ)) (eN d undef (gT fr t (.bool (!b)) τ)) H K)
   | some none=>ei P E r (eh d undef σ) (eN d undef τ) H K
   | none=>False
 | .eO t b inner d x y :: r,σ,τ,H,K=>vN H (fun v H'=>ei P E r (eh d v σ) (eN d v τ) H' K) (DC σ τ t b x y (fS H σ inner τ))
structure gY (P:Program) (E:cd→Heap→Prop) where
 DE:Oper→(Operand→Value)→Heap→(Value→Heap→Prop)→Prop
 allow:da Operand→Bool
 mono:∀ {o ev H} {R R':Value→Heap→Prop},DE o ev H R→(∀ v H',R v H'→R' v H')→DE o ev H R'
 ok:∀ {o s} {ev:Operand→Option Value} {a:Act} {H:Heap} {R:Value→Heap→Prop},iq P o=some s→allow s=true→jV ev a→s.vc P E ev H R→DE o a.eval H R
 Bq:∀ {o ev H v} {R:Value→Heap→Prop},pR P o ev H v→R v H→DE o ev H R
def jC {P:Program} {E:cd→Heap→Prop} (S:gY P E) (ops:Array Oper) (Q:Act→Heap→Prop):List Oper→Act→Heap→Prop
 | [],a,H=>Q a H
 | o :: r,a,H=>if afj o (yielded ops a.tmps) then S.DE o a.eval H (fun v H'=>jC S ops Q r (a.put o.dst v) H') else jC S ops Q r (a.put o.dst undef) H
def gY.all (P:Program) (E:cd→Heap→Prop):gY P E where
 DE:=qV P E
 allow:=fun _=>true
 mono:=qV.mono
 ok:=fun h _ hf hv=>qg h hf hv
 Bq:=pR.ok
def fz (ops:List Oper):Option (Nat × Bool)→Option (Option (Nat × Bool))
 | none=>some none
 | some (j,b)=>match ops[j]? with
   | some o=>match o.dst with
     | some d=>some (some (d,b))
     | none=>none
   | none=>none
structure Nx where
 n:Nat
 fx:List Nat
structure DD where
 defers:List Deferred
 fix:Nat→Value
def gy (n:Nx):Option Nat→Bool
 | some d=>decide (d < n.n) && !n.fx.elem d
 | none=>true
def jY (n:Nx) (dd:DD) (a:Act):Prop:=a.defers=dd.defers∧∀ t,t ∈ n.fx→a.tmps[t]?=some (dd.fix t)
theorem vX {n:Nx} {d:Nat} (h:gy n (some d)=true):d < n.n:=by
 simp only[gy,ae5,decide_eq_true_eq] at h; exact h.1
theorem I3 {n:Nx} {d t:Nat} (h:gy n (some d)=true) (ht:t ∈ n.fx):d≠t:=by
 rintro rfl
 simp only[gy,ae5,afo] at h
 have:=h.2
 simp only[List.elem_eq_contains,List.contains_eq_mem,decide_eq_false_iff_not] at this
 exact this ht
theorem DF {n:Nx} {d:Option Nat} (h:gy n d=true) (v:Value) (a:Act) {t:Nat} (ht:t ∈ n.fx):(a.put d v).tmps[t]?=a.tmps[t]?:=by
 cases d with
 | none=>rfl
 | some d=>simp[Act.put,Array.getElem?_setIfInBounds_ne (I3 h ht)]
theorem put_defers (a:Act) (d:Option Nat) (v:Value):(a.put d v).defers=a.defers:=by cases d <;> rfl
theorem jY.put {n:Nx} {dd:DD} {a:Act} (h:jY n dd a) {d:Option Nat} (hd:gy n d=true) (v:Value):jY n dd (a.put d v):=
 ⟨(put_defers _ _ _).trans h.1,fun t ht=>(DF hd v a ht).trans (h.2 t ht)⟩
theorem jY.WV {n:Nx} {dd:DD} {a:Act} {d:Option Nat} {v:Value} (h:jY n dd (a.put d v)) (hd:gy n d=true):jY n dd a:=
 ⟨(put_defers _ _ _).symm.trans h.1,fun t ht=>(DF hd v a ht).symm.trans (h.2 t ht)⟩
theorem jZ {P:Program} {E:cd→Heap→Prop} {n:Nx} {dd:DD} {ops:Array Oper} {Q:Exit→Act→World→Prop} {Q':Act→Heap→Prop}:∀ (l:List Oper) (a:Act) (w w0:World),Same w0 w→
 jY n dd a→(∀ o ∈ l,gy n o.dst=true)→(∀ a w',Same w0 w'→Q' a w'.heap→Q .normal a w')→(∀ c a w',jY n dd a→Same w0 w'→E c w'.heap→Q (.panic c) a w')→jC (gY.all P E) ops Q' l a w.heap→wpList P ops Q l a w
 | [],a,w,w0,hs,hd,hl,h,hE,hr=>h a w hs hr
 | o :: r,a,w,w0,hs,hd,hl,h,hE,hr=>by
   unfold jC at hr
   unfold wpList
   split
   ·rename_i hw; rw[if_pos hw] at hr
    exact .inl (qV.wp hr (fun v w' hR iF=>jZ r _ w' w0 (hs.trans iF) (hd.put (hl o (by simp)) _) (fun q hq=>hl q (by simp[hq])) h hE hR) fun c w' hc iF=>hE c a w' hd (hs.trans iF) hc)
   ·rename_i hw; rw[if_neg hw] at hr
    exact jZ r _ w w0 hs (hd.put (hl o (by simp)) _) (fun q hq=>hl q (by simp[hq])) h hE hr
structure jq where
 g:Option (Nat × Bool)
 d:Option Nat
 s:da Operand
def nF (P:Program) (n:Nx) (ops:List Oper) (o:Oper):Option jq:=
 if gy n o.dst then
  match fz ops o.guard,iq P o with
  | some g,some s=>some ⟨g,o.dst,s⟩
  | _,_=>none
 else none
def known (keep lay:List Nat) (t:Nat):Bool:=(posOf keep t).isSome || (posOf lay t).isSome
structure NK where
 inner:List In
 d:Nat
 x:Operand
 y:Operand
 lay:List Nat
 rest:List jq
def zW (i:In):Option NK→Option NK
 | some g=>some { g with inner:=i :: g.inner }
 | none=>none
def DG (t:Nat) (og:Option (Nat × Bool)) (r:jq):Option (Nat × Operand × Operand):=
 match r.d,r.s with
 | some d,.v (.pick (.tmp t') x y)=>if t'=t∧r.g=og then some (d,x,y) else none
 | _,_=>none
def DH (keep lay:List Nat) (t:Nat) (b:Bool) (r:jq):Option Nat:=
 match r.d with
 | some d=>if r.g=some (t,b)∧known keep lay d=false∧r.s.total=true then some d else none
 | none=>none
def ra (keep:List Nat):Nat→Nat→Bool→Option (Nat × Bool)→List Nat→List Nat→List jq→Option NK
 | 0,_,_,_,_,_,_=>none
 | _ + 1,_,_,_,_,_,[]=>none
 | k + 1,t,b,og,ds,lay,r :: rs=>
   if known keep lay t then
    match DG t og r with
    | some (d,x,y)=>some ⟨[],d,x,y,lay,rs⟩
    | none=>
      match DH keep lay t b r with
      | some d=>zW (.op (r.s.map (cO keep lay))) (ra keep k t b og (d :: ds) (d :: lay) rs)
      | none=>
        match r.g with
        | some (t',b')=>
          if ds.elem t' then
           match ra keep k t' b' (some (t,b)) [] lay (r :: rs) with
           | some g=>if known keep lay g.d=false then
            zW (.NI (cO keep lay (.tmp t')) b' g.inner (cO keep (if b' then g.lay else lay) g.x) (cO keep (if b' then lay else g.lay) g.y)) (ra keep k t b og (g.d :: ds) (g.d :: lay) g.rest)
            else none
           | none=>none
          else none
        | none=>none
   else none
def comp (keep:List Nat):Nat→Option (Nat × Bool)→List Nat→List jq→List pL
 | 0,_,_,_=>[.op none .no (.v (.mv .u))]
 | _ + 1,_,_,[]=>[]
 | k + 1,pg,lay,r :: rs=>
   match r.g with
   | none=>.op none (cD keep r.d) (r.s.map (cO keep lay)) :: comp keep k none (qi keep lay r.d) rs
   | some (t,b)=>
     match (if pg=some (t,b) then none else ra keep (rs.length + 2) t b none [] lay (r :: rs)) with
     | some g=>.eO (cO keep lay (.tmp t)) b g.inner (cD keep (some g.d)) (cO keep (if b then g.lay else lay) g.x) (cO keep (if b then lay else g.lay) g.y) :: comp keep k none (qi keep lay (some g.d)) g.rest
     | none=>.op (some (cO keep lay (.tmp t),b,!(pg=some (t,b)))) (cD keep r.d) (r.s.map (cO keep lay)) :: comp keep k (some (t,b)) (qi keep lay r.d) rs
theorem lC:∀ {l:List Nat} {t k:Nat},posOf l t=some k→l[k]?=some t
 | [],t,k,h=>by simp[posOf] at h
 | x :: r,t,k,h=>by
   simp only[posOf] at h
   split at h
   ·rename_i e; simp at h; subst h; simp[e]
   ·split at h
    ·rename_i j hj; simp at h; subst h; simpa using lC hj
    ·cases h
theorem GV {l:List Nat} {t t' k:Nat} (h:posOf l t=some k) (h':posOf l t'=some k):t=t':=by
 have h1:=lC h
 have h2:=lC h'
 rw[h1] at h2
 exact ae9.inj h2
theorem yp {d t:Nat} {l:List Nat} {k:Nat} (dH:d≠t) (h:posOf (d :: l) t=some k):∃ j,k=j + 1∧posOf l t=some j:=by
 simp only[posOf,if_neg dH] at h
 split at h
 ·rename_i j hj; simp at h; exact ⟨j,h.symm,hj⟩
 ·cases h
structure F2 (n:Nx) (dd:DD) (keep lay:List Nat) (σ:bf) (τ:List Value) (a:Act):Prop where
 size:a.tmps.size=n.n
 ir:jY n dd a
 mZ:∀ t k v,posOf keep t=some k→σ[k]?=some (some v)→a.tmps[t]?=some v
 vY:∀ t k v,posOf keep t=none→posOf lay t=some k→τ[k]?=some v→a.tmps[t]?=some v
section
variable {P:Program} {E:cd→Heap→Prop} {n:Nx} {dd:DD} {ops:Array Oper} {keep lay:List Nat} {σ:bf} {τ:List Value} {a a' P5:Act}
theorem F2.tmp (h:F2 n dd keep lay σ τ a) {t:Nat} {v:Value} (hv:fO σ τ (cO keep lay (.tmp t))=some v):a.tmps[t]?=some v:=by
 simp only[cO] at hv
 split at hv
 ·rename_i k hk
  simp only[fO] at hv
  have:σ[k]?=some (some v):=by
   have e:σ.toArray[k]?=σ[k]?:=by simp
   rw[e] at hv
   cases hx:σ[k]? with
   | none=>rw[hx] at hv; simp[jn] at hv
   | some x=>rw[hx] at hv; simp only[jn] at hv; rw[hv]
  exact h.mZ t k v hk this
 ·rename_i hk
  split at hv
  ·rename_i k hl
   simp only[fO] at hv
   exact h.vY t k v hk hl (by simpa using hv)
  ·cases hv
theorem F2.agree (h:F2 n dd keep lay σ τ a):jV (fun x=>fO σ τ (cO keep lay x)) a:=by
 intro x v hv
 cases x with
 | tmp t=>simp[Act.eval,afm,h.tmp hv]
 | const u=>simpa [cO,fO,Act.eval] using hv
 | global g=>simpa [cO,fO,Act.eval] using hv
 | func f=>simpa [cO,fO,Act.eval] using hv
theorem j0 {d t:Nat} {v:Value} (h:d≠t):(a.put (some d) v).tmps[t]?=a.tmps[t]?:=by
 simp[Act.put,Array.getElem?_setIfInBounds_ne h]
theorem put_eq {d:Nat} {v:Value} (h:d < a.tmps.size):(a.put (some d) v).tmps[d]?=some v:=by
 simp[Act.put,h]
theorem F2.put (h:F2 n dd keep lay σ τ a) {d:Option Nat} (hd:gy n d=true) (v:Value):F2 n dd keep (qi keep lay d) (eh (cD keep d) v σ) (eN (cD keep d) v τ) (a.put d v):=by
 cases d with
 | none=>exact h
 | some d=>
   have Br:d < a.tmps.size:=by rw[h.size]; exact vX hd
   cases hk:posOf keep d with
   | some k=>
     have e1:cD keep (some d)= .s k:=by simp[cD,hk]
     have e2:qi keep lay (some d)=lay:=by simp[qi,hk]
     rw[e1,e2]
     refine ⟨by simp[Act.put,h.size],h.ir.put hd v,fun t j u ht hu=>?_,fun t j u ht hj hu=>?_⟩
     ·simp only[eh,List.getElem?_set] at hu
      by_cases e:d=t
      ·subst e
       rw[hk] at ht; cases ht
       simp only[if_true] at hu
       split at hu
       ·simp at hu; subst hu; exact put_eq Br
       ·cases hu
      ·rw[if_neg (show ¬ k=j from fun q=>e (GV (q ▸ hk:posOf keep d=some j) ht))] at hu
       rw[j0 e]; exact h.mZ t j u ht hu
     ·have e:d≠t:=by rintro rfl; rw[hk] at ht; cases ht
      rw[j0 e]; exact h.vY t j u ht hj hu
   | none=>
     have e1:cD keep (some d)= .t:=by simp[cD,hk]
     have e2:qi keep lay (some d)=d :: lay:=by simp[qi,hk]
     rw[e1,e2]
     refine ⟨by simp[Act.put,h.size],h.ir.put hd v,fun t j u ht hu=>?_,fun t j u ht hj hu=>?_⟩
     ·have e:d≠t:=by rintro rfl; rw[hk] at ht; cases ht
      rw[j0 e]; exact h.mZ t j u ht hu
     ·by_cases e:d=t
      ·subst e
       simp[posOf] at hj; subst hj
       simp[eN] at hu; subst hu
       exact put_eq Br
      ·obtain ⟨i,rfl,hi⟩:=yp e hj
       rw[j0 e]
       exact h.vY t i u ht hi (by simpa [eN] using hu)
theorem F2.R0 (h:F2 n dd keep lay σ τ a) {x:cE} {c:Value} (hx:fO σ τ x=some c) (fr:Bool):F2 n dd keep lay (gS fr x c σ) (gT fr x c τ) a:=by
 cases fr with
 | false=>exact h
 | true=>
   cases x with
   | s k=>
     have hk:σ[k]?=some (some c):=by
      simp only[fO] at hx
      have e:σ.toArray[k]?=σ[k]?:=by simp
      rw[e] at hx
      cases hy:σ[k]? with
      | none=>rw[hy] at hx; simp[jn] at hx
      | some y=>rw[hy] at hx; simp only[jn] at hx; rw[hx]
     refine ⟨h.size,h.ir,fun t j u ht hu=>?_,h.vY⟩
     simp only[gS,gw,cond_true,List.getElem?_set] at hu
     split at hu
     ·rename_i e; subst e
      split at hu
      ·simp at hu; subst hu; exact h.mZ t k c ht hk
      ·cases hu
     ·exact h.mZ t j u ht hu
   | t k=>
     have hk:τ[k]?=some c:=by simpa [fO] using hx
     refine ⟨h.size,h.ir,h.mZ,fun t j u ht hj hu=>?_⟩
     simp only[gT,gx,cond_true,List.getElem?_set] at hu
     split at hu
     ·rename_i e; subst e
      split at hu
      ·simp at hu; subst hu; exact h.vY t k c ht hj hk
      ·cases hu
     ·exact h.vY t j u ht hj hu
   | c v=>exact h
   | g m=>exact h
   | f m=>exact h
   | u=>exact h
structure Old (n:Nx) (keep lay:List Nat) (a a':Act):Prop where
 size:a'.tmps.size=a.tmps.size
 defers:a'.defers=a.defers
 ir:∀ t,t ∈ n.fx→a'.tmps[t]?=a.tmps[t]?
 same:∀ t,known keep lay t=true→a'.tmps[t]?=a.tmps[t]?
theorem Old.refl:Old n keep lay a a:=⟨rfl,rfl,fun _ _=>rfl,fun _ _=>rfl⟩
theorem ql {d t:Nat} (h:known keep lay t=true):known keep (d :: lay) t=true:=by
 simp only[known,afl] at *
 rcases h with h | h
 ·exact .inl h
 ·right
  simp only[posOf]
  split
  ·rfl
  ·rw[afy] at h
   obtain ⟨k,hk⟩:=h
   rw[hk]; rfl
theorem Old.trans {d:Nat} (h:Old n keep lay a a') (h':Old n keep (d :: lay) a' P5):Old n keep lay a P5:=
 ⟨h'.size.trans h.size,h'.defers.trans h.defers,fun t ht=>(h'.ir t ht).trans (h.ir t ht),fun t ht=>(h'.same t (ql ht)).trans (h.same t ht)⟩
theorem Old.trans' (h:Old n keep lay a a') (h':Old n keep lay a' P5):Old n keep lay a P5:=
 ⟨h'.size.trans h.size,h'.defers.trans h.defers,fun t ht=>(h'.ir t ht).trans (h.ir t ht),fun t ht=>(h'.same t ht).trans (h.same t ht)⟩
theorem Old.put {d:Nat} {v:Value} (Br:gy n (some d)=true) (hd:known keep lay d=false):Old n keep lay a (a.put (some d) v):=
 ⟨by simp[Act.put],by simp[Act.put],fun t ht=>DF Br v a ht,fun t ht=>j0 (by rintro rfl; rw[hd] at ht; cases ht)⟩
theorem F2.old (h:F2 n dd keep lay σ τ a) (ho:Old n keep lay a a'):F2 n dd keep lay σ τ a':=
 ⟨ho.size.trans h.size,⟨ho.defers.trans h.ir.1,fun t ht=>(ho.ir t ht).trans (h.ir.2 t ht)⟩,
  fun t k v ht hv=>(ho.same t (by simp[known,ht])).trans (h.mZ t k v ht hv),
  fun t k v ht hk hv=>(ho.same t (by simp[known,hk])).trans (h.vY t k v ht hk hv)⟩
theorem F2.push (h:F2 n dd keep lay σ τ a) {d:Nat} (hd:gy n (some d)=true) (hk:known keep lay d=false) (v:Value):F2 n dd keep (d :: lay) σ (v :: τ) (a.put (some d) v):=by
 have hn:posOf keep d=none:=by
  simp only[known,Bool.or_eq_false_iff] at hk
  simpa using hk.1
 have:=h.put (d:=some d) hd v
 have e1:cD keep (some d)= .t:=by simp[cD,hn]
 have e2:qi keep lay (some d)=d :: lay:=by simp[qi,hn]
 rw[e1,e2] at this
 exact this
theorem iu {g:Option (Nat × Bool)} (h:fz ops.toList g=some none):g=none:=by
 cases g with
 | none=>rfl
 | some p=>
   obtain ⟨j,b⟩:=p
   simp only[fz] at h
   split at h
   ·split at h <;> simp at h
   ·simp at h
theorem nG {g:Option (Nat × Bool)} {t:Nat} {b:Bool} (h:fz ops.toList g=some (some (t,b))):∃ j o,g=some (j,b)∧ops[j]?=some o∧o.dst=some t:=by
 cases g with
 | none=>simp[fz] at h
 | some p=>
   obtain ⟨j,b'⟩:=p
   simp only[fz] at h
   split at h
   ·rename_i o ho
    split at h
    ·rename_i d hd
     simp at h; obtain ⟨rfl,rfl⟩:=h
     exact ⟨j,o,rfl,by simpa using ho,hd⟩
    ·simp at h
   ·simp at h
theorem kJ {o:Oper} {f:Nat→Option Bool} (h:o.guard=none):afj o f=true:=by simp[afj,h]
theorem gZ {o:Oper} {t:Nat} {b c:Bool} (hg:fz ops.toList o.guard=some (some (t,b))) (ht:a.tmps[t]?=some (.bool c)):afj o (yielded ops a.tmps)=(c == b):=by
 obtain ⟨j,o',e1,e2,e3⟩:=nG hg
 simp only[afj,e1,yielded,e2,Option.bind_some,e3,ht]
 cases c <;> cases b <;> rfl
theorem lD {o:Oper} {t:Nat} {b:Bool} (hg:fz ops.toList o.guard=some (some (t,b))) (ht:a.tmps[t]?=some (.tuple #[])):afj o (yielded ops a.tmps)=false:=by
 obtain ⟨j,o',e1,e2,e3⟩:=nG hg
 simp[afj,e1,yielded,e2,e3,ht]
theorem ja {o:Oper} {g:jq} (h:nF P n ops.toList o=some g):gy n o.dst=true∧fz ops.toList o.guard=some g.g∧iq P o=some g.s∧g.d=o.dst:=by
 unfold nF at h
 split at h
 ·rename_i hd
  split at h
  ·rename_i gd s h1 h2
   simp at h; subst h
   exact ⟨hd,h1,h2,rfl⟩
  ·simp at h
 ·simp at h
theorem mo {x:Option Value} {c:Bool} (h:guardOf x=some (some c)):x=some (.bool c):=by
 unfold guardOf at h
 split at h
 ·simp at h; subst h; rfl
 ·split at h <;> simp at h
 ·simp at h
theorem kW {x:Option Value} (h:guardOf x=some none):x=some (.tuple #[]):=by
 unfold guardOf at h
 split at h
 ·simp at h
 ·rename_i vs
  split at h
  ·rename_i e; rw[Array.isEmpty_iff.1 e]
  ·simp at h
 ·simp at h
def Aligned (P:Program) (n:Nx) (ops:Array Oper) (l:List Oper) (gs:List jq):Prop:=
 l.length=gs.length∧∀ (j:Nat) (o:Oper),l[j]?=some o→∃ g,gs[j]?=some g∧nF P n ops.toList o=some g
theorem Aligned.tail {o:Oper} {l:List Oper} {g:jq} {gs:List jq} (h:Aligned P n ops (o :: l) (g :: gs)):Aligned P n ops l gs:=
 ⟨by simpa using h.1,fun j o' hj=>by simpa using h.2 (j + 1) o' (by simpa using hj)⟩
theorem Aligned.head {o:Oper} {l:List Oper} {g:jq} {gs:List jq} (h:Aligned P n ops (o :: l) (g :: gs)):nF P n ops.toList o=some g:=by
 obtain ⟨g',e,hs⟩:=h.2 0 o rfl
 simp at e; subst e; exact hs
theorem Aligned.cons {l:List Oper} {g:jq} {gs:List jq} (h:Aligned P n ops l (g :: gs)):∃ o l',l=o :: l':=by
 cases l with
 | nil=>simp[Aligned] at h
 | cons o l'=>exact ⟨o,l',rfl⟩
theorem Fx {o:Oper} {s:da Operand} {ev:Operand→Option Value} {a:Act} {H:Heap} {p:Prop} {v:Value} (hs:iq P o=some s) (hf:jV ev a) (hr:s.rd ev H=some (p,v)) (hp:p):pR P o a.eval H v:=by
 unfold iq at hs
 split at hs
 ·rename_i e he
  simp at hs; subst hs
  exact fun w _=>vU he hf hr hp w
 ·split at hs
  case h_1 t x ho=>-- load
   have key:∀ sz,(sz=none∧im P t=some false∨∃ n,sz=some n∧im P t=some true∧cb P t=some n)→(da.ld sz x).rd ev H=some (p,v)→pR P o a.eval H v:=by
    intro sz dO hr
    have MS:=iZ hr
    unfold I0 at MS
    split at MS
    ·rename_i ad hx
     intro w hw
     simp[execOp,ho,hf.ev hx,Instr.loadAt,Instr.sureAddr,DA dO (hw ▸ MS)]
    ·simp at MS
   split at hs
   ·rename_i zS; simp at hs; subst hs; exact key none (.inl ⟨rfl,zS⟩) hr
   ·rename_i zS
    simp only[afe] at hs
    obtain ⟨k,hk,rfl⟩:=hs
    exact key (some k) (.inr ⟨k,rfl,zS,hk⟩) hr
   ·simp at hs
  case h_6 src dst x ho=>-- convert
   split at hs
   ·rename_i el h1 h2
    split at hs
    ·rename_i h3
     simp at hs; subst hs
     have hb:=iZ hr
     intro w hw
     cases hx:ev x with
     | none=>rw[hx] at hb; simp[pJ] at hb
     | some u=>
       rw[hx] at hb
       have hr:=Fu (P:=P) (hw ▸ hb)
       cases u with
       | slice ad l c=>simp[execOp,ho,hf.ev hx,run_convert_bytes_string w src dst el ad l c h1 h3 h2,hr]
       | _=>simp[pJ] at hb
    ·simp at hs
   ·split at hs
    ·simp at hs; subst hs; simp[da.rd] at hr
    ·simp at hs
   ·split at hs
    ·split at hs
     ·simp at hs; subst hs; simp[da.rd] at hr
     ·simp at hs
    ·simp at hs
   ·simp at hs
  all_goals (exfalso; revert hs; (repeat' split) <;> intro hs <;> (try simp at hs) <;> (try (subst hs; simp[da.rd] at hr)) <;> (try (obtain ⟨_,_,rfl⟩:=hs; simp[da.rd] at hr)))
def gY.quiet (P:Program) (E:cd→Heap→Prop):gY P E where
 DE:=fun o ev H R=>∃ v,pR P o ev H v∧R v H
 allow:=da.reads
 mono:=fun ⟨v,h,hR⟩ h'=>⟨v,h,h' _ _ hR⟩
 ok:=fun {o s ev a H R} h hr hf hv=>by
  have:∃ p v,s.rd ev H=some (p,v)∧p∧R v H:=by
   cases s <;> simp only[da.reads,ae6] at hr
   ·simp only[da.vc,vN] at hv
    split at hv
    ·rename_i p v e; exact ⟨p,v,e,hv.1,hv.2⟩
    ·exact hv.elim
   ·simp only[da.vc,NB] at hv
    split at hv
    ·rename_i v e; exact ⟨True,v,by simp[da.rd,e,IP],trivial,hv⟩
    ·exact hv.elim
   ·simp only[da.vc,NB] at hv
    split at hv
    ·rename_i v e; exact ⟨True,v,by simp[da.rd,e,IP],trivial,hv⟩
    ·exact hv.elim
  obtain ⟨p,v,e,hp,hR⟩:=this
  exact ⟨v,Fx h hf e hp,hR⟩
 Bq:=fun h hR=>⟨_,h,hR⟩
theorem jr {H:Heap} {Q:Act→Heap→Prop} {w0:World}:∀ (l:List Oper) (a:Act),jC (gY.quiet P E) ops Q l a H→wpQuiet P ops (fun w=>w.heap=H∧Same w0 w) (fun a=>Q a H) l a
 | [],a,hr=>hr
 | o :: r,a,hr=>by
   unfold jC at hr
   unfold wpQuiet
   split
   ·rename_i hw; rw[if_pos hw] at hr
    obtain ⟨v,hv,hr⟩:=hr
    refine ⟨v,fun w hw=>?_,jr r _ hr⟩
    unfold Oper.quietAt
    rw[hv w hw.1]
    exact ⟨rfl,rfl⟩
   ·rename_i hw; rw[if_neg hw] at hr
    exact jr r _ hr
theorem DI (a:Bool) (y:Option Value):vR (some (.bool true)) (some (.bool a)) y=some (True,.bool a):=by
 cases y with
 | none=>rfl
 | some y=>cases y <;> rfl
theorem Bt (b:Bool) (x:Option Value):vR (some (.bool false)) x (some (.bool b))=some (True,.bool b):=by
 cases x with
 | none=>rfl
 | some x=>cases x <;> rfl
theorem rh {o:Oper} {t:Nat} {x y:Operand} (hs:iq P o=some (.v (.pick (.tmp t) x y))) {c w:Bool} (ht:a.tmps[t]?=some (.bool c)) (hx:c=true→a.eval x= .bool w) (hy:c=false→a.eval y= .bool w) (H:Heap) :
 pR P o a.eval H (.bool w):=by
 refine Fx (ev:=fun z=>some (a.eval z)) hs (fun z v hz=>by simpa using hz) (p:=True) ?_ trivial
 have e:a.eval (.tmp t)= .bool c:=by simp[Act.eval,afm,ht]
 show vR (some (a.eval (.tmp t))) (some (a.eval x)) (some (a.eval y))=_
 rw[e]
 cases c with
 | true=>rw[hx rfl]; exact DI _ _
 | false=>rw[hy rfl]; exact Bt _ _
theorem Old.eval (h:F2 n dd keep lay σ τ a) (ho:Old n keep lay a a') {x:Operand} {v:Value} (hx:fO σ τ (cO keep lay x)=some v):a'.eval x=v:=(h.old ho).agree x v hx
def WW (S:gY P E) (ops:Array Oper) (n:Nx) (dd:DD) (keep lay:List Nat) (t:Nat) (b:Bool) (G:NK) (Q:Act→Heap→Prop) (l:List Oper) (tl:List Oper):Prop:=
 ∀ {σ:bf} {τ:List Value} {a:Act} {H:Heap} {p:Prop} {τ':List Value},F2 n dd keep lay σ τ a→a.tmps[t]?=some (.bool b)→fS H σ G.inner τ=some (p,τ')→p→
   (∀ a',F2 n dd keep G.lay σ τ' a'→Old n keep lay a a'→jC S ops Q tl a' H)→jC S ops Q l a H
def WX (S:gY P E) (ops:Array Oper) (n:Nx) (keep lay:List Nat) (t:Nat) (b:Bool) (ds:List Nat) (Q:Act→Heap→Prop) (l:List Oper) (tl:List Oper):Prop:=
 ∀ {a:Act} {H:Heap},a.tmps.size=n.n→(a.tmps[t]?=some (.bool !b)∨a.tmps[t]?=some (.tuple #[]))→(∀ s ∈ ds,a.tmps[s]?=some (.tuple #[]))→
   (∀ a',Old n keep lay a a'→jC S ops Q tl a' H)→jC S ops Q l a H
theorem choice {S:gY P E} {t:Nat} {b:Bool} {G:NK} {Q:Act→Heap→Prop} {l lr:List Oper} {o:Oper} (Fy:iq P o=some (.v (.pick (.tmp t) G.x G.y)))
 (hT:WW S ops n dd keep lay t b G Q l (o :: lr)) (hF:WX S ops n keep lay t b [] Q l (o :: lr)) (ri:known keep lay t=true) {H:Heap} {p:Prop} {v:Value} (hf:F2 n dd keep lay σ τ a)
 (hs:DC σ τ (cO keep lay (.tmp t)) b (cO keep (if b then G.lay else lay) G.x) (cO keep (if b then lay else G.lay) G.y) (fS H σ G.inner τ)=some (p,v)) (hp:p)
 (hk:∀ a',F2 n dd keep lay σ τ a'→Old n keep lay a a'→pR P o a'.eval H v→jC S ops Q (o :: lr) a' H):jC S ops Q l a H:=by
 have skip:∀ w,v= .bool w→a.tmps[t]?=some (.bool !b)→fO σ τ (cO keep lay (if b then G.y else G.x))=some (.bool w)→jC S ops Q l a H:=by
  rintro w rfl ht hw
  refine hF hf.size (.inl ht) (by simp) fun a' ho=>hk a' (hf.old ho) ho ?_
  have Bu:=(ho.same t ri).trans ht
  have hz:=Old.eval hf ho hw
  cases b
  ·exact rh Fy (c:=true) Bu (fun _=>hz) (fun e=>by cases e) H
  ·exact rh Fy (c:=false) Bu (fun e=>by cases e) (fun _=>hz) H
 unfold DC at hs
 split at hs
 ·rename_i p' τ' dP
  split at hs
  ·rename_i c v' hc VO
   simp only[ae9.injEq,aff.injEq] at hs
   obtain ⟨rfl,rfl⟩:=hs
   rw[hc] at VO
   have ht:=hf.tmp hc
   obtain ⟨bx,bb,Dm,hby,rfl⟩:∃ bx bb,fO σ (if b then τ' else τ) (cO keep (if b then G.lay else lay) G.x)=some (.bool bx)∧fO σ (if b then τ else τ') (cO keep (if b then lay else G.lay) G.y)=some (.bool bb)∧v'= .bool (bif c then bx else bb):=by
    unfold RZ at VO
    split at VO
    ·rename_i c' a' b' e1 e2 e3
     simp at e1 VO; subst e1
     exact ⟨_,_,e2,e3,VO.symm⟩
    ·simp at VO
   by_cases e:c=b
   ·subst e
    refine hT hf ht dP (hp rfl) fun a' fJ ho=>hk a' (hf.old ho) ho ?_
    have Bu:=(ho.same t ri).trans ht
    cases c
    ·exact rh Fy Bu (fun e=>by cases e) (fun _=>fJ.agree _ _ hby) H
    ·exact rh Fy Bu (fun _=>fJ.agree _ _ Dm) (fun e=>by cases e) H
   ·have e':c= !b:=by cases c <;> cases b <;> simp_all
    subst e'
    cases b
    ·exact skip bx rfl ht Dm
    ·exact skip bb rfl ht hby
  ·cases hs
 ·split at hs
  ·rename_i c w hc hw
   simp only[ae9.injEq,aff.injEq] at hs
   obtain ⟨rfl,rfl⟩:=hs
   refine skip w rfl (by rw[← hp]; exact hf.tmp hc) ?_
   cases b <;> exact hw
  ·cases hs
theorem Bv {t d:Nat} {og:Option (Nat × Bool)} {r:jq} {x y:Operand} (h:DG t og r=some (d,x,y)):r.d=some d∧r.g=og∧r.s= .v (.pick (.tmp t) x y):=by
 unfold DG at h
 split at h
 ·rename_i d' t' x' y' e1 e2
  split at h
  ·rename_i hc
   simp only[ae9.injEq,aff.injEq] at h
   obtain ⟨rfl,rfl,rfl⟩:=h
   obtain ⟨rfl,e3⟩:=hc
   exact ⟨e1,e3,e2⟩
  ·cases h
 ·cases h
theorem Bw {t d:Nat} {b:Bool} {r:jq} (h:DH keep lay t b r=some d):r.d=some d∧r.g=some (t,b)∧known keep lay d=false:=by
 unfold DH at h
 split at h
 ·rename_i d' e1
  split at h
  ·rename_i hc
   simp only[ae9.injEq] at h; subst h
   exact ⟨e1,hc.1,hc.2.1⟩
  ·cases h
 ·cases h
theorem kK {i:In} {x:Option NK} {G:NK} (h:zW i x=some G):∃ G',x=some G'∧G={ G' with inner:=i :: G'.inner }:=by
 cases x with
 | none=>cases h
 | some G'=>simp[zW] at h; exact ⟨G',rfl,h.symm⟩
theorem uz {x:Option (Prop × Value)} {p:Prop} {τ':List Value} (h:qj x τ=some (p,τ')):∃ v,x=some (p,v)∧τ'=v :: τ:=by
 unfold qj at h
 split at h
 ·rename_i q v
  simp only[ae9.injEq,aff.injEq] at h
  obtain ⟨rfl,rfl⟩:=h
  exact ⟨v,rfl,rfl⟩
 ·cases h
theorem uA {f:List Value→Option (Prop × List Value)} {x:Option (Prop × List Value)} {p:Prop} {τ':List Value} (h:zV f x=some (p,τ')):∃ q τ1 r,x=some (q,τ1)∧f τ1=some (r,τ')∧p=(q∧r):=by
 unfold zV at h
 split at h
 ·rename_i q τ1
  split at h
  ·rename_i r τ2 h2
   simp only[ae9.injEq,aff.injEq] at h
   obtain ⟨rfl,rfl⟩:=h
   exact ⟨q,τ1,r,rfl,h2,rfl⟩
  ·cases h
 ·cases h
theorem Bx (S:gY P E) {Q:Act→Heap→Prop}:∀ (k:Nat) {t:Nat} {b:Bool} {og:Option (Nat × Bool)} {ds lay:List Nat} {gs:List jq} {G:NK},ra keep k t b og ds lay gs=some G→
 (∀ s ∈ ds,known keep lay s=true)→∀ (l:List Oper),Aligned P n ops l gs→
 ∃ o lr,(iq P o=some (.v (.pick (.tmp t) G.x G.y))∧o.dst=some G.d∧gy n (some G.d)=true∧fz ops.toList o.guard=some og)∧Aligned P n ops lr G.rest∧G.rest.length < gs.length∧known keep lay t=true∧
   WW S ops n dd keep lay t b G Q l (o :: lr)∧WX S ops n keep lay t b ds Q l (o :: lr):=by
 intro k
 induction k with
 | zero=>intro t b og ds lay gs G h; cases h
 | succ k ih=>
   intro t b og ds lay gs G h hds l ta
   cases gs with
   | nil=>cases h
   | cons r rs=>
     obtain ⟨o,l',rfl⟩:=ta.cons
     obtain ⟨hd,hg,WY,Bd⟩:=ja ta.head
     simp only[ra] at h
     split at h
     case isFalse=>cases h
     rename_i ri
     split at h
     ·-- the pick
      rename_i d x y Iv
      simp only[ae9.injEq] at h; subst h
      obtain ⟨e1,e2,e3⟩:=Bv Iv
      rw[e1] at Bd
      refine ⟨o,l',⟨by rw[← e3]; exact WY,Bd.symm,by rw[← Bd] at hd; exact hd,by rw[← e2]; exact hg⟩,ta.tail,by simp,ri,?_,?_⟩
      ·intro σ τ a H p τ' hf ht dP hp hk
       simp only[fS,ae9.injEq,aff.injEq] at dP
       obtain ⟨_,rfl⟩:=dP
       exact hk a hf Old.refl
      ·intro a H _ _ _ hk
       exact hk a Old.refl
     split at h
     ·-- a reading
      rename_i hnp d WZ
      obtain ⟨e1,e2,e3⟩:=Bw WZ
      rw[e1] at Bd
      rw[e2] at hg
      have Br:gy n (some d)=true:=by rw[← Bd] at hd; exact hd
      obtain ⟨G',MT,rfl⟩:=kK h
      have R1:∀ s ∈ d :: ds,known keep (d :: lay) s=true:=by
       intro s hs
       rcases afa.1 hs with rfl | hs
       ·simp[known,posOf]
       ·exact ql (hds s hs)
      obtain ⟨op,lr,I4,NL,I5,hp4,hT,hF⟩:=ih MT R1 l' ta.tail
      refine ⟨op,lr,I4,NL,by simp at I5 ⊢; omega,ri,?_,?_⟩
      ·intro σ τ a H p τ' hf ht dP hp hk
       simp only[fS] at dP
       obtain ⟨q,τ1,r',h1,h2,rfl⟩:=uA dP
       simp only[NJ] at h1
       obtain ⟨v,h3,rfl⟩:=uz h1
       rw[DB] at h3
       unfold jC
       rw[gZ hg ht,if_pos (by simp),← Bd]
       refine S.Bq (Fx WY hf.agree h3 hp.1) ?_
       have dH:d≠t:=by rintro rfl; rw[e3] at ri; cases ri
       exact hT (hf.push Br e3 v) ((j0 dH).trans ht) h2 hp.2 fun a' fJ ho=>hk a' fJ ((Old.put Br e3).trans ho)
      ·intro a H dO ht MU hk
       unfold jC
       have hw:afj o (yielded ops a.tmps)=false:=by
        rcases ht with ht | ht
        ·rw[gZ hg ht]; cases b <;> rfl
        ·exact lD hg ht
       rw[hw,if_neg (by simp),← Bd]
       have dH:d≠t:=by rintro rfl; rw[e3] at ri; cases ri
       refine hF (by simp[Act.put,dO]) (by rw[j0 dH]; exact ht) ?_ fun a' ho=>hk a' ((Old.put Br e3).trans ho)
       intro s hs
       rcases afa.1 hs with rfl | hs
       ·exact put_eq (by rw[dO]; exact vX Br)
       ·have:d≠s:=by rintro rfl; have:=hds _ hs; rw[e3] at this; cases this
        rw[j0 this]; exact MU s hs
     split at h
     ·-- a guard inside
      rename_i hnp hnr t' b' e2
      split at h
      case isFalse=>cases h
      rename_i hel
      have Bz:t' ∈ ds:=by simpa using hel
      split at h
      ·rename_i G1 hG1
       split at h
       case isFalse=>cases h
       rename_i pX
       obtain ⟨G',MT,rfl⟩:=kK h
       obtain ⟨o1,l1,⟨a1,a2,a3,a4⟩,R2,P6,R3,hT1,td⟩:=ih hG1 (by simp) (o :: l') ta
       have R1:∀ s ∈ G1.d :: ds,known keep (G1.d :: lay) s=true:=by
        intro s hs
        rcases afa.1 hs with rfl | hs
        ·simp[known,posOf]
        ·exact ql (hds s hs)
       obtain ⟨op,lr,I4,NL,I5,hp4,hT,hF⟩:=ih MT R1 l1 R2
       have dH:G1.d≠t:=by rintro e; rw[← e,pX] at ri; cases ri
       refine ⟨op,lr,I4,NL,Nat.lt_trans I5 P6,ri,?_,?_⟩
       ·intro σ τ a H p τ' hf ht dP hp hk
        simp only[fS] at dP
        obtain ⟨q,τ1,r',h1,h2,rfl⟩:=uA dP
        simp only[NJ] at h1
        obtain ⟨v,h3,rfl⟩:=uz h1
        refine choice a1 hT1 td R3 hf h3 hp.1 fun a' fJ ho pK=>?_
        unfold jC
        have Bu:=(ho.same t ri).trans ht
        rw[gZ a4 Bu,if_pos (by simp),a2]
        refine S.Bq pK ?_
        exact hT (fJ.push a3 pX v) ((j0 dH).trans Bu) h2 hp.2 fun P5 ab6 u3=>hk P5 ab6 ((ho.trans' (Old.put a3 pX)).trans u3)
       ·intro a H dO ht MU hk
        refine td dO (.inr (MU t' Bz)) (by simp) fun a' ho=>?_
        unfold jC
        have Bu:a'.tmps[t]?=some (.bool !b)∨a'.tmps[t]?=some (.tuple #[]):=by rw[ho.same t ri]; exact ht
        have hw:afj o1 (yielded ops a'.tmps)=false:=by
         rcases Bu with ht | ht
         ·rw[gZ a4 ht]; cases b <;> rfl
         ·exact lD a4 ht
        rw[hw,if_neg (by simp),a2]
        have W0:a'.tmps.size=n.n:=ho.size.trans dO
        refine hF (by simp[Act.put,W0]) (by rw[j0 dH]; exact Bu) ?_ fun P5 u3=>hk P5 ((ho.trans' (Old.put a3 pX)).trans u3)
        intro s hs
        rcases afa.1 hs with rfl | hs
        ·exact put_eq (by rw[W0]; exact vX a3)
        ·have jk:=hds s hs
         have:G1.d≠s:=by rintro e; rw[← e,pX] at jk; cases jk
         rw[j0 this,ho.same s jk]; exact MU s hs
      ·cases h
     ·cases h
def fo (S:gY P E) (gs:List jq):Bool:=gs.all fun g=>S.allow g.s
theorem BA (S:gY P E):∀ (k:Nat) {t:Nat} {b:Bool} {og:Option (Nat × Bool)} {ds lay:List Nat} {gs:List jq} {G:NK},ra keep k t b og ds lay gs=some G→fo S gs=true→fo S G.rest=true:=by
 intro k
 induction k with
 | zero=>intro t b og ds lay gs G h; cases h
 | succ k ih=>
   intro t b og ds lay gs G h ha
   cases gs with
   | nil=>cases h
   | cons r rs=>
     have ha':fo S rs=true:=by simp only[fo,afb,ae5] at ha; exact ha.2
     simp only[ra] at h
     split at h
     case isFalse=>cases h
     split at h
     ·simp only[ae9.injEq] at h; subst h; exact ha'
     split at h
     ·obtain ⟨G',MT,rfl⟩:=kK h
      have:=ih MT ha'
      exact this
     split at h
     ·split at h
      case isFalse=>cases h
      split at h
      ·rename_i G1 hG1
       split at h
       case isFalse=>cases h
       obtain ⟨G',MT,rfl⟩:=kK h
       have:=ih MT (ih hG1 ha)
       exact this
      ·cases h
     ·cases h
theorem qm (S:gY P E) {Q:Act→Heap→Prop} {K:bf→Heap→Prop} (hK:∀ lay σ τ a H,F2 n dd keep lay σ τ a→K σ H→Q a H) :
 ∀ (k:Nat) (pg:Option (Nat × Bool)) (lay:List Nat) (gs:List jq) (l:List Oper),Aligned P n ops l gs→fo S gs=true→
 ∀ σ τ a H,F2 n dd keep lay σ τ a→ei P E (comp keep k pg lay gs) σ τ H K→jC S ops Q l a H:=by
 intro k
 induction k with
 | zero=>
   intro pg lay gs l ta dk σ τ a H hf hv
   exfalso
   simp[comp,ei,da.vc,PE.val,fO,IP,vN] at hv
 | succ k ih=>
   intro pg lay gs l ta dk σ τ a H hf hv
   cases gs with
   | nil=>
     have:l=[]:=List.eq_nil_of_length_eq_zero (by simpa using ta.1)
     subst this
     exact hK lay σ τ a H hf (by simpa [comp,ei] using hv)
   | cons r rs=>
     obtain ⟨o,l',rfl⟩:=ta.cons
     obtain ⟨hd,hg,WY,Bd⟩:=ja ta.head
     have I6:S.allow r.s=true:=by simp only[fo,afb,ae5] at dk; exact dk.1
     have Fz:fo S rs=true:=by simp only[fo,afb,ae5] at dk; exact dk.2
     simp only[comp] at hv
     split at hv
     ·rename_i hgn
      rw[hgn] at hg
      unfold jC
      rw[if_pos (kJ (iu hg))]
      simp only[ei,zU,Bd] at hv
      exact S.mono (S.ok WY I6 hf.agree hv) fun v H' h=>ih _ _ _ _ ta.tail Fz _ _ _ _ (hf.put hd v) h
     ·rename_i t b W1
      rw[W1] at hg
      split at hv
      ·rename_i G hG
       have MT:ra keep (rs.length + 2) t b none [] lay (r :: rs)=some G:=by
        split at hG
        ·cases hG
        ·exact hG
       obtain ⟨o1,l1,⟨a1,a2,a3,a4⟩,R2,P6,R3,hT1,td⟩:=Bx (Q:=Q) S _ MT (by simp) (o :: l') ta
       simp only[ei] at hv
       unfold vN at hv
       split at hv
       case h_2=>exact hv.elim
       rename_i p v hs
       refine choice a1 hT1 td R3 hf hs hv.1 fun a' fJ ho pK=>?_
       unfold jC
       rw[if_pos (kJ (iu a4))]
       refine S.Bq pK ?_
       have hd1:gy n o1.dst=true:=by rw[a2]; exact a3
       rw[← a2] at hv
       have W2:fo S G.rest=true:=BA S _ MT dk
       exact ih _ _ _ _ R2 W2 _ _ _ _ (fJ.put hd1 v) hv.2
      ·simp only[ei] at hv
       split at hv
       ·rename_i c hc
        replace hc:=mo hc
        have ht:=hf.tmp hc
        unfold jC
        rw[gZ hg ht]
        by_cases e:c=b
        ·subst e
         rw[if_pos (by simp)]
         have hv:=hv.1 rfl
         simp only[zU,Bd] at hv
         have fJ:=hf.R0 hc (!(decide (pg=some (t,c))))
         exact S.mono (S.ok WY I6 fJ.agree hv) fun v H' h=>ih _ _ _ _ ta.tail Fz _ _ _ _ (fJ.put hd v) h
        ·have e':c= !b:=by cases c <;> cases b <;> simp_all
         subst e'
         rw[if_neg (by cases b <;> simp)]
         have hv:=hv.2 rfl
         simp only[Bd] at hv
         exact ih _ _ _ _ ta.tail Fz _ _ _ _ ((hf.R0 hc _).put hd undef) hv
       ·rename_i hc
        replace hc:=kW hc
        have ht:=hf.tmp hc
        unfold jC
        rw[lD hg ht,if_neg (by simp)]
        simp only[Bd] at hv
        exact ih _ _ _ _ ta.tail Fz _ _ _ _ (hf.put hd undef) hv
       ·exact hv.elim
end
section
variable {P:Program} {ops:Array Oper} {Q:Exit→Act→World→Prop} {md:Region.Mode}
def gQ (P:Program) (md:Region.Mode) (ops:Array Oper) (Q:Exit→Act→World→Prop) (S:Array Bool→World→Prop):Nat→Array Bool→Act→World→Prop
 | 0,listed,a,w=>afq md ops listed=[]∧Q .normal a w
 | fuel + 1,listed,a,w=>
   (afq md ops listed=[]→Q .normal a w)∧
   ∀ i ∈ afq md ops listed,wpOp P ops Q i (fun a' w'=>S (listed.setIfInBounds i true) w'∧gQ P md ops Q S fuel (listed.setIfInBounds i true) a' w') a w
theorem vZ {S:Array Bool→World→Prop}:∀ (fuel:Nat) (listed:Array Bool) (a:Act) (w:World),gQ P md ops Q S fuel listed a w→wpAny P md ops Q fuel listed a w
 | 0,_,_,_,h=>h
 | fuel + 1,_,_,_,h=>⟨h.1,fun i hi=>wpOp_mono (fun a' w' h'=>vZ fuel _ a' w' h'.2) (h.2 i hi)⟩
theorem uB {S S':Array Bool→World→Prop} (hS:∀ L w,S' L w→S L w):∀ (fuel:Nat) (listed:Array Bool) (a:Act) (w:World),gQ P md ops Q S' fuel listed a w→gQ P md ops Q S fuel listed a w
 | 0,_,_,_,h=>h
 | fuel + 1,_,_,_,h=>⟨h.1,fun i hi=>wpOp_mono (fun a' w' h'=>⟨hS _ _ h'.1,uB hS fuel _ a' w' h'.2⟩) (h.2 i hi)⟩
theorem rj {S:Array Bool→World→Prop} {i:Nat} {oi:Oper} {v:Value} {TD:List Nat} (hi:ops[i]?=some oi) (W3:∀ (j:Nat) (o:Oper) cs b,ops[j]?=some o→o.op≠.select cs b)
 (hQ:∀ c a w,Q (.panic c) (a.put oi.dst v) w→Q (.panic c) a w)
 (hTD:∀ j ∈ TD,∃ oj e,ops[j]?=some oj∧e ∈ oj.after∧afr md e=true∧(e.on=i∨e.on ∈ TD))
 (hSi:∀ L w,S (L.setIfInBounds i true) w→S L w) :
 ∀ (fuel:Nat) (listed:Array Bool) (a:Act) (w:World),
   (∀ j oj,ops[j]?=some oj→j≠i→listed.getD j true=false→(∀ e ∈ oj.after,afr md e=true→e.on≠i)→oi.apart ops oj=true)→
   i ∈ afq md ops listed→(∀ j ∈ TD,listed.getD j true=false)→YieldsIf P ops (fun w=>∃ L,(∀ j ∈ TD,L.getD j true=false)∧S L w) oi v a→S listed w→S (listed.setIfInBounds i true) w→
   gQ P md ops Q S fuel (listed.setIfInBounds i true) (a.put oi.dst v) w→gQ P md ops Q S (fuel + 1) listed a w:=by
 intro fuel
 induction fuel with
 | zero=>
   intro listed a w _ hr ht hy hS R4 H
   refine ⟨fun h=>(by rw[h] at hr; cases hr),fun j hj=>?_⟩
   by_cases DJ:j=i
   ·subst DJ; exact hy.wpOp hi ⟨listed,ht,hS⟩ ⟨R4,H⟩
   ·have:=ready_mono hj DJ
    rw[H.1] at this
    cases this
 | succ fuel ih=>
   intro listed a w BB hr ht hy hS R4 H
   refine ⟨fun h=>(by rw[h] at hr; cases hr),fun j hj=>?_⟩
   by_cases DJ:j=i
   ·subst DJ; exact hy.wpOp hi ⟨listed,ht,hS⟩ ⟨R4,H⟩
   ·have h1:=H.2 j (ready_mono hj DJ)
    obtain ⟨W4,oj,hoj,dk⟩:=mem_ready.1 hj
    have I7:∀ e ∈ oj.after,afr md e=true→e.on≠i:=fun e he hb heq=>by
     have h1:=dk e he hb
     have h0:=(mem_ready.1 hr).1
     rw[heq] at h1
     rcases ae8 i listed.size with h' | h'
     ·simp[h'] at h0 h1; rw[h0] at h1; cases h1
     ·simp[Array.getElem?_eq_none h'] at h1
    have ab7:j ∉ TD:=fun hm=>by
     obtain ⟨oj',e,e1,e2,e3,e4⟩:=hTD j hm
     rw[hoj] at e1; cases e1
     rcases e4 with e4 | e4
     ·exact I7 e e2 e3 e4
     ·have h2:=dk e e2 e3
      have h3:=ht _ e4
      rcases ae8 e.on listed.size with h' | h'
      ·simp[h'] at h2 h3; rw[h2] at h3; cases h3
      ·simp[Array.getElem?_eq_none h'] at h2
    have h2:=wpOp_putIf hoj (BB j oj hoj DJ W4 I7) (fun cs b=>W3 i oi cs b hi) (fun cs b=>W3 j oj cs b hoj) hQ hy h1
    have R5:∀ k ok,ops[k]?=some ok→k≠i→(listed.setIfInBounds j true).getD k true=false→
     (∀ e ∈ ok.after,afr md e=true→e.on≠i)→oi.apart ops ok=true:=fun k ok hk hki MU bZ=>by
     refine BB k ok hk hki ?_ bZ
     by_cases hjk:j=k
     ·subst hjk; exact W4
     ·rw[getD_set_ne true hjk] at MU; exact MU
    have Bu:∀ k ∈ TD,(listed.setIfInBounds j true).getD k true=false:=fun k hk=>by
     rw[getD_set_ne true (by rintro rfl; exact ab7 hk)]; exact ht k hk
    refine wpOp_mono (fun a' w' h3=>?_) h2
    obtain ⟨hy',hS2,hG⟩:=h3
    rw[afz _ _ (Ne.symm DJ)] at hS2
    have W5:=hSi _ _ hS2
    refine ⟨W5,ih (listed.setIfInBounds j true) a' w' R5 (ready_mono hr (Ne.symm DJ)) Bu hy' W5 hS2 ?_⟩
    rw[afz _ _ DJ]
    exact hG
theorem BC {S:Array Bool→World→Prop} {listed:Array Bool} {a:Act} {w:World} (hr:afq md ops listed=[]) (h:Q .normal a w) :
 ∀ fuel,gQ P md ops Q S fuel listed a w
 | 0=>⟨hr,h⟩
 | _ + 1=>⟨fun _=>h,by rw[hr]; simp⟩
end
inductive DT where
 | done
 | rd (g:Option (cE × Bool)) (d:nj) (s:da cE) (D:List Nat) (next:DT)
 | ef (i:Nat) (g:Option (cE × Bool)) (d:nj) (s:da cE) (next:DT)
 | br (a b:DT)
inductive v7 where
 | ld (sz:Option Nat) (a:Addr) (v:Value)
 | Bb (x:Value) (v:Value)
def v7.ok (H:Heap):v7→Prop
 | .ld sz a v=>IZ H sz a=some v
 | .Bb x v=>pJ H (some x)=some v
abbrev eG:=List (List Nat × v7)
def bP (i:Nat):eG→eG
 | []=>[]
 | (D,h) :: r=>if D.elem i then bP i r else (D,h) :: bP i r
def kX (H:Heap):eG→Prop
 | []=>True
 | (_,h) :: r=>h.ok H∧kX H r
def da.held {O:Type} (ev:O→Option Value) (D:List Nat) (v:Value) (s:da O) (p:eG):eG:=
 match s with
 | .ld sz x=>match ev x with
   | some (.pointer (some a))=>(D,.ld sz a v) :: p
   | _=>p
 | .Bb x=>match ev x with
   | some u=>(D,.Bb u v) :: p
   | none=>p
 | _=>p
def rdK (F:Prop × Value→Prop):Option (Prop × Value)→Prop
 | some x=>F x
 | none=>False
def kF (P:Program) (E:cd→Heap→Prop):DT→eG→bf→List Value→Heap→(bf→Heap→Prop)→Prop
 | .done,_,σ,_,H,K=>K σ H
 | .rd none d s D next,aQ,σ,τ,H,K=>rdK (fun x=>x.1∧kF P E next (s.held (fO σ τ) D x.2 aQ) (eh d x.2 σ) (eN d x.2 τ) H K) (s.rd (fO σ τ) H)
 | .rd (some (t,b)) d s D next,aQ,σ,τ,H,K=>
   match guardOf (fO σ τ t) with
   | some (some c)=>(c=b→rdK (fun x=>x.1∧kF P E next (s.held (fO (gw t (.bool b) σ) (gx t (.bool b) τ)) D x.2 aQ) (eh d x.2 (gw t (.bool b) σ)) (eN d x.2 (gx t (.bool b) τ)) H K) (s.rd (fO (gw t (.bool b) σ) (gx t (.bool b) τ)) H))∧
    (c=(!b)→kF P E next aQ (eh d undef (gw t (.bool (!b)) σ)) (eN d undef (gx t (.bool (!b)) τ)) H K)
   | some none=>kF P E next aQ (eh d undef σ) (eN d undef τ) H K
   | none=>False
 | .ef i none d s next,aQ,σ,τ,H,K=>s.vc P E (fO σ τ) H (fun v H'=>kX H' (bP i aQ)∧kF P E next (bP i aQ) (eh d v σ) (eN d v τ) H' K)
 | .ef i (some (t,b)) d s next,aQ,σ,τ,H,K=>
   match guardOf (fO σ τ t) with
   | some (some c)=>(c=b→s.vc P E (fO (gw t (.bool b) σ) (gx t (.bool b) τ)) H (fun v H'=>kX H' (bP i aQ)∧kF P E next (bP i aQ) (eh d v (gw t (.bool b) σ)) (eN d v (gx t (.bool b) τ)) H' K))∧
    (c=(!b)→kF P E next (bP i aQ) (eh d undef (gw t (.bool (!b)) σ)) (eN d undef (gx t (.bool (!b)) τ)) H K)
   | some none=>kF P E next (bP i aQ) (eh d undef σ) (eN d undef τ) H K
   | none=>False
 | .br a b,aQ,σ,τ,H,K=>kF P E a aQ σ τ H K∧kF P E b aQ σ τ H K
def NM (P:Program) (o:Oper):Bool:=
 match iq P o with
 | some s=>s.reads
 | none=>false
def rk (md:Region.Mode) (ops:List Oper) (i:Nat):Nat→List Nat→List Nat
 | 0,acc=>acc
 | k + 1,acc=>
   rk md ops i k (ops.zipIdx.foldl (fun acc (o,j)=>if acc.elem j || j == i then acc else if o.after.any (fun e=>afr md e && (e.on == i || acc.elem e.on)) then acc ++ [j] else acc) acc)
def R6 (md:Region.Mode) (ops:Array Oper) (i:Nat) (TD:List Nat):Bool:=
 TD.all fun j=>match ops[j]? with
  | some oj=>oj.after.any fun e=>afr md e && (e.on == i || TD.elem e.on)
  | none=>false
def qn (P:Program) (n:Nx) (keep:List Nat) (ops:Array Oper) (l:List Oper) (read:List Bool):Nat→List Nat→Array Bool→Option DT
 | 0,_,listed=>if afq .any ops listed=[] then some .done else none
 | k + 1,lay,listed=>
   match afq .any ops listed with
   | []=>some .done
   | i :: rest=>
     match (i :: rest).find? fun j=>read.getD j false with
     | some j=>
       let TD:=rk .any l j 3 []
       match ops[j]? with
       | some o=>
         match nF P n ops.toList o with
         | some r=>
           match qn P n keep ops l read k (qi keep lay r.d) (listed.setIfInBounds j true) with
           | some next=>
             if r.s.reads && Region.free .any ops listed j && R6 .any ops j TD && TD.all (fun q=>listed.getD q true=false) then
              some (.rd (r.g.map fun p=>(cO keep lay (.tmp p.1),p.2)) (cD keep r.d) (r.s.map (cO keep lay)) (TD.filter fun q=>!(read.getD q false)) next) else none
           | none=>none
         | none=>none
       | none=>none
     | none=>
       let one (i:Nat):Option DT:=
        match ops[i]? with
        | some o=>match nF P n ops.toList o with
          | some r=>match qn P n keep ops l read k (qi keep lay r.d) (listed.setIfInBounds i true) with
            | some next=>some (.ef i (r.g.map fun p=>(cO keep lay (.tmp p.1),p.2)) (cD keep r.d) (r.s.map (cO keep lay)) next)
            | none=>none
          | none=>none
        | none=>none
       match rest with
       | []=>one i
       | [j]=>match one i,one j with
         | some a,some b=>some (.br a b)
         | _,_=>none
       | _=>none
section
variable {P:Program} {E:cd→Heap→Prop} {n:Nx} {dd:DD} {ops:Array Oper} {Q:Exit→Act→World→Prop} {O:Type}
theorem gz {L:Array Bool} {i:Nat}:(L.setIfInBounds i true).getD i true=true:=by
 rcases ae8 i L.size with h | h <;> simp[h]
theorem mq {md:Region.Mode} {S S':Array Bool→World→Prop} {i:Nat} (hS:∀ L w,L.getD i true=true→S' L w→S L w):∀ (fuel:Nat) (listed:Array Bool) (a:Act) (w:World),listed.getD i true=true→
 gQ P md ops Q S' fuel listed a w→gQ P md ops Q S fuel listed a w
 | 0,_,_,_,_,h=>h
 | fuel + 1,listed,a,w,hl,h=>⟨h.1,fun j hj=>wpOp_mono (fun a' w' h'=>by
  have hl':(listed.setIfInBounds j true).getD i true=true:=by
   by_cases e:j=i
   ·subst e; exact gz
   ·rw[getD_set_ne true e]; exact hl
  exact ⟨hS _ _ hl' h'.1,mq hS fuel _ a' w' hl' h'.2⟩) (h.2 j hj)⟩
def SP (aQ:eG) (L:Array Bool) (w:World):Prop:=∀ e ∈ aQ,(∀ d ∈ e.1,L.getD d true=false)→e.2.ok w.heap
theorem gf {i:Nat}:∀ {aQ:eG} {e:List Nat × v7},e ∈ bP i aQ↔e ∈ aQ∧i ∉ e.1
 | [],e=>by simp[bP]
 | (D,h) :: r,e=>by
   simp only[bP]
   split
   ·rename_i hi
    rw[gf]
    constructor
    ·rintro ⟨h1,h2⟩; exact ⟨by simp[h1],h2⟩
    ·rintro ⟨h1,h2⟩
     rcases afa.1 h1 with rfl | h1
     ·exact absurd (by simpa using hi) h2
     ·exact ⟨h1,h2⟩
   ·rename_i hi
    rw[afa,gf]
    constructor
    ·rintro (rfl | ⟨h1,h2⟩)
     ·exact ⟨by simp,by simpa using hi⟩
     ·exact ⟨by simp[h1],h2⟩
    ·rintro ⟨h1,h2⟩
     rcases afa.1 h1 with rfl | h1
     ·exact .inl rfl
     ·exact .inr ⟨h1,h2⟩
theorem v8 {H:Heap}:∀ {aQ:eG},kX H aQ→∀ e ∈ aQ,e.2.ok H
 | [],_,e,he=>by cases he
 | (D,h) :: r,hp,e,he=>by
   rcases afa.1 he with rfl | he
   ·exact hp.1
   ·exact v8 hp.2 e he
theorem I8 {ev:O→Option Value} {D:List Nat} {v:Value} {s:da O} {p:eG} {e:List Nat × v7} (h:e ∈ s.held ev D v p):e ∈ p∨e.1=D:=by
 unfold da.held at h
 split at h
 ·split at h
  ·rcases afa.1 h with rfl | h
   ·exact .inr rfl
   ·exact .inl h
  ·exact .inl h
 ·split at h
  ·rcases afa.1 h with rfl | h
   ·exact .inr rfl
   ·exact .inl h
  ·exact .inl h
 ·exact .inl h
theorem I9 {ev:O→Option Value} {D:List Nat} {v:Value} {s:da O} {p:eG} {e:List Nat × v7} (h:e ∈ p):e ∈ s.held ev D v p:=by
 unfold da.held
 split
 ·split
  ·exact afu _ h
  ·exact h
 ·split
  ·exact afu _ h
  ·exact h
 ·exact h
theorem Ja {ev:O→Option Value} {D:List Nat} {v:Value} {s:da O} {p:eG} {q:Prop} {H H':Heap} (hr:s.rd ev H=some (q,v)) (hq:q) (h:∀ e ∈ s.held ev D v p,e.1=D→e.2.ok H'):∃ q',s.rd ev H'=some (q',v)∧q':=by
 cases s <;> simp only[da.rd,reduceCtorEq] at hr ⊢
 ·exact ⟨q,hr,hq⟩
 ·rename_i sz x
  have e:=iZ hr
  unfold I0 at e
  split at e
  ·rename_i ad hx
   have dj:IZ H' sz ad=some v:=h (D,.ld sz ad v) (by simp[da.held,hx]) rfl
   exact ⟨True,by simp[I0,hx,dj,IP],trivial⟩
  ·simp at e
 ·rename_i x
  have e:=iZ hr
  cases hx:ev x with
  | none=>rw[hx] at e; simp[pJ] at e
  | some u=>
    have dj:pJ H' (some u)=some v:=h (D,.Bb u v) (by simp[da.held,hx]) rfl
    exact ⟨True,by simp[dj,IP],trivial⟩
theorem Jb {ev:O→Option Value} {D:List Nat} {v:Value} {s:da O} {p:eG} {q:Prop} {H:Heap} (hr:s.rd ev H=some (q,v)) {e:List Nat × v7} (h:e ∈ s.held ev D v p):e ∈ p∨e.2.ok H:=by
 cases s <;> simp only[da.rd,reduceCtorEq] at hr <;> unfold da.held at h <;> simp only at h
 ·exact .inl h
 ·rename_i sz x
  have e1:=iZ hr
  split at h
  ·rename_i ad hx
   rcases afa.1 h with rfl | h
   ·right; rw[hx] at e1; exact e1
   ·exact .inl h
  ·exact .inl h
 ·rename_i x
  have e1:=iZ hr
  split at h
  ·rename_i u hx
   rcases afa.1 h with rfl | h
   ·right; rw[hx] at e1; exact e1
   ·exact .inl h
  ·exact .inl h
def zX (read:List Bool) (aQ:eG):Prop:=∀ e ∈ aQ,∀ d ∈ e.1,read.getD d false=false
theorem zX.drop {read:List Bool} {aQ:eG} (h:zX read aQ) (i:Nat):zX read (bP i aQ):=fun e he=>h e (gf.1 he).1
theorem zX.held {read:List Bool} {aQ:eG} (h:zX read aQ) {ev:O→Option Value} {D:List Nat} {v:Value} {s:da O} (hD:∀ d ∈ D,read.getD d false=false):zX read (s.held ev D v aQ):=fun e he=>by
 rcases I8 he with h1 | h1
 ·exact h e h1
 ·intro d hd; exact hD d (h1 ▸ hd)
theorem yQ {md:Region.Mode} {i:Nat} {TD:List Nat} (h:R6 md ops i TD=true):∀ j ∈ TD,∃ oj e,ops[j]?=some oj∧e ∈ oj.after∧afr md e=true∧(e.on=i∨e.on ∈ TD):=by
 intro j hj
 simp only[R6,afg] at h
 have:=h j hj
 split at this
 ·rename_i oj ho
  simp only[Array.any_eq_true',ae5,afl,beq_iff_eq] at this
  obtain ⟨e,he,h1,h2⟩:=this
  exact ⟨oj,e,ho,he,h1,h2.imp id (by simp)⟩
 ·simp at this
theorem Jc {aQ:eG} {read:List Bool} (hp:zX read aQ) {i:Nat} (hi:read.getD i false=true) {L:Array Bool} {w:World}:SP aQ (L.setIfInBounds i true) w→SP aQ L w:=fun h e he hd=>h e he fun d hd'=>by
 have dH:i≠d:=by rintro rfl; have:=hp e he _ hd'; rw[hi] at this; cases this
 rw[getD_set_ne true dH]; exact hd d hd'
theorem rn {aQ:eG} {i:Nat} {L:Array Bool} {w:World}:SP aQ L w→SP aQ (L.setIfInBounds i true) w:=fun h e he hd=>h e he fun d hd'=>by
 have:=hd d hd'
 by_cases dH:i=d
 ·subst dH; rw[gz] at this; cases this
 ·rw[getD_set_ne true dH] at this; exact this
theorem BD {O':Type} (m:O→O') (ev:O'→Option Value) (D:List Nat) (v:Value) (s:da O) (p:eG):(s.map m).held ev D v p=s.held (fun x=>ev (m x)) D v p:=by
 cases s <;> rfl
theorem F2.set {keep lay:List Nat} {σ:bf} {τ:List Value} {a:Act} (h:F2 n dd keep lay σ τ a) {x:cE} {c:Value} (hx:fO σ τ x=some c):F2 n dd keep lay (gw x c σ) (gx x c τ) a:=h.R0 hx true
theorem zY {n:Nx} {dd:DD} {keep:List Nat} {w0:World} {K:bf→Heap→Prop} (hE:∀ c a w,jY n dd a→Same w0 w→E c w.heap→Q (.panic c) a w) (hQp:∀ c a d v w,gy n d=true→Q (.panic c) (a.put d v) w→Q (.panic c) a w) (hQ:∀ lay σ τ a w,F2 n dd keep lay σ τ a→Same w0 w→K σ w.heap→Q .normal a w) (WO:afG ops=true) {l:List Oper} {read:List Bool} :
 ∀ (k:Nat) (lay:List Nat) (listed:Array Bool) (dt:DT),qn P n keep ops l read k lay listed=some dt→∀ (σ:bf) (τ:List Value) (a:Act) (w:World) (aQ:eG),F2 n dd keep lay σ τ a→Same w0 w→zX read aQ→SP aQ listed w→kF P E dt aQ σ τ w.heap K→
   gQ P .any ops Q (SP aQ) k listed a w:=by
 intro k
 induction k with
 | zero=>
   intro lay listed dt h σ τ a w aQ hf hs hp hS hv
   simp only[qn] at h
   split at h
   ·rename_i hr
    simp at h; subst h
    exact ⟨hr,hQ lay σ τ a w hf hs hv⟩
   ·simp at h
 | succ k ih=>
   intro lay listed dt h σ τ a w aQ hf hs hp hS hv
   simp only[qn] at h
   split at h
   ·rename_i hr
    simp at h; subst h
    exact BC hr (hQ lay σ τ a w hf hs hv) _
   ·rename_i i rest hr
    split at h
    ·-- a read
     rename_i j P7
     have hjr:read.getD j false=true:=by have:=List.find?_some P7; simpa using this
     have hjm:j ∈ afq .any ops listed:=by rw[hr]; exact List.mem_of_find?_eq_some P7
     split at h
     case h_2=>cases h
     rename_i o ho
     split at h
     case h_2=>cases h
     rename_i r hg
     split at h
     case h_2=>cases h
     rename_i next lE
     split at h
     case isFalse=>cases h
     rename_i hc
     simp only[ae5,afg,decide_eq_true_eq] at hc
     obtain ⟨⟨⟨WZ,BB⟩,htd⟩,MU⟩:=hc
     simp only[ae9.injEq] at h; subst h
     obtain ⟨hd,h1,h2,Bd⟩:=ja hg
     have hDr:∀ q ∈ (rk .any l j 3 []).filter (fun q=>!(read.getD q false)),read.getD q false=false:=fun q hq=>by
      have:=(afv.1 hq).2; simpa using this
     rw[Bd] at lE hv
     -- the step that reads
     have take:∀ (σ:bf) (τ:List Value) (v:Value),F2 n dd keep lay σ τ a→(afj o (yielded ops a.tmps)=true∧∃ p,r.s.rd (fun x=>fO σ τ (cO keep lay x)) w.heap=some (p,v)∧p)→
      kF P E next (r.s.held (fun x=>fO σ τ (cO keep lay x)) ((rk .any l j 3 []).filter fun q=>!(read.getD q false)) v aQ) (eh (cD keep o.dst) v σ) (eN (cD keep o.dst) v τ) w.heap K→gQ P .any ops Q (SP aQ) (k + 1) listed a w:=by
      intro σ τ v hf ⟨hw,p,hr,hpp⟩ hv
      generalize hev:(fun x=>fO σ τ (cO keep lay x))=ev at hr hv
      have zS:jV ev a:=by rw[← hev]; exact hf.agree
      generalize hD:(rk .any l j 3 []).filter (fun q=>!(read.getD q false))=D at hv hDr
      have NN:zX read (r.s.held ev D v aQ):=hp.held hDr
      have R4:SP (r.s.held ev D v aQ) listed w:=fun e he hd=>by
       rcases Jb hr he with h | h
       ·exact hS e h hd
       ·exact h
      refine uB (S':=SP (r.s.held ev D v aQ)) (fun L w h e he=>h e (I9 he)) _ _ _ _ ?_
      refine rj (v:=v) ho (afD WO) (fun c a w h=>hQp c a _ _ w hd h) (yQ htd) (fun L w=>Jc NN hjr) k listed a w (afF ho BB) hjm MU ?_ R4 (rn R4) ?_
      ·refine .inl ⟨hw,fun w' ⟨L,hL,hSL⟩=>?_⟩
       obtain ⟨q',W6,hq'⟩:=Ja (p:=aQ) (D:=D) (H':=w'.heap) hr hpp fun e he heD=>hSL e he fun d hd=>by
        rw[heD,← hD] at hd
        exact hL d (afv.1 hd).1
       exact Fx h2 zS W6 hq' w' rfl
      ·exact ih _ _ _ lE _ _ _ _ _ (hf.put hd v) hs NN (rn R4) hv
     -- the step that aeQ not aeR up
     have skip:∀ (σ:bf) (τ:List Value),F2 n dd keep lay σ τ a→afj o (yielded ops a.tmps)=false→kF P E next aQ (eh (cD keep o.dst) undef σ) (eN (cD keep o.dst) undef τ) w.heap K→gQ P .any ops Q (SP aQ) (k + 1) listed a w:=by
      intro σ τ hf hw hv
      refine rj (v:=undef) ho (afD WO) (fun c a w h=>hQp c a _ _ w hd h) (yQ htd) (fun L w=>Jc hp hjr) k listed a w (afF ho BB) hjm MU (.inr ⟨hw,rfl⟩) hS (rn hS) ?_
      exact ih _ _ _ lE _ _ _ _ _ (hf.put hd undef) hs hp (rn hS) hv
     cases W7:r.g with
     | none=>
       rw[W7] at h1 hv
       simp only[aft,kF,DB,BD] at hv
       cases hr:r.s.rd (fun x=>fO σ τ (cO keep lay x)) w.heap with
       | none=>rw[hr] at hv; exact hv.elim
       | some x=>
         rw[hr] at hv
         exact take σ τ x.2 hf ⟨kJ (iu h1),x.1,by rw[hr],hv.1⟩ hv.2
     | some p=>
       obtain ⟨t,b⟩:=p
       rw[W7] at h1 hv
       simp only[afp,kF,DB,BD] at hv
       split at hv
       ·rename_i c hc
        replace hc:=mo hc
        have ht:=hf.tmp hc
        by_cases e:c=b
        ·subst e
         have hv:=hv.1 rfl
         have fJ:=hf.set hc
         cases hr:r.s.rd (fun x=>fO (gw (cO keep lay (.tmp t)) (.bool c) σ) (gx (cO keep lay (.tmp t)) (.bool c) τ) (cO keep lay x)) w.heap with
         | none=>rw[hr] at hv; exact hv.elim
         | some x=>
           rw[hr] at hv
           exact take _ _ x.2 fJ ⟨by rw[gZ h1 ht]; simp,x.1,by rw[hr],hv.1⟩ hv.2
        ·have e':c= !b:=by cases c <;> cases b <;> simp_all
         subst e'
         exact skip _ _ (hf.set hc) (by rw[gZ h1 ht]; cases b <;> rfl) (hv.2 rfl)
       ·rename_i hc
        replace hc:=kW hc
        exact skip _ _ hf (lD h1 (hf.tmp hc)) hv
       ·exact hv.elim
    ·-- an effect
     have one:∀ (i:Nat) (dt:DT),(match ops[i]? with
      | some o=>match nF P n ops.toList o with
        | some r=>match qn P n keep ops l read k (qi keep lay r.d) (listed.setIfInBounds i true) with
          | some next=>some (DT.ef i (r.g.map fun p=>(cO keep lay (.tmp p.1),p.2)) (cD keep r.d) (r.s.map (cO keep lay)) next)
          | none=>none
        | none=>none
      | none=>none)=some dt→i ∈ afq .any ops listed→kF P E dt aQ σ τ w.heap K→
      wpOp P ops Q i (fun a' w'=>SP aQ (listed.setIfInBounds i true) w'∧gQ P .any ops Q (SP aQ) k (listed.setIfInBounds i true) a' w') a w:=by
      intro i dt h hi hv
      split at h
      case h_2=>cases h
      rename_i o ho
      split at h
      case h_2=>cases h
      rename_i r hg
      split at h
      case h_2=>cases h
      rename_i next lE
      simp only[ae9.injEq] at h; subst h
      obtain ⟨hd,h1,h2,Bd⟩:=ja hg
      rw[Bd] at lE hv
      unfold wpOp
      rw[ho]
      -- what follows
      have go:∀ (σ':bf) (τ':List Value) (a':Act) (w':World),F2 n dd keep (qi keep lay o.dst) σ' τ' a'→Same w0 w'→kX w'.heap (bP i aQ)→kF P E next (bP i aQ) σ' τ' w'.heap K→
       SP aQ (listed.setIfInBounds i true) w'∧gQ P .any ops Q (SP aQ) k (listed.setIfInBounds i true) a' w':=by
       intro σ' τ' a' w' fJ iF hpo BE
       have hSd:SP (bP i aQ) (listed.setIfInBounds i true) w':=fun e he _=>v8 hpo e he
       have up:∀ L w,L.getD i true=true→SP (bP i aQ) L w→SP aQ L w:=fun L w hL h e he hd=>by
        by_cases hi:i ∈ e.1
        ·have:=hd i hi; rw[hL] at this; cases this
        ·exact h e (gf.2 ⟨he,hi⟩) hd
       exact ⟨up _ _ gz hSd,mq up _ _ _ _ gz (ih _ _ _ lE _ _ _ _ _ fJ iF (hp.drop i) hSd BE)⟩
      have same:∀ σ' τ' a',F2 n dd keep (qi keep lay o.dst) σ' τ' a'→kF P E next (bP i aQ) σ' τ' w.heap K→SP aQ (listed.setIfInBounds i true) w∧gQ P .any ops Q (SP aQ) k (listed.setIfInBounds i true) a' w:=by
       intro σ' τ' a' fJ BE
       have W5:=rn (i:=i) hS
       have hSd:SP (bP i aQ) (listed.setIfInBounds i true) w:=fun e he hd=>W5 e (gf.1 he).1 hd
       have up:∀ L w,L.getD i true=true→SP (bP i aQ) L w→SP aQ L w:=fun L w hL h e he hd=>by
        by_cases hi:i ∈ e.1
        ·have:=hd i hi; rw[hL] at this; cases this
        ·exact h e (gf.2 ⟨he,hi⟩) hd
       exact ⟨W5,mq up _ _ _ _ gz (ih _ _ _ lE _ _ _ _ _ fJ hs (hp.drop i) hSd BE)⟩
      cases W7:r.g with
      | none=>
        rw[W7] at h1 hv
        simp only[aft,kF,zU] at hv
        simp only[kJ (iu h1),if_true]
        exact .inl ((qg h2 hf.agree hv).wp (fun v w' hR iF=>go _ _ _ w' (hf.put hd v) (hs.trans iF) hR.1 hR.2) fun c w' hc iF=>hE c a w' hf.ir (hs.trans iF) hc)
      | some p=>
        obtain ⟨t,b⟩:=p
        rw[W7] at h1 hv
        simp only[afp,kF,zU] at hv
        split at hv
        ·rename_i c hc
         replace hc:=mo hc
         have ht:=hf.tmp hc
         simp only[gZ h1 ht]
         by_cases e:c=b
         ·subst e
          simp only[beq_self_eq_true,if_true]
          have fJ:=hf.set hc
          exact .inl ((qg h2 fJ.agree (hv.1 rfl)).wp (fun v w' hR iF=>go _ _ _ w' (fJ.put hd v) (hs.trans iF) hR.1 hR.2) fun c w' hc iF=>hE c a w' fJ.ir (hs.trans iF) hc)
         ·have e':c= !b:=by cases c <;> cases b <;> simp_all
          subst e'
          rw[if_neg (by cases b <;> simp)]
          exact same _ _ _ ((hf.set hc).put hd undef) (hv.2 rfl)
        ·rename_i hc
         replace hc:=kW hc
         simp only[lD h1 (hf.tmp hc),ae6,if_false]
         exact same _ _ _ (hf.put hd undef) hv
        ·exact hv.elim
     split at h
     ·refine ⟨fun h0=>(by rw[hr] at h0; cases h0),fun j hj=>?_⟩
      rw[hr] at hj
      simp at hj; subst hj
      exact one j dt h (by rw[hr]; simp) hv
     ·rename_i j
      split at h
      ·rename_i d1 d2 e1 e2
       simp at h; subst h
       refine ⟨fun h0=>(by rw[hr] at h0; cases h0),fun q hq=>?_⟩
       rw[hr] at hq
       simp at hq
       rcases hq with rfl | rfl
       ·exact one q d1 e1 (by rw[hr]; simp) hv.1
       ·exact one q d2 e2 (by rw[hr]; simp) hv.2
      ·simp at h
     ·simp at h
end
abbrev Env:=List (Nat × Value)
def Env.get:Env→Nat→Option Value
 | [],_=>none
 | (i,v) :: r,t=>if i=t then some v else Env.get r t
def Jd:List Nat→Env→bf
 | [],_=>[]
 | t :: r,E=>Env.get E t :: Jd r E
def nH:List Nat→bf→Nat→Option Value
 | k :: ks,s :: ss,t=>if k=t then s else nH ks ss t
 | _,_,_=>none
def kY (keep:List Nat) (σ:bf):Env→Prop
 | []=>True
 | (t,v) :: r=>nH keep σ t=some v∧kY keep σ r
theorem FA:∀ {keep:List Nat} {E:Env} {t k:Nat} {v:Value},posOf keep t=some k→(Jd keep E)[k]?=some (some v)→E.get t=some v
 | [],E,t,k,v,h,_=>by simp[posOf] at h
 | x :: r,E,t,k,v,h,hv=>by
   simp only[posOf] at h
   split at h
   ·rename_i e; subst e; simp at h; subst h
    simpa [Jd] using hv
   ·split at h
    ·rename_i j hj; simp at h; subst h
     exact FA hj (by simpa [Jd] using hv)
    ·cases h
theorem tr:∀ {keep:List Nat} {σ:bf} {t:Nat} {v:Value},nH keep σ t=some v→∃ k,posOf keep t=some k∧σ[k]?=some (some v)
 | [],σ,t,v,h=>by simp[nH] at h
 | x :: r,[],t,v,h=>by simp[nH] at h
 | x :: r,s :: ss,t,v,h=>by
   simp only[nH] at h
   split at h
   ·rename_i e; subst e; subst h; exact ⟨0,by simp[posOf],rfl⟩
   ·rename_i e
    obtain ⟨k,h1,h2⟩:=tr h
    exact ⟨k + 1,by simp[posOf,if_neg e,h1],by simpa using h2⟩
theorem yR {keep:List Nat} {σ:bf}:∀ {E:Env} {t:Nat} {v:Value},kY keep σ E→E.get t=some v→nH keep σ t=some v
 | [],t,v,_,h=>by simp[Env.get] at h
 | (i,u) :: r,t,v,hk,h=>by
   simp only[Env.get] at h
   split at h
   ·rename_i e; subst e; simp at h; subst h; exact hk.1
   ·exact yR hk.2 h
theorem F2.head {n:Nx} {dd:DD} {keep lay:List Nat} {σ:bf} {τ:List Value} {a:Act} {E:Env} (h:F2 n dd keep lay σ τ a) (hk:kY keep σ E):F2 n dd keep [] (Jd keep E) [] a:=by
 refine ⟨h.size,h.ir,fun t k v ht hv=>?_,fun t k v _ hk _=>by simp[posOf] at hk⟩
 obtain ⟨j,h1,h2⟩:=tr (yR hk (FA ht hv))
 exact h.mZ t j v h1 h2
theorem F2.rest {n:Nx} {dd:DD} {keep lay:List Nat} {σ:bf} {τ:List Value} {a:Act} (h:F2 n dd keep lay σ τ a):F2 n dd keep [] σ [] a:=
 ⟨h.size,h.ir,h.mZ,fun t k v _ hk _=>by simp[posOf] at hk⟩
inductive cI where
 | skip
 | ops (l:List pL)
 | dq (l:List pL)
 | de (t:DT)
 | seq (a b:cI)
 | cond (c:cE) (thn els:cI)
 | block (id:Nat) (body:cI)
 | loop (keep:List Nat) (body:cI)
 | exit (id:Nat)
 | ret
inductive X where
 | yg
 | ext (id:Nat)
 | ret
abbrev lF:=X→bf→Heap→Prop
def yq (Q:lF):bf→Heap→Prop:=fun σ H=>Q .yg σ H
def u4 (F:bf→Heap→Prop) (Q:lF):lF
 | .yg,ρ,H=>F ρ H
 | .ext i,ρ,H=>Q (.ext i) ρ H
 | .ret,ρ,H=>Q .ret ρ H
def tu (id:Nat) (Q:lF):lF
 | .yg,ρ,H=>Q .yg ρ H
 | .ext i,ρ,H=>if i=id then Q .yg ρ H else Q (.ext i) ρ H
 | .ret,ρ,H=>Q .ret ρ H
def pY (A B:Prop):Option Value→Prop
 | some (.bool t)=>(t=true→A)∧(t=false→B)
 | _=>False
def Je {α:Type} (keep:List Nat) (I:α→Heap→Prop) (E:α→Env) (μ:α→Nat) (x:α):bf→Heap→Prop:=
 fun σ' H'=>∃ y,μ y < μ x∧kY keep σ' (E y)∧I y H'
def vc (P:Program) (E:cd→Heap→Prop):cI→bf→Heap→lF→Prop
 | .skip,σ,H,Q=>Q .yg σ H
 | .ops l,σ,H,Q=>ei P E l σ [] H (yq Q)
 | .dq l,σ,H,Q=>ei P E l σ [] H (yq Q)
 | .de t,σ,H,Q=>kF P E t [] σ [] H (yq Q)
 | .seq a b,σ,H,Q=>vc P E a σ H (u4 (fun σ H=>vc P E b σ H Q) Q)
 | .cond c a b,σ,H,Q=>pY (vc P E a σ H Q) (vc P E b σ H Q) (fO σ [] c)
 | .block id c,σ,H,Q=>vc P E c σ H (tu id Q)
 | .loop keep c,σ,H,Q=>∃ (α:Type) (I:α→Heap→Prop) (En:α→Env) (μ:α→Nat) (x₀:α),I x₀ H∧kY keep σ (En x₀)∧
  ∀ x H,I x H→vc P E c (Jd keep (En x)) H (u4 (Je keep I En μ x) Q)
 | .exit i,σ,H,Q=>Q (.ext i) σ H
 | .ret,σ,H,Q=>Q .ret σ H
def lG (P:Program) (n:Nx) (ops:List Oper):List Oper→Option (List jq)
 | []=>some []
 | o :: r=>match nF P n ops o,lG P n ops r with
   | some g,some gs=>some (g :: gs)
   | _,_=>none
def strip (P:Program) (n:Nx) (keep:List Nat):Code→Option cI
 | .skip=>some .skip
 | .region _ ops draw=>
   match lG P n ops.toList ops.toList with
   | some gs=>
     if draw then
      if gs.all (fun g=>g.s.reads) && Region.lexB .any ops && P.follows .mixedOrders then some (.dq (comp keep (gs.length + 1) none [] gs))
      else if P.follows .mixedOrders && afG ops then
       match qn P n keep ops ops.toList (ops.toList.map (NM P)) ops.size [] (afA ops.size false) with
       | some t=>some (.de t)
       | none=>none
      else none
     else some (.ops (comp keep (gs.length + 1) none [] gs))
   | none=>none
 | .seq a b=>match strip P n keep a,strip P n keep b with
   | some x,some y=>some (.seq x y)
   | _,_=>none
 | .cond c a b=>match strip P n keep a,strip P n keep b with
   | some x,some y=>some (.cond (cO keep [] c) x y)
   | _,_=>none
 | .block id c=>match strip P n keep c with
   | some x=>some (.block id x)
   | none=>none
 | .loop c=>match strip P n keep c with
   | some x=>some (.loop keep x)
   | none=>none
 | .exit i=>some (.exit i)
 | .ret=>some .ret
 | .scope c=>strip P n keep c
 | .label _=>some .skip
 | _=>none
section
variable {P:Program} {E:cd→Heap→Prop} {n:Nx} {dd:DD}
theorem iM {ops:Array Oper}:∀ {l:List Oper} {gs:List jq},lG P n ops.toList l=some gs→Aligned P n ops l gs
 | [],gs,h=>by simp[lG] at h; subst h; exact ⟨rfl,fun j o hj=>by simp at hj⟩
 | o :: l,gs,h=>by
   simp only[lG] at h
   split at h
   ·rename_i g gs' h1 h2
    simp at h; subst h
    have ih:=iM h2
    refine ⟨by simp[ih.1],fun j o' hj=>?_⟩
    cases j with
    | zero=>simp at hj; subst hj; exact ⟨g,rfl,h1⟩
    | succ j=>simpa using ih.2 j o' (by simpa using hj)
   ·simp at h
theorem uC {ops:Array Oper} {l:List Oper} {gs:List jq} (h:Aligned P n ops l gs):∀ o ∈ l,gy n o.dst=true:=by
 intro o ho
 obtain ⟨j,hj,rfl⟩:=List.getElem_of_mem ho
 obtain ⟨g,_,hg⟩:=h.2 j _ (List.getElem?_eq_getElem hj)
 exact (ja hg).1
theorem uD {gs:List jq}:fo (gY.all P E) gs=true:=by
 simp only[fo,afg]
 intro g _; rfl
theorem yr {gs:List jq} (h:gs.all (fun g=>g.s.reads)=true):fo (gY.quiet P E) gs=true:=h
def QX (E:cd→Heap→Prop) (n:Nx) (dd:DD) (keep:List Nat) (w0:World) (Q:lF):Exit→Act→World→Prop
 | .normal,a,w=>Same w0 w∧∃ σ,F2 n dd keep [] σ [] a∧Q .yg σ w.heap
 | .exit i,a,w=>Same w0 w∧∃ σ,F2 n dd keep [] σ [] a∧Q (.ext i) σ w.heap
 | .ret,a,w=>Same w0 w∧∃ σ,F2 n dd keep [] σ [] a∧Q .ret σ w.heap
 | .panic c,a,w=>Same w0 w∧jY n dd a∧E c w.heap
 | _,_,_=>False
theorem mr {ops:Array Oper} {C:World→Prop} {Q Q':Act→Prop} (h:∀ a,Q a→Q' a):∀ (l:List Oper) (a:Act),wpQuiet P ops C Q l a→wpQuiet P ops C Q' l a
 | [],a,hq=>h a hq
 | o :: l,a,hq=>by
   unfold wpQuiet at *
   split
   ·rename_i hw; rw[if_pos hw] at hq; exact Oper.quiet_mono (fun a=>mr h l a) hq
   ·rename_i hw; rw[if_neg hw] at hq; exact mr h l _ hq
theorem dI {keep:List Nat}:∀ (c:Code) {s:cI},strip P n keep c=some s→∀ {σ:bf} {a:Act} {w w0:World} {Q:lF},F2 n dd keep [] σ [] a→Same w0 w→vc P E s σ w.heap Q→c.wp P (QX E n dd keep w0 Q) a w
 | .skip,s,hs,σ,a,w,w0,Q,hf,hw,hv=>by
   simp[strip] at hs; subst hs
   exact wp_skip ⟨hw,σ,hf,hv⟩
 | .exit i,s,hs,σ,a,w,w0,Q,hf,hw,hv=>by
   simp[strip] at hs; subst hs
   exact wp_exit ⟨hw,σ,hf,hv⟩
 | .ret,s,hs,σ,a,w,w0,Q,hf,hw,hv=>by
   simp[strip] at hs; subst hs
   exact wp_ret ⟨hw,σ,hf,hv⟩
 | .region id ops draw,s,hs,σ,a,w,w0,Q,hf,hw,hv=>by
   simp only[strip] at hs
   split at hs
   case h_2=>simp at hs
   rename_i gs W1
   have ta:=iM W1
   cases draw with
   | false=>
     simp only[ae6,if_false,ae9.injEq] at hs; subst hs
     have:=qm (keep:=keep) (gY.all P E) (Q:=fun a H=>∃ σ,F2 n dd keep [] σ [] a∧Q .yg σ H) (K:=yq Q) (fun lay σ τ a H hf h=>⟨_,hf.rest,h⟩) (gs.length + 1) none [] gs ops.toList ta uD σ [] a w.heap hf hv
     exact wp_region_list (jZ (n:=n) (dd:=dd) ops.toList a w w0 hw hf.ir (uC ta) (fun a w' iF h=>⟨iF,h⟩) (fun c a w' hd iF hE=>⟨iF,hd,hE⟩) this)
   | true=>
     simp only[if_true] at hs
     split at hs
     ·rename_i hc
      simp only[ae5] at hc
      simp only[ae9.injEq] at hs; subst hs
      have:=qm (keep:=keep) (gY.quiet P E) (Q:=fun a H=>∃ σ,F2 n dd keep [] σ [] a∧Q .yg σ H) (K:=yq Q) (fun lay σ τ a H hf h=>⟨_,hf.rest,h⟩) (gs.length + 1) none [] gs ops.toList ta (yr hc.1.1) σ [] a w.heap hf hv
      have hq:=jr (w0:=w0) _ _ this
      refine wp_region_quiet (C:=fun w'=>w'.heap=w.heap∧Same w0 w') hc.2 hc.1.2 ⟨rfl,⟨hw.os,hw.tape,hw.output⟩⟩ ?_
      refine mr (fun a h w' DK=>?_) _ _ hq
      obtain ⟨σ,h1,h2⟩:=h
      exact ⟨DK.2,σ,h1,DK.1 ▸ h2⟩
     ·split at hs
      ·rename_i hc
       simp only[ae5] at hc
       split at hs
       ·rename_i dt W8
        simp only[ae9.injEq] at hs; subst hs
        refine wp_region_any hc.1 (vZ _ _ _ _ (zY (w0:=w0) (K:=yq Q) (fun c a w hd iF hE=>⟨iF,hd,hE⟩) (fun c a d v w hd h=>⟨h.1,h.2.1.WV hd,h.2.2⟩) (fun lay σ τ a w hf hs hK=>⟨hs,_,hf.rest,hK⟩) hc.2 _ _ _ _ W8 σ [] a _ [] hf ⟨hw.os,hw.tape,hw.output⟩ (fun e he=>by cases he) (fun e he=>by cases he) hv))
       ·simp at hs
      ·simp at hs
 | .seq c d,s,hs,σ,a,w,w0,Q,hf,hw,hv=>by
   simp only[strip] at hs
   split at hs
   ·rename_i x y h1 h2
    simp only[ae9.injEq] at hs; subst hs
    refine wp_seq (wp_mono (dI c h1 hf hw hv) fun e a' w' hq=>?_)
    cases e <;> simp only[QX,Exit.then] at hq ⊢
    ·obtain ⟨DK,σ',fJ,BE⟩:=hq
     exact dI d h2 fJ DK BE
    ·exact hq
    ·exact hq
    ·exact hq
   ·simp at hs
 | .cond x c d,s,hs,σ,a,w,w0,Q,hf,hw,hv=>by
   simp only[strip] at hs
   split at hs
   ·rename_i s1 s2 h1 h2
    simp only[ae9.injEq] at hs; subst hs
    simp only[vc,pY] at hv
    split at hv
    ·rename_i t ht
     exact wp_cond_split (hf.agree x _ ht) (fun e=>dI c h1 hf hw (hv.1 e)) (fun e=>dI d h2 hf hw (hv.2 e))
    ·exact hv.elim
   ·simp at hs
 | .block id c,s,hs,σ,a,w,w0,Q,hf,hw,hv=>by
   simp only[strip] at hs
   split at hs
   ·rename_i s1 h1
    simp only[ae9.injEq] at hs; subst hs
    refine wp_block (wp_mono (dI c h1 hf hw hv) fun e a' w' hq=>?_)
    cases e <;> simp only[QX,Exit.inBlock,tu] at hq ⊢
    ·exact hq
    ·obtain ⟨DK,σ',fJ,BE⟩:=hq
     split at BE
     ·rename_i e; rw[if_pos e]; exact ⟨DK,σ',fJ,BE⟩
     ·rename_i e; rw[if_neg e]; exact ⟨DK,σ',fJ,BE⟩
    ·exact hq
    ·exact hq
   ·simp at hs
 | .loop c,s,hs,σ,a,w,w0,Q,hf,hw,hv=>by
   simp only[strip] at hs
   split at hs
   ·rename_i s1 h1
    simp only[ae9.injEq] at hs; subst hs
    obtain ⟨α,I,En,μ,x₀,hI,hk,R7⟩:=hv
    refine wp_loop_ghost (fun m a w=>Same w0 w∧∃ x,F2 n dd keep [] (Jd keep (En x)) [] a∧I x w.heap∧μ x=m) (μ x₀) ⟨hw,x₀,hf.head hk,hI,rfl⟩ fun m a w ⟨hw,x,hf,hI,hm⟩=>?_
    refine wp_mono (dI c h1 hf hw (R7 x w.heap hI)) fun e a' w' hq=>?_
    cases e <;> simp only[QX,Exit.then,u4] at hq ⊢
    ·obtain ⟨DK,σ',fJ,y,ba,hk,hI'⟩:=hq
     exact ⟨μ y,hm ▸ ba,DK,y,fJ.head hk,hI',rfl⟩
    ·exact hq
    ·exact hq
    ·exact hq
   ·simp at hs
 | .rangeFunc ..,s,hs,σ,a,w,w0,Q,hf,hw,hv=>by simp[strip] at hs
 | .scope c,s,hs,σ,a,w,w0,Q,hf,hw,hv=>by
   simp only[strip] at hs
   refine wp_scope_straight (wp_mono (dI c hs hf hw hv) fun e a' w' hq=>?_)
   cases e <;> first | exact hq | exact hq.elim
 | .label _,s,hs,σ,a,w,w0,Q,hf,hw,hv=>by
   simp[strip] at hs; subst hs
   exact wp_label ⟨hw,σ,hf,hv⟩
 | .goto _,s,hs,σ,a,w,w0,Q,hf,hw,hv=>by simp[strip] at hs
 | .refuse _,s,hs,σ,a,w,w0,Q,hf,hw,hv=>by simp[strip] at hs
end
inductive RV where
 | tmp (t:cE)
 | cell (t:cE) (sz:Option Nat)
def RV.val (σ:bf) (H:Heap):RV→Option Value
 | .tmp t=>fO σ [] t
 | .cell t sz=>I0 H sz (fO σ [] t)
def j4 (σ:bf) (H:Heap):List RV→Option (List Value)
 | []=>some []
 | r :: rs=>match r.val σ H,j4 σ H rs with
   | some v,some vs=>some (v :: vs)
   | _,_=>none
def tv (R:Value→Heap→Prop) (H:Heap):Option (List Value)→Prop
 | some [v]=>R v H
 | some vs=>R (.tuple vs.toArray) H
 | none=>False
def u5 (rs:List RV) (R:Value→Heap→Prop):lF
 | .yg,σ,H=>tv R H (j4 σ H rs)
 | .ret,σ,H=>tv R H (j4 σ H rs)
 | .ext _,_,_=>False
def Jf:Option Value→Option Value
 | some v=>some v
 | none=>some undef
def pM:List Nat→List Value→bf
 | [],_=>[]
 | t :: r,vs=>Jf vs.toArray[t]? :: pM r vs
def vp (P:Program) (keep:List Nat):ResultVar→Option RV
 | .tmp t=>some (.tmp (cO keep [] (.tmp t)))
 | .cell a t=>match im P t with
   | some false=>some (.cell (cO keep [] (.tmp a)) none)
   | some true=>(cb P t).map fun n=>.cell (cO keep [] (.tmp a)) (some n)
   | none=>none
def iv (P:Program) (keep:List Nat):List ResultVar→Option (List RV)
 | []=>some []
 | r :: rs=>match vp P keep r,iv P keep rs with
   | some x,some xs=>some (x :: xs)
   | _,_=>none
structure Fn where
 n:Nat
 keep:List Nat
 code:cI
 res:List RV
def ai (P:Program) (keep:List Nat) (fn:Func):Option Fn:=
 if keep.all (fun t=>decide (t < fn.ntmps)) then
  match fn.body with
  | some c=>match strip P ⟨fn.ntmps,[]⟩ keep c,iv P keep fn.results.toList with
    | some s,some rs=>some ⟨fn.ntmps,keep,s,rs⟩
    | _,_=>none
  | none=>none
 else none
section
variable {P:Program}
theorem BF:∀ {keep:List Nat} {vs:List Value} {t k:Nat} {v:Value},posOf keep t=some k→(pM keep vs)[k]?=some (some v)→vs[t]?=some v∨(vs[t]?=none∧v=undef)
 | [],vs,t,k,v,h,_=>by simp[posOf] at h
 | x :: r,vs,t,k,v,h,hv=>by
   simp only[posOf] at h
   split at h
   ·rename_i e; subst e; simp at h; subst h
    simp only[pM,List.getElem?_cons_zero,ae9.injEq] at hv
    have e:vs.toArray[x]?=vs[x]?:=by simp
    rw[e] at hv
    cases hx:vs[x]? with
    | none=>rw[hx] at hv; simp[Jf] at hv; exact .inr ⟨rfl,hv.symm⟩
    | some u=>rw[hx] at hv; simp[Jf] at hv; exact .inl (by rw[hv])
   ·split at h
    ·rename_i j hj; simp at h; subst h
     exact BF hj (by simpa [pM] using hv)
    ·cases h
theorem lH {n:Nat} {dd:DD} {keep:List Nat} {vs:List Value} (h:vs.length≤n) (hk:keep.all (fun t=>decide (t < n))=true):F2 ⟨n,[]⟩ ⟨[],dd.fix⟩ keep [] (pM keep vs) [] { tmps:=vs.toArray ++ afA (n - vs.toArray.size) undef,defers:=[] }:=by
 refine ⟨by simp; omega,⟨rfl,fun t ht=>by cases ht⟩,fun t k v ht hv=>?_,fun t k v _ hk _=>by simp[posOf] at hk⟩
 have htn:t < n:=by
  have:=List.mem_of_getElem? (lC ht)
  have:=afg.1 hk t this
  simpa using this
 rcases BF ht hv with h1 | ⟨h1,rfl⟩
 ·have ba:t < vs.length:=by
   rcases ae8 t vs.length with h | h
   ·exact h
   ·rw[List.getElem?_eq_none h] at h1; cases h1
  simp[Array.getElem?_append,ba]
  simpa [ba] using h1
 ·have nf:vs.length≤t:=by
   rcases ae8 t vs.length with h | h
   ·rw[List.getElem?_eq_getElem h] at h1; cases h1
   ·exact h
  rw[Array.getElem?_append_right (by simpa using nf)]
  simp[Array.getElem?_replicate]; omega
theorem wa {a:Nat} {t:TypeId} {r:RV} {n:Nx} {dd:DD} {keep:List Nat} {σ:bf} {act:Act} (h:vp P keep (.cell a t)=some r) (hf:F2 n dd keep [] σ [] act) {w:World} {v:Value} (hv:r.val σ w.heap=some v) :
 (do loadVar t (← asAddr (act.tmps.getD a undef)):Sem Value).run P w= .ok v w:=by
 have key:∀ sz,(sz=none∧im P t=some false∨∃ n,sz=some n∧im P t=some true∧cb P t=some n)→I0 w.heap sz (fO σ [] (cO keep [] (.tmp a)))=some v→(do loadVar t (← asAddr (act.tmps.getD a undef)):Sem Value).run P w= .ok v w:=by
  intro sz dO hv
  unfold I0 at hv
  split at hv
  ·rename_i ad hx
   have:act.tmps.getD a undef= .pointer (some ad):=by simp[afm,hf.tmp hx]
   simp[this,asAddr,DA dO hv]
  ·simp at hv
 simp only[vp] at h
 split at h
 ·rename_i zS; simp at h; subst h; exact key none (.inl ⟨rfl,zS⟩) hv
 ·rename_i zS
  simp only[afe] at h
  obtain ⟨k,hk,rfl⟩:=h
  exact key (some k) (.inr ⟨k,rfl,zS,hk⟩) hv
 ·simp at h
theorem uE {n:Nx} {dd:DD} {keep:List Nat} {σ:bf} {act:Act} (hf:F2 n dd keep [] σ [] act) {w:World} {f:ResultVar→Sem Value} (bY:∀ t,f (.tmp t)=pure (act.tmps.getD t undef)) (cQ:∀ a t,f (.cell a t)=do loadVar t (← asAddr (act.tmps.getD a undef))) :
 ∀ {rs:List ResultVar} {xs:List RV} {vs:List Value},iv P keep rs=some xs→j4 σ w.heap xs=some vs→(rs.mapM f).run P w= .ok vs w
 | [],xs,vs,h,hv=>by simp[iv] at h; subst h; simp[j4] at hv; subst hv; simp
 | r :: rs,xs,vs,h,hv=>by
   simp only[iv] at h
   split at h
   ·rename_i x xs' h1 h2
    simp at h; subst h
    simp only[j4] at hv
    split at hv
    ·rename_i v vs' h3 h4
     simp at hv; subst hv
     have ih:=uE hf bY cQ h2 h4
     have hr:(f r).run P w= .ok v w:=by
      cases r with
      | tmp t=>
        simp[vp] at h1; subst h1
        simp only[RV.val] at h3
        simp[bY,afm,hf.tmp h3]
      | cell a t=>rw[cQ]; exact wa h1 hf h3
     simp only[afB,afc,hr,ae7,ih,afk]
    ·simp at hv
   ·simp at h
theorem j5 {fn:Func} {n:Nx} {dd:DD} {keep:List Nat} {σ:bf} {act:Act} (hf:F2 n dd keep [] σ [] act) {w:World} {xs:List RV} {vs:List Value} (h:iv P keep fn.results.toList=some xs) (hv:j4 σ w.heap xs=some vs) :
 (results fn act.tmps).run P w= .ok (match vs with | [v]=>v | vs=>.tuple vs.toArray) w:=by
 simp only[results,afx,afc,Sem.run_map]
 rw[uE hf (fun _=>rfl) (fun _ _=>rfl) h hv]
 simp only[ae7,afk]
 match vs with
 | []=>rfl
 | [v]=>rfl
 | v :: u :: r=>simp
theorem aK {f:Nat} {fn:Func} {keep:List Nat} {F:Fn} {args:List Value} {H:Heap} {R:Value→Heap→Prop} {E:cd→Heap→Prop} (hf:P.funcs[f]?=some fn) (hs:ai P keep fn=some F)
 (hn:args.length≤F.n) (h:vc P E F.code (pM F.keep args) H (u5 F.res R)):bU P f args.toArray H R E:=by
 unfold ai at hs
 split at hs
 case isFalse=>cases hs
 rename_i DL
 split at hs
 ·rename_i c hb
  split at hs
  ·rename_i s rs h1 h2
   simp at hs; subst hs
   intro w hw
   subst hw
   refine calls_of_wp hf hb ?_
   refine wp_mono (dI c h1 (lH (dd:=⟨[],fun _=>undef⟩) hn DL) (Same.refl w) h) fun e a w' hq=>?_
   have fin:∀ σ,F2 ⟨fn.ntmps,[]⟩ ⟨[],fun _=>undef⟩ keep [] σ [] a→Same w w'→tv R w'.heap (j4 σ w'.heap rs)→a.defers=[]∧∃ v,(results fn a.tmps).run P w'= .ok v w'∧pI R E w (.returned v) w':=by
    intro σ fp gC cg
    refine ⟨fp.ir.1,?_⟩
    cases hr:j4 σ w'.heap rs with
    | none=>rw[hr] at cg; exact cg.elim
    | some vs=>
      rw[hr] at cg
      refine ⟨_,j5 fp h2 hr,?_,gC⟩
      match vs,cg with
      | [],cg=>exact cg
      | [v],cg=>exact cg
      | v :: u :: r,cg=>exact cg
   cases e <;> simp only[QX,bodyPost,u5] at hq ⊢
   ·obtain ⟨gC,σ,fp,cg⟩:=hq; exact fin σ fp gC cg
   ·obtain ⟨_,_,_,cg⟩:=hq; exact cg
   ·obtain ⟨gC,σ,fp,cg⟩:=hq; exact fin σ fp gC cg
   ·obtain ⟨gC,Jg,hE⟩:=hq; exact ⟨Jg.1,hE,gC⟩
  ·simp at hs
 ·simp at hs
theorem af {f:Nat} {fn:Func} {keep:List Nat} {F:Fn} {args:List Value} {H:Heap} {R:Value→Heap→Prop} (hf:P.funcs[f]?=some fn) (hs:ai P keep fn=some F)
 (hn:args.length≤F.n) (h:vc P (fun _ _=>False) F.code (pM F.keep args) H (u5 F.res R)):aE P f args.toArray H R:=aK hf hs hn h
end
end Gx
