import Derived.Test.YtdhlibkdcldioaaGreatB2
import Derived.Laws.BytesArg
import Derived.Laws.IdiomStrings
import Derived.Laws.MakeOwn
namespace Gx
open Go
inductive SOp (O:Type) where
 | v (e:PE O)
 | ld (sz:Option Nat) (x:O)
 | st (n:Nat) (a x:O)
 | al (t:Nat) (zero:List Value)
 | bx (t:Nat) (x:O)
 | bs (t n:Nat) (zero:List Value) (parts:List (Nat × Nat × O))
 | ap (t tx:Nat) (s x:O)
 | mk (t size bytes:Nat) (zero:Value) (l c:O)
 | call (f:Nat) (args:List O)
 | cv (f:O) (args:List O)
 | b2s (x:O)
 | s2b (t:Nat) (x:O)
 | pnc (x:O)
 | mks (x:O)
def cellsFrom (H:Heap) (a:Addr) (i:Nat):Nat→Option (List Value)
 | 0=>some []
 | n + 1=>match cellAt H (a.add i),cellsFrom H a (i + 1) n with
   | some v,some vs=>some (v :: vs)
   | _,_=>none
def ldV (H:Heap) (sz:Option Nat) (a:Addr):Option Value:=
 match sz with
 | none=>cellAt H a
 | some n=>match cellsFrom H a 0 n with
   | some vs=>some (.agg vs.toArray)
   | none=>none
def ldN (H:Heap) (sz:Option Nat):Option Value→Option Value
 | some (.pointer (some a))=>ldV H sz a
 | _=>none
def bytesFrom (H:Heap) (a:Addr) (i:Nat):Nat→Option (List UInt8)
 | 0=>some []
 | n + 1=>match cellAt H (a.add i),bytesFrom H a (i + 1) n with
   | some (.int .u8 m),some r=>some (UInt8.ofNat m.toNat :: r)
   | _,_=>none
def b2sN (H:Heap):Option Value→Option Value
 | some (.slice none _ _)=>some (.string ⟨⟨[]⟩⟩)
 | some (.slice (some a) n _)=>match bytesFrom H a 0 n with
   | some l=>some (.string ⟨⟨l⟩⟩)
   | none=>none
 | _=>none
def Sto (H:Heap) (a:Addr):List Value→Nat→(Heap→Prop)→Prop
 | [],_,R=>R H
 | v :: vs,i,R=>v.oneCell'=true∧(∃ u,cellAt H (a.add i)=some u)∧frozenAt H (a.add i)=false∧Sto (setCellH H (a.add i) v) a vs (i + 1) R
def NewP (H:Heap) (t:Nat) (cs:List Value) (R:Value→Heap→Prop):Prop:=R (.pointer (some ⟨H.size,0,none⟩)) (H.push (.cells cs.toArray t))
def NewS (H:Heap) (t n:Nat) (cs:List Value) (R:Value→Heap→Prop):Prop:=R (.slice (some ⟨H.size,0,none⟩) n n) (H.push (.cells cs.toArray t))
def App (P:Program) (ts tx ty:TypeId) (H:Heap) (s x:Value) (R:Value→Heap→Prop):Prop:=
 ∀ w:World,w.heap=H→∃ v w',(Builtin.append_ #[ts,tx] ty #[s,x]).run P w= .ok v w'∧R v w'.heap∧Same w w'
def Mk (H:Heap) (t size:Nat) (zero:Value) (l c:Int) (bytes:Nat) (R:Value→Heap→Prop):Prop:=
 0≤l∧l≤c∧c≤9223372036854775807∧(bytes:Int) * c≤281474976710656∧R (.slice (some ⟨H.size,0,none⟩) l.toNat c.toNat) (H.push (.cells (madeCells zero.cells (c.toNat * size)) t))
def S2b (H:Heap) (t:Nat) (s:ByteArray) (R:Value→Heap→Prop):Prop:=
 ∀ cap,s.size≤cap→R (.slice (some ⟨H.size,0,none⟩) s.size cap) (H.push (.cells (bytesRow s cap) t ((bytesRow s cap).size,(bytesRow s cap).size + 1)))
def hasBody (P:Program) (f:Nat):Bool:=
 match P.funcs[f]? with
 | some fn=>fn.body.isSome && !(fn.name == "runtime.NumGoroutine")
 | none=>false
def vN (H:Heap) (R:Value→Heap→Prop):Option (Prop × Value)→Prop
 | some (p,v)=>p∧R v H
 | none=>False
def rdN (H:Heap) (R:Value→Heap→Prop):Option Value→Prop
 | some v=>R v H
 | none=>False
def stN (H:Heap) (n:Nat) (R:Value→Heap→Prop):Option Value→Option Value→Prop
 | some (.pointer (some a)),some v=>v.cells.size=n∧Sto H a v.cells.toList 0 (R undef)
 | _,_=>False
def bxN (H:Heap) (t:Nat) (R:Value→Heap→Prop):Option Value→Prop
 | some v=>NewP H t v.cells.toList R
 | none=>False
def bsN (H:Heap) (t n:Nat) (zero:List Value) (R:Value→Heap→Prop):Option (List (Nat × Nat × Value))→Prop
 | some ps=>match fillV zero ps with
   | some cs=>NewS H t n cs R
   | none=>False
 | none=>False
def apN (P:Program) (t tx:Nat) (H:Heap) (R:Value→Heap→Prop):Option Value→Option Value→Prop
 | some s,some x=>App P t tx t H s x R
 | _,_=>False
def callN (P:Program) (E:Chain→Heap→Prop) (f:Nat) (H:Heap) (R:Value→Heap→Prop):Option (List Value)→Prop
 | some vs=>PCalls P f vs.toArray H R E
 | none=>False
def cvN (P:Program) (E:Chain→Heap→Prop) (H:Heap) (R:Value→Heap→Prop):Option Value→Option (List Value)→Prop
 | some (.func (.func f) first captured),some vs=>hasBody P f=true∧PCalls P f (first ++ vs.toArray ++ captured) H R E
 | _,_=>False
def mkN (H:Heap) (t size bytes:Nat) (zero:Value) (R:Value→Heap→Prop):Option Value→Option Value→Prop
 | some (.int .i64 l),some (.int .i64 c)=>Mk H t size zero l c bytes R
 | _,_=>False
def pncN (E:Chain→Heap→Prop) (H:Heap):Option Value→Prop
 | some (.iface t v)=>E [{ v:=.iface t v,recovered:=false }] H
 | _=>False
def frzH (H:Heap) (b n:Nat):Heap:=
 H.modify b fun
  | .cells c elem (lo,hi)=>.cells c elem (if lo == hi then (n,n + 1) else (min lo n,max hi (n + 1)))
  | o=>o
def Mks (H:Heap) (a:Addr) (R:Heap→Prop):Prop:=∃ c e f,H[a.block]?=some (.cells c e f)∧R (frzH H a.block c.size)
def mksN (H:Heap) (R:Value→Heap→Prop):Option Value→Prop
 | some (.slice (some a) n c)=>Mks H a (R (.slice (some a) n c))
 | _=>False
def s2bN (H:Heap) (t:Nat) (R:Value→Heap→Prop):Option Value→Prop
 | some (.string s)=>S2b H t s R
 | _=>False
def SOp.vc {O:Type} (P:Program) (E:Chain→Heap→Prop) (ev:O→Option Value) (H:Heap) (R:Value→Heap→Prop):SOp O→Prop
 | .v e=>vN H R (e.val ev)
 | .ld sz x=>rdN H R (ldN H sz (ev x))
 | .st n a x=>stN H n R (ev a) (ev x)
 | .al t z=>NewP H t z R
 | .bx t x=>bxN H t R (ev x)
 | .bs t n z ps=>bsN H t n z R (partsE ev ps)
 | .ap t tx s x=>apN P t tx H R (ev s) (ev x)
 | .mk t s b z l c=>mkN H t s b z R (ev l) (ev c)
 | .call f args=>callN P E f H R (evs ev args)
 | .cv f args=>cvN P E H R (ev f) (evs ev args)
 | .b2s x=>rdN H R (b2sN H (ev x))
 | .s2b t x=>s2bN H t R (ev x)
 | .pnc x=>pncN E H (ev x)
 | .mks x=>mksN H R (ev x)
def zeroOffs (size:Nat):List (Nat × Operand)→List (Nat × Nat × Operand)
 | []=>[]
 | (i,x) :: r=>(i * size,size,x) :: zeroOffs size r
def zeroRow (zero:List Value):Nat→List Value
 | 0=>[]
 | n + 1=>zero ++ zeroRow zero n
def stripOp (P:Program) (o:Oper):Option (SOp Operand):=
 match stripPE P o.op with
 | some e=>some (.v e)
 | none=>
 match o.op with
 | .load t x=>
   match isAggB P t with
   | some false=>some (.ld none x)
   | some true=>(sizeOfB P t).map fun n=>.ld (some n) x
   | none=>none
 | .store t a x=>(sizeOfB P t).map fun n=>.st n a x
 | .alloc t=>(zeroOf P t).map fun z=>.al t z.cells.toList
 | .box t x=>some (.bx t x)
 | .buildSlice t n parts=>
   match P.underlying t with
   | some (.slice e)=>match sizeOfB P e,zeroOf P e with
     | some s,some z=>if z.cells.size=s∧0 < s∧n * s≤16777216 then some (.bs e n (zeroRow z.cells.toList n) (zeroOffs s parts.toList)) else none
     | _,_=>none
   | _=>none
 | .convert src dst x=>
   match P.underlying src,P.underlying dst with
   | some (.slice e),some .string=>match P.underlying e with
     | some (.int .u8)=>some (.b2s x)
     | _=>none
   | some .string,some (.slice e)=>match P.underlying e with
     | some (.int .u8)=>some (.s2b e x)
     | _=>none
   | some (.slice _),some (.slice e)=>match P.underlying e with
     | some (.int .u8)=>if src=dst then some (.mks x) else none
     | _=>none
   | _,_=>none
 | .makeSlice t l c=>
   match P.underlying t with
   | some (.slice e)=>match sizeOfB P e,zeroOf P e,(P.info? e).map (·.bytes) with
     | some s,some z,some b=>if z.cells.size=s then some (.mk e s b z l c) else none
     | _,_,_=>none
   | _=>none
 | .call { callee:=.builtin .append,args,argTypes }=>
   match argTypes.toList,args.toList with
   | [t,t'],[s,x]=>some (.ap t t' s x)
   | _,_=>none
 | .call { callee:=.value (.func f),args,argTypes:=_ }=>if hasBody P f then some (.call f args.toList) else none
 | .call { callee:=.value f,args,argTypes:=_ }=>some (.cv f args.toList)
 | .panic x=>some (.pnc x)
 | _=>none
section
variable {P:Program}
theorem run_zero {t:TypeId} {z:Value} (h:zeroOf P t=some z) (w:World):(zeroValue t).run P w= .ok z w:=by
 simp only [zeroOf,Option.bind_eq_some_iff] at h
 obtain ⟨i,hi,hz⟩:=h
 simp [zeroValue,run_info hi,hz]
theorem run_cellsFrom:∀ (n i:Nat) (a:Addr) (w:World) (vs:List Value) (acc:Array Value),cellsFrom w.heap a i n=some vs→(loadCellsFrom a i n acc).run P w= .ok (acc ++ vs.toArray) w
 | 0,i,a,w,vs,acc,h=>by simp [cellsFrom] at h; simp [loadCellsFrom,h]
 | n + 1,i,a,w,vs,acc,h=>by
   simp only [cellsFrom] at h
   split at h
   ·rename_i v vs' h1 h2
    simp at h; subst h
    have:w.cell? (a.add i)=some v:=h1
    simp only [loadCellsFrom,Sem.run_bind,run_load,this,Result.andThen_ok,run_cellsFrom n (i + 1) a w vs' _ h2]
    simp
   ·simp at h
theorem run_cells {n:Nat} {a:Addr} {w:World} {vs:List Value} (h:cellsFrom w.heap a 0 n=some vs):(loadCells a n).run P w= .ok vs.toArray w:=by
 simp [loadCells,run_cellsFrom n 0 a w vs #[] h]
theorem run_ld {t:TypeId} {a:Addr} {w:World} {v:Value} {sz:Option Nat} (hsz:sz=none∧isAggB P t=some false∨∃ n,sz=some n∧isAggB P t=some true∧sizeOfB P t=some n)
 (h:ldV w.heap sz a=some v):(loadVar t a).run P w= .ok v w:=by
 rcases hsz with ⟨rfl,ha⟩ | ⟨n,rfl,ha,hn⟩
 ·simp only [ldV] at h
  have:w.cell? a=some v:=h
  simp [loadVar,run_isAgg ha,this]
 ·simp only [ldV] at h
  split at h
  ·rename_i vs hvs
   simp at h; subst h
   simp [loadVar,run_isAgg ha,run_size hn,run_cells hvs]
  ·simp at h
theorem run_sto:∀ (vs:List Value) (i:Nat) (a:Addr) (w:World) (R:Heap→Prop),Sto w.heap a vs i R→∃ w',(storeCells a vs i).run P w= .ok () w'∧R w'.heap∧Same w w'
 | [],i,a,w,R,h=>⟨w,by simp [storeCells],h,Same.refl w⟩
 | v :: vs,i,a,w,R,h=>by
   obtain ⟨h1,⟨u,h2⟩,h3,h4⟩:=h
   obtain ⟨w',e,hR,hs⟩:=run_sto vs (i + 1) a (w.setCell (a.add i) v) R h4
   refine ⟨w',?_,hR,⟨hs.os,hs.tape,hs.output⟩⟩
   have e2:w.cell? (a.add i)=some u:=h2
   have e3:w.frozen? (a.add i)=false:=h3
   simp only [storeCells,Sem.run_bind,run_store P w _ v _ h1,e2,e3,Bool.false_eq_true,if_false,Result.andThen_ok,e]
theorem run_bytes:∀ (n i:Nat) (a:Addr) (w:World) (l:List UInt8),bytesFrom w.heap a i n=some l→∃ ns:List Int,cellsFrom w.heap a i n=some (ns.map (Value.int .u8))∧ns.map (fun m=>UInt8.ofNat m.toNat)=l
 | 0,i,a,w,l,h=>by simp [bytesFrom] at h; subst h; exact ⟨[],rfl,rfl⟩
 | n + 1,i,a,w,l,h=>by
   simp only [bytesFrom] at h
   split at h
   ·rename_i m r h1 h2
    simp at h; subst h
    obtain ⟨ns,e1,e2⟩:=run_bytes n (i + 1) a w r h2
    exact ⟨m :: ns,by simp [cellsFrom,h1,e1],by simp [e2]⟩
   ·simp at h
theorem run_b2s {w:World} {x v:Value} (h:b2sN w.heap (some x)=some v):(Conv.bytesToString x).run P w= .ok v w:=by
 unfold b2sN at h
 split at h
 ·rename_i e; simp at e h; subst e; subst h; simp [Conv.bytesToString]; rfl
 ·rename_i a n c e
  simp at e; subst e
  split at h
  ·rename_i l hl
   simp at h; subst h
   obtain ⟨ns,e1,e2⟩:=run_bytes n 0 a w l hl
   rw [run_bytesToString w a n c ns (run_cells e1),foldl_push_bytes]
   simp [ByteArray.empty,ByteArray.emptyWithCapacity,e2]
   rfl
  ·simp at h
 ·simp at h
theorem run_callFunc {f:Nat} (hb:hasBody P f=true) (args:Array Value) (w:World):(callFunc f args).run P w= .ok (.enter f args) w:=by
 unfold hasBody at hb
 split at hb
 ·rename_i fn hf
  simp only [Bool.and_eq_true,Bool.not_eq_true'] at hb
  have n1:¬ fn.name= "runtime.NumGoroutine":=by simpa using hb.2
  have n2:¬ fn.body=none:=by intro e; simp [e] at hb
  simp [callFunc,hf,n1,n2]
 ·simp at hb
theorem zeroOffs_spec {size:Nat}:∀ {parts:List (Nat × Operand)},(zeroOffs size parts).length=parts.length∧∀ (j i:Nat) (x:Operand),parts[j]?=some (i,x)→(zeroOffs size parts)[j]?=some (i * size,size,x)
 | []=>⟨rfl,fun j i x hj=>by simp at hj⟩
 | (i,x) :: r=>by
   obtain ⟨hl,ih⟩:=zeroOffs_spec (size:=size) (parts:=r)
   refine ⟨by simp [zeroOffs,hl],fun j i' x' hj=>?_⟩
   cases j with
   | zero=>simp at hj; obtain ⟨rfl,rfl⟩:=hj; rfl
   | succ j=>simpa [zeroOffs] using ih j i' x' (by simpa using hj)
theorem zeroRow_eq (z:List Value) (hz:0 < z.length):∀ n,zeroRow z n=(List.range (n * z.length)).map (fun i=>z[i % z.length]!)
 | 0=>by simp [zeroRow]
 | n + 1=>by
   rw [zeroRow,zeroRow_eq z hz n,Nat.add_mul,Nat.one_mul,Nat.add_comm (n * z.length),List.range_add,List.map_append]
   congr 1
   ·apply List.ext_getElem
    ·simp
    ·intro i h1 h2
     simp only [List.getElem_map,List.getElem_range]
     rw [Nat.mod_eq_of_lt h1]
     simp [h1]
   ·simp [Function.comp_def]
theorem call_ok {f:Nat} {args:Array Value} {H:Heap} {R:Value→Heap→Prop} {E:Chain→Heap→Prop} (h:PCalls P f args H R E) {s:Sem Next} (hs:∀ w:World,w.heap=H→s.run P w= .ok (.enter f args) w) :
 ∀ w:World,w.heap=H→match s.run P w with
 | .ok (.value v) w'=>R v w'.heap∧Same w w'
 | .ok .skip w'=>R undef w'.heap∧Same w w'
 | .ok (.enter f args) w'=>Calls P f args w' (EndH R E w)
 | .halt (.panic v) w'=>E [{ v,recovered:=false }] w'.heap∧Same w w'
 | _=>False:=by
 intro w hw
 rw [hs w hw]
 exact h w hw
theorem val_ok {o:Oper} {ev:Operand→Value} {H:Heap} {R:Value→Heap→Prop} {E:Chain→Heap→Prop} (v:Value) (hR:R v H) (h:∀ w:World,w.heap=H→(execOp ev o).run P w= .ok (.value v) w):OpOk P E o ev H R:=
 OpVal.ok (v:=v) h hR
theorem new_ok {o:Oper} {ev:Operand→Value} {H:Heap} {R:Value→Heap→Prop} {E:Chain→Heap→Prop} (v:Value) (ob:Obj) (hR:R v (H.push ob)) (h:∀ w:World,w.heap=H→∃ w',(execOp ev o).run P w= .ok (.value v) w'∧w'.heap=H.push ob∧Same w w'):OpOk P E o ev H R:=by
 intro w hw
 obtain ⟨w',e,e2,e3⟩:=h w hw
 rw [e]
 exact ⟨e2 ▸ hR,e3⟩
theorem stripOp_ok {o:Oper} {ev:Operand→Option Value} {a:Act} {s:SOp Operand} {H:Heap} {R:Value→Heap→Prop} {E:Chain→Heap→Prop} (hs:stripOp P o=some s) (hf:Agree ev a)
 (hv:s.vc P E ev H R):OpOk P E o a.eval H R:=by
 unfold stripOp at hs
 split at hs
 ·rename_i e he
  simp at hs; subst hs
  simp only [SOp.vc,vN] at hv
  split at hv
  ·rename_i p v hval
   exact val_ok v hv.2 fun w _=>stripPE_ok he hf hval hv.1 w
  ·exact hv.elim
 ·split at hs
  case h_1 t x ho=>-- load
   have key:∀ sz,(sz=none∧isAggB P t=some false∨∃ n,sz=some n∧isAggB P t=some true∧sizeOfB P t=some n)→(SOp.ld sz x).vc P E ev H R→OpOk P E o a.eval H R:=by
    intro sz hsz hv
    simp only [SOp.vc,rdN] at hv
    split at hv
    ·rename_i v hld
     unfold ldN at hld
     split at hld
     ·rename_i ad hx
      refine val_ok v hv fun w hw=>?_
      simp [execOp,ho,hf.ev hx,Instr.loadAt,Instr.sureAddr,run_ld hsz (hw ▸ hld)]
     ·simp at hld
    ·exact hv.elim
   split at hs
   ·rename_i hag; simp at hs; subst hs; exact key none (.inl ⟨rfl,hag⟩) hv
   ·rename_i hag
    simp only [Option.map_eq_some_iff] at hs
    obtain ⟨k,hk,rfl⟩:=hs
    exact key (some k) (.inr ⟨k,rfl,hag,hk⟩) hv
   ·simp at hs
  case h_2 t ad x ho=>-- store
   simp only [Option.map_eq_some_iff] at hs
   obtain ⟨k,hk,rfl⟩:=hs
   simp only [SOp.vc,stN] at hv
   split at hv
   ·rename_i p v h1 h2
    intro w hw
    obtain ⟨w',e,hR,hsm⟩:=run_sto (P:=P) v.cells.toList 0 p w (R undef) (hw ▸ hv.2)
    have e':(storeCells p v.cells.toList).run P w= .ok () w':=e
    have:(execOp a.eval o).run P w= .ok .skip w':=by
     simp [execOp,ho,hf.ev h1,hf.ev h2,Instr.storeAt,Instr.sureAddr,storeVar,run_size hk,hv.1,e']
    rw [this]
    exact ⟨hR,hsm⟩
   ·exact hv.elim
  case h_3 t ho=>-- alloc
   simp only [Option.map_eq_some_iff] at hs
   obtain ⟨z,hz,rfl⟩:=hs
   refine new_ok _ _ hv fun w hw=>⟨w.alloc (.cells z.cells t),?_,?_,⟨rfl,rfl,rfl⟩⟩
   ·subst hw; simp [execOp,ho,Instr.alloc,run_zero hz,newVar,newRow]
   ·subst hw; rfl
  case h_4 t x ho=>-- box
   simp at hs; subst hs
   simp only [SOp.vc,bxN] at hv
   split at hv
   ·rename_i v h1
    refine new_ok _ _ hv fun w hw=>⟨w.alloc (.cells v.cells t),?_,?_,⟨rfl,rfl,rfl⟩⟩
    ·subst hw; simp [execOp,ho,hf.ev h1,Instr.box,newVar,newRow]
    ·subst hw; rfl
   ·exact hv.elim
  case h_5 t k parts ho=>-- buildSlice
   split at hs
   ·rename_i el hu
    split at hs
    ·rename_i sz z hsz hz
     split at hs
     ·rename_i hc
      simp at hs; subst hs
      simp only [SOp.vc,bsN] at hv
      split at hv
      ·rename_i qs hq
       split at hv
       ·rename_i cs hcs
        obtain ⟨hl1,h1⟩:=zeroOffs_spec (size:=sz) (parts:=parts.toList)
        obtain ⟨hl2,h2⟩:=parts_spec hq
        have hzl:z.cells.toList.length=sz:=by simpa using hc.1
        have hfill:=fill_ok (fun i=>some (i * sz,sz)) (parts.toList.map fun (i,x)=>(i,a.eval x)) qs _ cs (by simp [hl1,hl2])
         (fun j i v hj=>by
          simp only [List.getElem?_map,Option.map_eq_some_iff,Prod.mk.injEq] at hj
          obtain ⟨⟨i',x⟩,hp,rfl,rfl⟩:=hj
          obtain ⟨v,hv1,hv2⟩:=h2 j _ _ _ (h1 j i' x hp)
          exact ⟨_,_,rfl,by rw [hv2]; simp [hf.ev hv1]⟩) hcs
        have hrow:(zeroRow z.cells.toList k).toArray=(Array.range (k * sz)).map (fun i=>z.cells[i % z.cells.size]!):=by
         rw [zeroRow_eq _ (by omega)]
         apply Array.toList_inj.1
         rw [hzl]
         simp [hc.1]
         intro a _
         rw [getElem!_def]
         cases z.cells[a % sz]? <;> rfl
        refine new_ok _ _ hv fun w hw=>⟨w.alloc (.cells cs.toArray el),?_,by subst hw; rfl,⟨rfl,rfl,rfl⟩⟩
        subst hw
        have hn:¬ k * sz > 2 ^ 24:=by omega
        by_cases h0:k * sz=0
        ·have hk0:k=0:=by
          rcases Nat.mul_eq_zero.1 h0 with h | h
          ·exact h
          ·omega
         subst hk0
         simp only [zeroRow] at hfill
         have e0:(Array.map (fun x=>(#[]:Array Value)[x % (#[]:Array Value).size]!) (Array.range 0))=#[]:=by apply Array.toList_inj.1; simp
         simp only [execOp,ho,Instr.buildSlice,run_underlying hu,run_size hsz,Nat.zero_mul,show ¬ (0 > 2 ^ 24) from by omega,newRow,Sem.run_bind,Result.andThen_ok,if_true,if_false,Sem.run_pure,Array.toList_map,e0]
         rw [hfill]
         rfl
        ·rw [hrow] at hfill
         simp only [execOp,ho,Instr.buildSlice,run_underlying hu,run_size hsz,hn,h0,run_zero hz,newRow,Sem.run_bind,Result.andThen_ok,if_false,Sem.run_pure,Array.toList_map]
         rw [hfill]
         rfl
       ·exact hv.elim
      ·exact hv.elim
     ·simp at hs
    ·simp at hs
   ·simp at hs
  case h_6 src dst x ho=>-- convert
   split at hs
   ·rename_i el h1 h2
    split at hs
    ·rename_i h3
     simp at hs; subst hs
     simp only [SOp.vc,rdN] at hv
     split at hv
     ·rename_i v hb
      refine val_ok v hv fun w hw=>?_
      cases hx:ev x with
      | none=>rw [hx] at hb; simp [b2sN] at hb
      | some u=>
        rw [hx] at hb
        have hr:=run_b2s (P:=P) (hw ▸ hb)
        cases u with
        | slice ad l c=>simp [execOp,ho,hf.ev hx,run_convert_bytes_string w src dst el ad l c h1 h3 h2,hr]
        | _=>simp [b2sN] at hb
     ·exact hv.elim
    ·simp at hs
   ·rename_i el h1 h2
    split at hs
    ·rename_i h3
     simp at hs; subst hs
     simp only [SOp.vc,s2bN] at hv
     split at hv
     ·rename_i str hx
      intro w hw
      have hr:=run_bytes_of_string (P:=P) w src dst el str h1 h2 h3
      have:(execOp a.eval o).run P w= .ok (.value (.slice (some ⟨w.heap.size,0,none⟩) str.size (grownCap w str.size 0 el))) (w.drew.alloc (.cells (bytesRow str (grownCap w str.size 0 el)) el ((bytesRow str (grownCap w str.size 0 el)).size,(bytesRow str (grownCap w str.size 0 el)).size + 1))):=by
       simp [execOp,ho,hf.ev hx,hr]
      rw [this]
      have:=hv (grownCap w str.size 0 el) (grownCap_ge _ _ _ _)
      subst hw
      exact ⟨this,⟨rfl,rfl,rfl⟩⟩
     ·exact hv.elim
    ·simp at hs
   ·rename_i el' el h1 h2
    split at hs
    ·rename_i h3
     split at hs
     ·rename_i hc
      simp at hs; subst hs
      simp only [SOp.vc,mksN] at hv
      split at hv
      ·rename_i ad n c hx
       obtain ⟨cc,ee,ff,hb,hR⟩:=hv
       intro w hw
       have hsh:w.shape? ad.block=some (ee,cc.size):=by
        unfold World.shape?; rw [hw,hb]
       have:(execOp a.eval o).run P w= .ok (.value (.slice (some ad) n c)) (w.freeze ⟨ad.block,cc.size,none⟩ 1):=by
        subst hc
        rw [h1] at h2; cases h2
        simp [execOp,ho,hf.ev hx,convert,run_underlying h1,run_underlying h3,markStringish,hsh]
       rw [this]
       have e:(w.freeze ⟨ad.block,cc.size,none⟩ 1).heap=frzH H ad.block cc.size:=by
        subst hw; rfl
       refine ⟨by rw [e]; exact hR,⟨rfl,rfl,rfl⟩⟩
      ·exact hv.elim
     ·simp at hs
    ·simp at hs
   ·simp at hs
  case h_7 t l c ho=>-- makeSlice
   split at hs
   ·rename_i el hu
    split at hs
    ·rename_i sz z b hsz hz hb
     split at hs
     ·simp at hs; subst hs
      simp only [SOp.vc,mkN] at hv
      split at hv
      ·rename_i lv cv h1 h2
       obtain ⟨g1,g2,g3,g4,g5⟩:=hv
       simp only [zeroOf,Option.bind_eq_some_iff] at hz
       obtain ⟨i,hi,hz⟩:=hz
       simp only [sizeOfB,hi,Option.map_some,Option.some.injEq] at hsz hb
       refine new_ok _ _ g5 fun w hw=>⟨w.alloc (.cells (madeCells z.cells (cv.toNat * sz)) el),?_,by subst hw; rfl,⟨rfl,rfl,rfl⟩⟩
       subst hw
       simp [execOp,ho,hf.ev h1,hf.ev h2,run_make w t el i z hu hi hz .i64 .i64 lv cv g1 g2 (by rw [hb]; exact g4) g3,hsz]
      ·exact hv.elim
     ·simp at hs
    ·simp at hs
   ·simp at hs
  case h_8 args argTypes ho=>-- append
   split at hs
   ·rename_i t t' x y ht hx
    simp at hs; subst hs
    simp only [SOp.vc,apN] at hv
    split at hv
    ·rename_i s' x' h1 h2
     intro w hw
     obtain ⟨v,w',e,hR,hsm⟩:=hv w hw
     have e1:argTypes=#[t,t']:=Array.toList_inj.1 ht
     have e2:args=#[x,y]:=Array.toList_inj.1 hx
     have e3:(Builtin.append_ #[t,t'] o.type #[s',x']).run P w= .ok v w':=e
     have:(execOp a.eval o).run P w= .ok (.value v) w':=by
      simp [execOp,ho,e1,e2,resolve,invoke,builtin,hf.ev h1,hf.ev h2,e3]
     rw [this]
     exact ⟨hR,hsm⟩
    ·exact hv.elim
   ·simp at hs
  case h_9 f args argTypes ho=>-- call
   split at hs
   ·rename_i hb
    simp at hs; subst hs
    simp only [SOp.vc,callN] at hv
    split at hv
    ·rename_i vs he
     exact call_ok hv fun w _=>by
      simp [execOp,ho,resolve,Act.eval,Deferred.ofValue,invoke,evs_some hf he,run_callFunc hb]
    ·exact hv.elim
   ·simp at hs
  case h_10 f args argTypes _ ho=>-- a function value
   simp at hs; subst hs
   simp only [SOp.vc,cvN] at hv
   split at hv
   ·rename_i g first caps vs h1 h2
    obtain ⟨hb,hv⟩:=hv
    exact call_ok hv fun w _=>by
     simp [execOp,ho,resolve,hf.ev h1,Deferred.ofValue,invoke,evs_some hf h2,run_callFunc hb]
   ·exact hv.elim
  case h_11 x ho=>-- panic
   simp at hs; subst hs
   simp only [SOp.vc,pncN] at hv
   split at hv
   ·rename_i t v h1
    intro w hw
    have:(execOp a.eval o).run P w= .halt (.panic (.iface t v)) w:=by
     simp [execOp,ho,hf.ev h1,Instr.panic,goPanic]
    rw [this]
    exact ⟨hw ▸ hv,Same.refl _⟩
   ·exact hv.elim
  case h_12=>simp at hs
end
end Gx
