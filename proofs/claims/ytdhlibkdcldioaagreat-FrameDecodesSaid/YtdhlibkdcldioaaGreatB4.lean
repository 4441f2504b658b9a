import Derived.Test.YtdhlibkdcldioaaGreatB3
import Derived.Deep.Quiet
section
namespace Gx
open Go
inductive Opd where
 | t (k:Nat)
 | s (k:Nat)
 | c (v:Value)
 | g (n:Nat)
 | f (n:Nat)
 | u
abbrev Slots:=List (Option Value)
def jn:Option (Option Value)→Option Value
 | some x=>x
 | none=>none
def evO (σ:Slots) (τ:List Value):Opd→Option Value
 | .t k=>τ.toArray[k]?
 | .s k=>jn (σ.toArray[k]?)
 | .c v=>some v
 | .g n=>some (.pointer (some ⟨n,0,none⟩))
 | .f n=>some (.func (.func n) #[] #[])
 | .u=>none
def posOf:List Nat→Nat→Option Nat
 | [],_=>none
 | x :: r,t=>if x=t then some 0 else match posOf r t with
   | some k=>some (k + 1)
   | none=>none
def cO (keep lay:List Nat):Operand→Opd
 | .tmp t=>match posOf keep t with
   | some k=>.s k
   | none=>match posOf lay t with
     | some k=>.t k
     | none=>.u
 | .const v=>.c v
 | .global g=>.g g
 | .func f=>.f f
section
variable {O O':Type}
def PE.map (m:O→O'):PE O→PE O'
 | .mv x=>.mv (m x)
 | .pick c a b=>.pick (m c) (m a) (m b)
 | .bin op x y=>.bin op (m x) (m y)
 | .beq n x y=>.beq n (m x) (m y)
 | .steq n ks x y=>.steq n ks (m x) (m y)
 | .isnil n x=>.isnil n (m x)
 | .isnils n x=>.isnils n (m x)
 | .un op x=>.un op (m x)
 | .cvi k x=>.cvi k (m x)
 | .cvs x=>.cvs (m x)
 | .fa off x=>.fa off (m x)
 | .ix s x i=>.ix s (m x) (m i)
 | .six x i=>.six (m x) (m i)
 | .sl s x lo hi=>.sl s (m x) (lo.map m) (hi.map m)
 | .ssl x lo hi=>.ssl (m x) (lo.map m) (hi.map m)
 | .len x=>.len (m x)
 | .slen x=>.slen (m x)
 | .fld1 off x=>.fld1 off (m x)
 | .fldA off s x=>.fldA off s (m x)
 | .ext x i=>.ext (m x) i
 | .mm b x y=>.mm b (m x) (m y)
 | .nc x=>.nc (m x)
 | .mkf f first caps=>.mkf f (first.map m) (caps.map m)
 | .mki t x=>.mki t (m x)
 | .isnilf n x=>.isnilf n (m x)
 | .tya t z x=>.tya t z (m x)
 | .tyb t x=>.tyb t (m x)
 | .bld z ps=>.bld z (ps.map fun p=>(p.1,p.2.1,m p.2.2))
 | .ixa s n x i=>.ixa s n (m x) (m i)
def SOp.map (m:O→O'):SOp O→SOp O'
 | .v e=>.v (e.map m)
 | .ld sz x=>.ld sz (m x)
 | .st n a x=>.st n (m a) (m x)
 | .al t z=>.al t z
 | .bx t x=>.bx t (m x)
 | .bs t n z ps=>.bs t n z (ps.map fun p=>(p.1,p.2.1,m p.2.2))
 | .ap t tx s x=>.ap t tx (m s) (m x)
 | .mk t s b z l c=>.mk t s b z (m l) (m c)
 | .call f args=>.call f (args.map m)
 | .cv f args=>.cv (m f) (args.map m)
 | .b2s x=>.b2s (m x)
 | .s2b t x=>.s2b t (m x)
 | .pnc x=>.pnc (m x)
 | .mks x=>.mks (m x)
theorem evs_map (m:O→O') (ev:O'→Option Value):∀ xs:List O,evs ev (xs.map m)=evs (fun x=>ev (m x)) xs
 | []=>rfl
 | x :: xs=>by simp only [List.map_cons,evs,evs_map m ev xs]
theorem partsE_map (m:O→O') (ev:O'→Option Value):∀ ps:List (Nat × Nat × O),partsE ev (ps.map fun p=>(p.1,p.2.1,m p.2.2))=partsE (fun x=>ev (m x)) ps
 | []=>rfl
 | (a,b,x) :: ps=>by simp only [List.map_cons,partsE,partsE_map m ev ps]
theorem bnd_map (m:O→O') (ev:O'→Option Value):∀ x:Option O,bnd ev (x.map m)=bnd (fun x=>ev (m x)) x
 | none=>rfl
 | some _=>rfl
theorem val_map (m:O→O') (ev:O'→Option Value) (e:PE O):(e.map m).val ev=e.val (fun x=>ev (m x)):=by
 cases e <;> simp only [PE.map,PE.val,evs_map,partsE_map,bnd_map]
theorem vc_map {P:Program} {E:Chain→Heap→Prop} {H:Heap} {R:Value→Heap→Prop} (m:O→O') (ev:O'→Option Value) (s:SOp O):(s.map m).vc P E ev H R=s.vc P E (fun x=>ev (m x)) H R:=by
 cases s <;> simp only [SOp.map,SOp.vc,val_map,evs_map,partsE_map]
def SOp.reads:SOp O→Bool
 | .v _ | .ld _ _ | .b2s _=>true
 | _=>false
def SOp.rd (ev:O→Option Value) (H:Heap):SOp O→Option (Prop × Value)
 | .v e=>e.val ev
 | .ld sz x=>mvN (ldN H sz (ev x))
 | .b2s x=>mvN (b2sN H (ev x))
 | _=>none
theorem rd_map {H:Heap} (m:O→O') (ev:O'→Option Value) (s:SOp O):(s.map m).rd ev H=s.rd (fun x=>ev (m x)) H:=by
 cases s <;> simp only [SOp.map,SOp.rd,val_map]
def SOp.total:SOp O→Bool
 | .v (.mv _) | .v (.un _ _) | .v (.cvi _ _) | .v (.cvs _) | .v (.len _) | .v (.slen _) | .v (.beq _ _ _) | .v (.fa _ _) | .v (.nc _) | .v (.fld1 _ _) | .v (.fldA _ _ _) | .ld _ _=>true
 | .v (.bin op _ _)=>match op with | .quo | .rem | .shl | .shr=>false | _=>true
 | _=>false
end
inductive Dst where
 | no
 | t
 | s (k:Nat)
def cD (keep:List Nat):Option Nat→Dst
 | none=>.no
 | some d=>match posOf keep d with
   | some k=>.s k
   | none=>.t
def layD (keep lay:List Nat):Option Nat→List Nat
 | none=>lay
 | some d=>match posOf keep d with
   | some _=>lay
   | none=>d :: lay
def putS (d:Dst) (v:Value) (σ:Slots):Slots:=
 match d with
 | .s k=>σ.set k (some v)
 | _=>σ
def putT (d:Dst) (v:Value) (τ:List Value):List Value:=
 match d with
 | .t=>v :: τ
 | _=>τ
def setS (x:Opd) (v:Value) (σ:Slots):Slots:=
 match x with
 | .s k=>σ.set k (some v)
 | _=>σ
def setT (x:Opd) (v:Value) (τ:List Value):List Value:=
 match x with
 | .t k=>τ.set k v
 | _=>τ
def gS (first:Bool) (x:Opd) (v:Value) (σ:Slots):Slots:=bif first then setS x v σ else σ
def gT (first:Bool) (x:Opd) (v:Value) (τ:List Value):List Value:=bif first then setT x v τ else τ
inductive In where
 | op (s:SOp Opd)
 | nst (t:Opd) (b:Bool) (inner:List In) (x y:Opd)
def selN:Option Value→Option Value→Option Value→Option Value
 | some (.bool c),some (.bool a),some (.bool b)=>some (.bool (bif c then a else b))
 | _,_,_=>none
def selV (σ:Slots) (τ:List Value) (t:Opd) (b:Bool) (x y:Opd):Option (Prop × List Value)→Option (Prop × Value)
 | some (p,τ')=>match evO σ τ t,selN (evO σ τ t) (evO σ (if b then τ' else τ) x) (evO σ (if b then τ else τ') y) with
   | some (.bool c),some v=>some ((c=b→p),v)
   | _,_=>none
 | none=>match evO σ τ t,evO σ τ (if b then y else x) with
   | some (.bool c),some (.bool v)=>some ((c= !b),.bool v)
   | _,_=>none
def inPush (v:Option (Prop × Value)) (τ:List Value):Option (Prop × List Value):=
 match v with
 | some (p,v)=>some (p,v :: τ)
 | none=>none
def inThen (f:List Value→Option (Prop × List Value)):Option (Prop × List Value)→Option (Prop × List Value)
 | some (p,τ')=>match f τ' with
   | some (q,τ'')=>some (p∧q,τ'')
   | none=>none
 | none=>none
mutual
def inE (H:Heap) (σ:Slots):In→List Value→Option (Prop × List Value)
 | .op s,τ=>inPush (s.rd (evO σ τ) H) τ
 | .nst t b inner x y,τ=>inPush (selV σ τ t b x y (innerE H σ inner τ)) τ
def innerE (H:Heap) (σ:Slots):List In→List Value→Option (Prop × List Value)
 | [],τ=>some (True,τ)
 | i :: r,τ=>inThen (fun τ'=>innerE H σ r τ') (inE H σ i τ)
end
inductive GOp where
 | op (g:Option (Opd × Bool × Bool)) (d:Dst) (s:SOp Opd)
 | sel (t:Opd) (b:Bool) (inner:List In) (d:Dst) (x y:Opd)
def guardOf:Option Value→Option (Option Bool)
 | some (.bool c)=>some (some c)
 | some (.tuple vs)=>if vs.isEmpty then some none else none
 | _=>none
def vcOps (P:Program) (E:Chain→Heap→Prop):List GOp→Slots→List Value→Heap→(Slots→Heap→Prop)→Prop
 | [],σ,_,H,K=>K σ H
 | .op none d s :: r,σ,τ,H,K=>s.vc P E (evO σ τ) H (fun v H'=>vcOps P E r (putS d v σ) (putT d v τ) H' K)
 | .op (some (t,b,fr)) d s :: r,σ,τ,H,K=>
   match guardOf (evO σ τ t) with
   | some (some c)=>(c=b→s.vc P E (evO (gS fr t (.bool b) σ) (gT fr t (.bool b) τ)) H (fun v H'=>vcOps P E r (putS d v (gS fr t (.bool b) σ)) (putT d v (gT fr t (.bool b) τ)) H' K))∧
    (c=(!b)→vcOps P E r (putS d undef (gS fr t (.bool (!b)) σ)) (putT d undef (gT fr t (.bool (!b)) τ)) H K)
   | some none=>vcOps P E r (putS d undef σ) (putT d undef τ) H K
   | none=>False
 | .sel t b inner d x y :: r,σ,τ,H,K=>vN H (fun v H'=>vcOps P E r (putS d v σ) (putT d v τ) H' K) (selV σ τ t b x y (innerE H σ inner τ))
structure Sense (P:Program) (E:Chain→Heap→Prop) where
 good:Oper→(Operand→Value)→Heap→(Value→Heap→Prop)→Prop
 allow:SOp Operand→Bool
 mono:∀ {o ev H} {R R':Value→Heap→Prop},good o ev H R→(∀ v H',R v H'→R' v H')→good o ev H R'
 ok:∀ {o s} {ev:Operand→Option Value} {a:Act} {H:Heap} {R:Value→Heap→Prop},stripOp P o=some s→allow s=true→Agree ev a→s.vc P E ev H R→good o a.eval H R
 ofVal:∀ {o ev H v} {R:Value→Heap→Prop},OpVal P o ev H v→R v H→good o ev H R
def RunL {P:Program} {E:Chain→Heap→Prop} (S:Sense P E) (ops:Array Oper) (Q:Act→Heap→Prop):List Oper→Act→Heap→Prop
 | [],a,H=>Q a H
 | o :: r,a,H=>if Region.wanted o (yielded ops a.tmps) then S.good o a.eval H (fun v H'=>RunL S ops Q r (a.put o.dst v) H') else RunL S ops Q r (a.put o.dst undef) H
def Sense.all (P:Program) (E:Chain→Heap→Prop):Sense P E where
 good:=OpOk P E
 allow:=fun _=>true
 mono:=OpOk.mono
 ok:=fun h _ hf hv=>stripOp_ok h hf hv
 ofVal:=OpVal.ok
def guardSlot (ops:List Oper):Option (Nat × Bool)→Option (Option (Nat × Bool))
 | none=>some none
 | some (j,b)=>match ops[j]? with
   | some o=>match o.dst with
     | some d=>some (some (d,b))
     | none=>none
   | none=>none
structure Nx where
 n:Nat
 fx:List Nat
structure DD where
 defers:List Deferred
 fix:Nat→Value
def dstOk (n:Nx):Option Nat→Bool
 | some d=>decide (d < n.n) && !n.fx.elem d
 | none=>true
def Fixed (n:Nx) (dd:DD) (a:Act):Prop:=a.defers=dd.defers∧∀ t,t ∈ n.fx→a.tmps[t]?=some (dd.fix t)
theorem dstOk_lt {n:Nx} {d:Nat} (h:dstOk n (some d)=true):d < n.n:=by
 simp only [dstOk,Bool.and_eq_true,decide_eq_true_eq] at h; exact h.1
theorem dstOk_ne {n:Nx} {d t:Nat} (h:dstOk n (some d)=true) (ht:t ∈ n.fx):d≠t:=by
 rintro rfl
 simp only [dstOk,Bool.and_eq_true,Bool.not_eq_true'] at h
 have:=h.2
 simp only [List.elem_eq_contains,List.contains_eq_mem,decide_eq_false_iff_not] at this
 exact this ht
theorem put_fx {n:Nx} {d:Option Nat} (h:dstOk n d=true) (v:Value) (a:Act) {t:Nat} (ht:t ∈ n.fx):(a.put d v).tmps[t]?=a.tmps[t]?:=by
 cases d with
 | none=>rfl
 | some d=>simp [Act.put,Array.getElem?_setIfInBounds_ne (dstOk_ne h ht)]
theorem put_defers (a:Act) (d:Option Nat) (v:Value):(a.put d v).defers=a.defers:=by cases d <;> rfl
theorem Fixed.put {n:Nx} {dd:DD} {a:Act} (h:Fixed n dd a) {d:Option Nat} (hd:dstOk n d=true) (v:Value):Fixed n dd (a.put d v):=
 ⟨(put_defers _ _ _).trans h.1,fun t ht=>(put_fx hd v a ht).trans (h.2 t ht)⟩
theorem Fixed.unput {n:Nx} {dd:DD} {a:Act} {d:Option Nat} {v:Value} (h:Fixed n dd (a.put d v)) (hd:dstOk n d=true):Fixed n dd a:=
 ⟨(put_defers _ _ _).symm.trans h.1,fun t ht=>(put_fx hd v a ht).symm.trans (h.2 t ht)⟩
theorem wpList_of_runL {P:Program} {E:Chain→Heap→Prop} {n:Nx} {dd:DD} {ops:Array Oper} {Q:Exit→Act→World→Prop} {Q':Act→Heap→Prop}:∀ (l:List Oper) (a:Act) (w w0:World),Same w0 w→
 Fixed n dd a→(∀ o ∈ l,dstOk n o.dst=true)→(∀ a w',Same w0 w'→Q' a w'.heap→Q .normal a w')→(∀ c a w',Fixed n dd a→Same w0 w'→E c w'.heap→Q (.panic c) a w')→RunL (Sense.all P E) ops Q' l a w.heap→wpList P ops Q l a w
 | [],a,w,w0,hs,hd,hl,h,hE,hr=>h a w hs hr
 | o :: r,a,w,w0,hs,hd,hl,h,hE,hr=>by
   unfold RunL at hr
   unfold wpList
   split
   ·rename_i hw; rw [if_pos hw] at hr
    exact .inl (OpOk.wp hr (fun v w' hR hs'=>wpList_of_runL r _ w' w0 (hs.trans hs') (hd.put (hl o (by simp)) _) (fun q hq=>hl q (by simp [hq])) h hE hR) fun c w' hc hs'=>hE c a w' hd (hs.trans hs') hc)
   ·rename_i hw; rw [if_neg hw] at hr
    exact wpList_of_runL r _ w w0 hs (hd.put (hl o (by simp)) _) (fun q hq=>hl q (by simp [hq])) h hE hr
structure RawG where
 g:Option (Nat × Bool)
 d:Option Nat
 s:SOp Operand
def stripG (P:Program) (n:Nx) (ops:List Oper) (o:Oper):Option RawG:=
 if dstOk n o.dst then
  match guardSlot ops o.guard,stripOp P o with
  | some g,some s=>some ⟨g,o.dst,s⟩
  | _,_=>none
 else none
def known (keep lay:List Nat) (t:Nat):Bool:=(posOf keep t).isSome || (posOf lay t).isSome
structure Grp where
 inner:List In
 d:Nat
 x:Operand
 y:Operand
 lay:List Nat
 rest:List RawG
def consIn (i:In):Option Grp→Option Grp
 | some g=>some { g with inner:=i :: g.inner }
 | none=>none
def asPick (t:Nat) (og:Option (Nat × Bool)) (r:RawG):Option (Nat × Operand × Operand):=
 match r.d,r.s with
 | some d,.v (.pick (.tmp t') x y)=>if t'=t∧r.g=og then some (d,x,y) else none
 | _,_=>none
def asRead (keep lay:List Nat) (t:Nat) (b:Bool) (r:RawG):Option Nat:=
 match r.d with
 | some d=>if r.g=some (t,b)∧known keep lay d=false∧r.s.total=true then some d else none
 | none=>none
def selIn (keep:List Nat):Nat→Nat→Bool→Option (Nat × Bool)→List Nat→List Nat→List RawG→Option Grp
 | 0,_,_,_,_,_,_=>none
 | _ + 1,_,_,_,_,_,[]=>none
 | k + 1,t,b,og,ds,lay,r :: rs=>
   if known keep lay t then
    match asPick t og r with
    | some (d,x,y)=>some ⟨[],d,x,y,lay,rs⟩
    | none=>
      match asRead keep lay t b r with
      | some d=>consIn (.op (r.s.map (cO keep lay))) (selIn keep k t b og (d :: ds) (d :: lay) rs)
      | none=>
        match r.g with
        | some (t',b')=>
          if ds.elem t' then
           match selIn keep k t' b' (some (t,b)) [] lay (r :: rs) with
           | some g=>if known keep lay g.d=false then
            consIn (.nst (cO keep lay (.tmp t')) b' g.inner (cO keep (if b' then g.lay else lay) g.x) (cO keep (if b' then lay else g.lay) g.y)) (selIn keep k t b og (g.d :: ds) (g.d :: lay) g.rest)
            else none
           | none=>none
          else none
        | none=>none
   else none
def comp (keep:List Nat):Nat→Option (Nat × Bool)→List Nat→List RawG→List GOp
 | 0,_,_,_=>[.op none .no (.v (.mv .u))]
 | _ + 1,_,_,[]=>[]
 | k + 1,pg,lay,r :: rs=>
   match r.g with
   | none=>.op none (cD keep r.d) (r.s.map (cO keep lay)) :: comp keep k none (layD keep lay r.d) rs
   | some (t,b)=>
     match (if pg=some (t,b) then none else selIn keep (rs.length + 2) t b none [] lay (r :: rs)) with
     | some g=>.sel (cO keep lay (.tmp t)) b g.inner (cD keep (some g.d)) (cO keep (if b then g.lay else lay) g.x) (cO keep (if b then lay else g.lay) g.y) :: comp keep k none (layD keep lay (some g.d)) g.rest
     | none=>.op (some (cO keep lay (.tmp t),b,!(pg=some (t,b)))) (cD keep r.d) (r.s.map (cO keep lay)) :: comp keep k (some (t,b)) (layD keep lay r.d) rs
end Gx
end
section
namespace Gx
open Go
theorem posOf_get:∀ {l:List Nat} {t k:Nat},posOf l t=some k→l[k]?=some t
 | [],t,k,h=>by simp [posOf] at h
 | x :: r,t,k,h=>by
   simp only [posOf] at h
   split at h
   ·rename_i e; simp at h; subst h; simp [e]
   ·split at h
    ·rename_i j hj; simp at h; subst h; simpa using posOf_get hj
    ·cases h
theorem posOf_inj {l:List Nat} {t t' k:Nat} (h:posOf l t=some k) (h':posOf l t'=some k):t=t':=by
 have h1:=posOf_get h
 have h2:=posOf_get h'
 rw [h1] at h2
 exact Option.some.inj h2
theorem posOf_cons_ne {d t:Nat} {l:List Nat} {k:Nat} (hne:d≠t) (h:posOf (d :: l) t=some k):∃ j,k=j + 1∧posOf l t=some j:=by
 simp only [posOf,if_neg hne] at h
 split at h
 ·rename_i j hj; simp at h; exact ⟨j,h.symm,hj⟩
 ·cases h
structure F2 (n:Nx) (dd:DD) (keep lay:List Nat) (σ:Slots) (τ:List Value) (a:Act):Prop where
 size:a.tmps.size=n.n
 fixd:Fixed n dd a
 slots:∀ t k v,posOf keep t=some k→σ[k]?=some (some v)→a.tmps[t]?=some v
 temps:∀ t k v,posOf keep t=none→posOf lay t=some k→τ[k]?=some v→a.tmps[t]?=some v
section
variable {P:Program} {E:Chain→Heap→Prop} {n:Nx} {dd:DD} {ops:Array Oper} {keep lay:List Nat} {σ:Slots} {τ:List Value} {a a' a'':Act}
theorem F2.tmp (h:F2 n dd keep lay σ τ a) {t:Nat} {v:Value} (hv:evO σ τ (cO keep lay (.tmp t))=some v):a.tmps[t]?=some v:=by
 simp only [cO] at hv
 split at hv
 ·rename_i k hk
  simp only [evO] at hv
  have:σ[k]?=some (some v):=by
   have e:σ.toArray[k]?=σ[k]?:=by simp
   rw [e] at hv
   cases hx:σ[k]? with
   | none=>rw [hx] at hv; simp [jn] at hv
   | some x=>rw [hx] at hv; simp only [jn] at hv; rw [hv]
  exact h.slots t k v hk this
 ·rename_i hk
  split at hv
  ·rename_i k hl
   simp only [evO] at hv
   exact h.temps t k v hk hl (by simpa using hv)
  ·cases hv
theorem F2.agree (h:F2 n dd keep lay σ τ a):Agree (fun x=>evO σ τ (cO keep lay x)) a:=by
 intro x v hv
 cases x with
 | tmp t=>simp [Act.eval,Array.getD_eq_getD_getElem?,h.tmp hv]
 | const u=>simpa [cO,evO,Act.eval] using hv
 | global g=>simpa [cO,evO,Act.eval] using hv
 | func f=>simpa [cO,evO,Act.eval] using hv
theorem put_ne {d t:Nat} {v:Value} (h:d≠t):(a.put (some d) v).tmps[t]?=a.tmps[t]?:=by
 simp [Act.put,Array.getElem?_setIfInBounds_ne h]
theorem put_eq {d:Nat} {v:Value} (h:d < a.tmps.size):(a.put (some d) v).tmps[d]?=some v:=by
 simp [Act.put,h]
theorem F2.put (h:F2 n dd keep lay σ τ a) {d:Option Nat} (hd:dstOk n d=true) (v:Value):F2 n dd keep (layD keep lay d) (putS (cD keep d) v σ) (putT (cD keep d) v τ) (a.put d v):=by
 cases d with
 | none=>exact h
 | some d=>
   have hdn:d < a.tmps.size:=by rw [h.size]; exact dstOk_lt hd
   cases hk:posOf keep d with
   | some k=>
     have e1:cD keep (some d)= .s k:=by simp [cD,hk]
     have e2:layD keep lay (some d)=lay:=by simp [layD,hk]
     rw [e1,e2]
     refine ⟨by simp [Act.put,h.size],h.fixd.put hd v,fun t j u ht hu=>?_,fun t j u ht hj hu=>?_⟩
     ·simp only [putS,List.getElem?_set] at hu
      by_cases e:d=t
      ·subst e
       rw [hk] at ht; cases ht
       simp only [if_true] at hu
       split at hu
       ·simp at hu; subst hu; exact put_eq hdn
       ·cases hu
      ·rw [if_neg (show ¬ k=j from fun q=>e (posOf_inj (q ▸ hk:posOf keep d=some j) ht))] at hu
       rw [put_ne e]; exact h.slots t j u ht hu
     ·have e:d≠t:=by rintro rfl; rw [hk] at ht; cases ht
      rw [put_ne e]; exact h.temps t j u ht hj hu
   | none=>
     have e1:cD keep (some d)= .t:=by simp [cD,hk]
     have e2:layD keep lay (some d)=d :: lay:=by simp [layD,hk]
     rw [e1,e2]
     refine ⟨by simp [Act.put,h.size],h.fixd.put hd v,fun t j u ht hu=>?_,fun t j u ht hj hu=>?_⟩
     ·have e:d≠t:=by rintro rfl; rw [hk] at ht; cases ht
      rw [put_ne e]; exact h.slots t j u ht hu
     ·by_cases e:d=t
      ·subst e
       simp [posOf] at hj; subst hj
       simp [putT] at hu; subst hu
       exact put_eq hdn
      ·obtain ⟨i,rfl,hi⟩:=posOf_cons_ne e hj
       rw [put_ne e]
       exact h.temps t i u ht hi (by simpa [putT] using hu)
theorem F2.gset (h:F2 n dd keep lay σ τ a) {x:Opd} {c:Value} (hx:evO σ τ x=some c) (fr:Bool):F2 n dd keep lay (gS fr x c σ) (gT fr x c τ) a:=by
 cases fr with
 | false=>exact h
 | true=>
   cases x with
   | s k=>
     have hk:σ[k]?=some (some c):=by
      simp only [evO] at hx
      have e:σ.toArray[k]?=σ[k]?:=by simp
      rw [e] at hx
      cases hy:σ[k]? with
      | none=>rw [hy] at hx; simp [jn] at hx
      | some y=>rw [hy] at hx; simp only [jn] at hx; rw [hx]
     refine ⟨h.size,h.fixd,fun t j u ht hu=>?_,h.temps⟩
     simp only [gS,setS,cond_true,List.getElem?_set] at hu
     split at hu
     ·rename_i e; subst e
      split at hu
      ·simp at hu; subst hu; exact h.slots t k c ht hk
      ·cases hu
     ·exact h.slots t j u ht hu
   | t k=>
     have hk:τ[k]?=some c:=by simpa [evO] using hx
     refine ⟨h.size,h.fixd,h.slots,fun t j u ht hj hu=>?_⟩
     simp only [gT,setT,cond_true,List.getElem?_set] at hu
     split at hu
     ·rename_i e; subst e
      split at hu
      ·simp at hu; subst hu; exact h.temps t k c ht hj hk
      ·cases hu
     ·exact h.temps t j u ht hj hu
   | c v=>exact h
   | g m=>exact h
   | f m=>exact h
   | u=>exact h
structure Old (n:Nx) (keep lay:List Nat) (a a':Act):Prop where
 size:a'.tmps.size=a.tmps.size
 defers:a'.defers=a.defers
 fixd:∀ t,t ∈ n.fx→a'.tmps[t]?=a.tmps[t]?
 same:∀ t,known keep lay t=true→a'.tmps[t]?=a.tmps[t]?
theorem Old.refl:Old n keep lay a a:=⟨rfl,rfl,fun _ _=>rfl,fun _ _=>rfl⟩
theorem known_cons {d t:Nat} (h:known keep lay t=true):known keep (d :: lay) t=true:=by
 simp only [known,Bool.or_eq_true] at *
 rcases h with h | h
 ·exact .inl h
 ·right
  simp only [posOf]
  split
  ·rfl
  ·rw [Option.isSome_iff_exists] at h
   obtain ⟨k,hk⟩:=h
   rw [hk]; rfl
theorem Old.trans {d:Nat} (h:Old n keep lay a a') (h':Old n keep (d :: lay) a' a''):Old n keep lay a a'':=
 ⟨h'.size.trans h.size,h'.defers.trans h.defers,fun t ht=>(h'.fixd t ht).trans (h.fixd t ht),fun t ht=>(h'.same t (known_cons ht)).trans (h.same t ht)⟩
theorem Old.trans' (h:Old n keep lay a a') (h':Old n keep lay a' a''):Old n keep lay a a'':=
 ⟨h'.size.trans h.size,h'.defers.trans h.defers,fun t ht=>(h'.fixd t ht).trans (h.fixd t ht),fun t ht=>(h'.same t ht).trans (h.same t ht)⟩
theorem Old.put {d:Nat} {v:Value} (hdn:dstOk n (some d)=true) (hd:known keep lay d=false):Old n keep lay a (a.put (some d) v):=
 ⟨by simp [Act.put],by simp [Act.put],fun t ht=>put_fx hdn v a ht,fun t ht=>put_ne (by rintro rfl; rw [hd] at ht; cases ht)⟩
theorem F2.old (h:F2 n dd keep lay σ τ a) (ho:Old n keep lay a a'):F2 n dd keep lay σ τ a':=
 ⟨ho.size.trans h.size,⟨ho.defers.trans h.fixd.1,fun t ht=>(ho.fixd t ht).trans (h.fixd.2 t ht)⟩,
  fun t k v ht hv=>(ho.same t (by simp [known,ht])).trans (h.slots t k v ht hv),
  fun t k v ht hk hv=>(ho.same t (by simp [known,hk])).trans (h.temps t k v ht hk hv)⟩
theorem F2.push (h:F2 n dd keep lay σ τ a) {d:Nat} (hd:dstOk n (some d)=true) (hk:known keep lay d=false) (v:Value):F2 n dd keep (d :: lay) σ (v :: τ) (a.put (some d) v):=by
 have hn:posOf keep d=none:=by
  simp only [known,Bool.or_eq_false_iff] at hk
  simpa using hk.1
 have:=h.put (d:=some d) hd v
 have e1:cD keep (some d)= .t:=by simp [cD,hn]
 have e2:layD keep lay (some d)=d :: lay:=by simp [layD,hn]
 rw [e1,e2] at this
 exact this
theorem guardSlot_none {g:Option (Nat × Bool)} (h:guardSlot ops.toList g=some none):g=none:=by
 cases g with
 | none=>rfl
 | some p=>
   obtain ⟨j,b⟩:=p
   simp only [guardSlot] at h
   split at h
   ·split at h <;> simp at h
   ·simp at h
theorem guardSlot_some {g:Option (Nat × Bool)} {t:Nat} {b:Bool} (h:guardSlot ops.toList g=some (some (t,b))):∃ j o,g=some (j,b)∧ops[j]?=some o∧o.dst=some t:=by
 cases g with
 | none=>simp [guardSlot] at h
 | some p=>
   obtain ⟨j,b'⟩:=p
   simp only [guardSlot] at h
   split at h
   ·rename_i o ho
    split at h
    ·rename_i d hd
     simp at h; obtain ⟨rfl,rfl⟩:=h
     exact ⟨j,o,rfl,by simpa using ho,hd⟩
    ·simp at h
   ·simp at h
theorem wanted_none {o:Oper} {f:Nat→Option Bool} (h:o.guard=none):Region.wanted o f=true:=by simp [Region.wanted,h]
theorem wanted_at {o:Oper} {t:Nat} {b c:Bool} (hg:guardSlot ops.toList o.guard=some (some (t,b))) (ht:a.tmps[t]?=some (.bool c)):Region.wanted o (yielded ops a.tmps)=(c == b):=by
 obtain ⟨j,o',e1,e2,e3⟩:=guardSlot_some hg
 simp only [Region.wanted,e1,yielded,e2,Option.bind_some,e3,ht]
 cases c <;> cases b <;> rfl
theorem wanted_un {o:Oper} {t:Nat} {b:Bool} (hg:guardSlot ops.toList o.guard=some (some (t,b))) (ht:a.tmps[t]?=some (.tuple #[])):Region.wanted o (yielded ops a.tmps)=false:=by
 obtain ⟨j,o',e1,e2,e3⟩:=guardSlot_some hg
 simp [Region.wanted,e1,yielded,e2,e3,ht]
theorem stripG_spec {o:Oper} {g:RawG} (h:stripG P n ops.toList o=some g):dstOk n o.dst=true∧guardSlot ops.toList o.guard=some g.g∧stripOp P o=some g.s∧g.d=o.dst:=by
 unfold stripG at h
 split at h
 ·rename_i hd
  split at h
  ·rename_i gd s h1 h2
   simp at h; subst h
   exact ⟨hd,h1,h2,rfl⟩
  ·simp at h
 ·simp at h
theorem guardOf_bool {x:Option Value} {c:Bool} (h:guardOf x=some (some c)):x=some (.bool c):=by
 unfold guardOf at h
 split at h
 ·simp at h; subst h; rfl
 ·split at h <;> simp at h
 ·simp at h
theorem guardOf_undef {x:Option Value} (h:guardOf x=some none):x=some (.tuple #[]):=by
 unfold guardOf at h
 split at h
 ·simp at h
 ·rename_i vs
  split at h
  ·rename_i e; rw [Array.isEmpty_iff.1 e]
  ·simp at h
 ·simp at h
def Aligned (P:Program) (n:Nx) (ops:Array Oper) (l:List Oper) (gs:List RawG):Prop:=
 l.length=gs.length∧∀ (j:Nat) (o:Oper),l[j]?=some o→∃ g,gs[j]?=some g∧stripG P n ops.toList o=some g
theorem Aligned.tail {o:Oper} {l:List Oper} {g:RawG} {gs:List RawG} (h:Aligned P n ops (o :: l) (g :: gs)):Aligned P n ops l gs:=
 ⟨by simpa using h.1,fun j o' hj=>by simpa using h.2 (j + 1) o' (by simpa using hj)⟩
theorem Aligned.head {o:Oper} {l:List Oper} {g:RawG} {gs:List RawG} (h:Aligned P n ops (o :: l) (g :: gs)):stripG P n ops.toList o=some g:=by
 obtain ⟨g',e,hs⟩:=h.2 0 o rfl
 simp at e; subst e; exact hs
theorem Aligned.cons {l:List Oper} {g:RawG} {gs:List RawG} (h:Aligned P n ops l (g :: gs)):∃ o l',l=o :: l':=by
 cases l with
 | nil=>simp [Aligned] at h
 | cons o l'=>exact ⟨o,l',rfl⟩
theorem rd_ok {o:Oper} {s:SOp Operand} {ev:Operand→Option Value} {a:Act} {H:Heap} {p:Prop} {v:Value} (hs:stripOp P o=some s) (hf:Agree ev a) (hr:s.rd ev H=some (p,v)) (hp:p):OpVal P o a.eval H v:=by
 unfold stripOp at hs
 split at hs
 ·rename_i e he
  simp at hs; subst hs
  exact fun w _=>stripPE_ok he hf hr hp w
 ·split at hs
  case h_1 t x ho=>-- load
   have key:∀ sz,(sz=none∧isAggB P t=some false∨∃ n,sz=some n∧isAggB P t=some true∧sizeOfB P t=some n)→(SOp.ld sz x).rd ev H=some (p,v)→OpVal P o a.eval H v:=by
    intro sz hsz hr
    have hld:=mvN_some hr
    unfold ldN at hld
    split at hld
    ·rename_i ad hx
     intro w hw
     simp [execOp,ho,hf.ev hx,Instr.loadAt,Instr.sureAddr,run_ld hsz (hw ▸ hld)]
    ·simp at hld
   split at hs
   ·rename_i hag; simp at hs; subst hs; exact key none (.inl ⟨rfl,hag⟩) hr
   ·rename_i hag
    simp only [Option.map_eq_some_iff] at hs
    obtain ⟨k,hk,rfl⟩:=hs
    exact key (some k) (.inr ⟨k,rfl,hag,hk⟩) hr
   ·simp at hs
  case h_6 src dst x ho=>-- convert
   split at hs
   ·rename_i el h1 h2
    split at hs
    ·rename_i h3
     simp at hs; subst hs
     have hb:=mvN_some hr
     intro w hw
     cases hx:ev x with
     | none=>rw [hx] at hb; simp [b2sN] at hb
     | some u=>
       rw [hx] at hb
       have hr:=run_b2s (P:=P) (hw ▸ hb)
       cases u with
       | slice ad l c=>simp [execOp,ho,hf.ev hx,run_convert_bytes_string w src dst el ad l c h1 h3 h2,hr]
       | _=>simp [b2sN] at hb
    ·simp at hs
   ·split at hs
    ·simp at hs; subst hs; simp [SOp.rd] at hr
    ·simp at hs
   ·split at hs
    ·split at hs
     ·simp at hs; subst hs; simp [SOp.rd] at hr
     ·simp at hs
    ·simp at hs
   ·simp at hs
  all_goals (exfalso; revert hs; (repeat' split) <;> intro hs <;> (try simp at hs) <;> (try (subst hs; simp [SOp.rd] at hr)) <;> (try (obtain ⟨_,_,rfl⟩:=hs; simp [SOp.rd] at hr)))
def Sense.quiet (P:Program) (E:Chain→Heap→Prop):Sense P E where
 good:=fun o ev H R=>∃ v,OpVal P o ev H v∧R v H
 allow:=SOp.reads
 mono:=fun ⟨v,h,hR⟩ h'=>⟨v,h,h' _ _ hR⟩
 ok:=fun {o s ev a H R} h hr hf hv=>by
  have:∃ p v,s.rd ev H=some (p,v)∧p∧R v H:=by
   cases s <;> simp only [SOp.reads,Bool.false_eq_true] at hr
   ·simp only [SOp.vc,vN] at hv
    split at hv
    ·rename_i p v e; exact ⟨p,v,e,hv.1,hv.2⟩
    ·exact hv.elim
   ·simp only [SOp.vc,rdN] at hv
    split at hv
    ·rename_i v e; exact ⟨True,v,by simp [SOp.rd,e,mvN],trivial,hv⟩
    ·exact hv.elim
   ·simp only [SOp.vc,rdN] at hv
    split at hv
    ·rename_i v e; exact ⟨True,v,by simp [SOp.rd,e,mvN],trivial,hv⟩
    ·exact hv.elim
  obtain ⟨p,v,e,hp,hR⟩:=this
  exact ⟨v,rd_ok h hf e hp,hR⟩
 ofVal:=fun h hR=>⟨_,h,hR⟩
theorem wpQuiet_of_runL {H:Heap} {Q:Act→Heap→Prop} {w0:World}:∀ (l:List Oper) (a:Act),RunL (Sense.quiet P E) ops Q l a H→wpQuiet P ops (fun w=>w.heap=H∧Same w0 w) (fun a=>Q a H) l a
 | [],a,hr=>hr
 | o :: r,a,hr=>by
   unfold RunL at hr
   unfold wpQuiet
   split
   ·rename_i hw; rw [if_pos hw] at hr
    obtain ⟨v,hv,hr⟩:=hr
    refine ⟨v,fun w hw=>?_,wpQuiet_of_runL r _ hr⟩
    unfold Oper.quietAt
    rw [hv w hw.1]
    exact ⟨rfl,rfl⟩
   ·rename_i hw; rw [if_neg hw] at hr
    exact wpQuiet_of_runL r _ hr
theorem pickN_true (a:Bool) (y:Option Value):pickN (some (.bool true)) (some (.bool a)) y=some (True,.bool a):=by
 cases y with
 | none=>rfl
 | some y=>cases y <;> rfl
theorem pickN_false (b:Bool) (x:Option Value):pickN (some (.bool false)) x (some (.bool b))=some (True,.bool b):=by
 cases x with
 | none=>rfl
 | some x=>cases x <;> rfl
theorem pick_val {o:Oper} {t:Nat} {x y:Operand} (hs:stripOp P o=some (.v (.pick (.tmp t) x y))) {c w:Bool} (ht:a.tmps[t]?=some (.bool c)) (hx:c=true→a.eval x= .bool w) (hy:c=false→a.eval y= .bool w) (H:Heap) :
 OpVal P o a.eval H (.bool w):=by
 refine rd_ok (ev:=fun z=>some (a.eval z)) hs (fun z v hz=>by simpa using hz) (p:=True) ?_ trivial
 have e:a.eval (.tmp t)= .bool c:=by simp [Act.eval,Array.getD_eq_getD_getElem?,ht]
 show pickN (some (a.eval (.tmp t))) (some (a.eval x)) (some (a.eval y))=_
 rw [e]
 cases c with
 | true=>rw [hx rfl]; exact pickN_true _ _
 | false=>rw [hy rfl]; exact pickN_false _ _
theorem Old.eval (h:F2 n dd keep lay σ τ a) (ho:Old n keep lay a a') {x:Operand} {v:Value} (hx:evO σ τ (cO keep lay x)=some v):a'.eval x=v:=(h.old ho).agree x v hx
def GrpT (S:Sense P E) (ops:Array Oper) (n:Nx) (dd:DD) (keep lay:List Nat) (t:Nat) (b:Bool) (G:Grp) (Q:Act→Heap→Prop) (l:List Oper) (tl:List Oper):Prop:=
 ∀ {σ:Slots} {τ:List Value} {a:Act} {H:Heap} {p:Prop} {τ':List Value},F2 n dd keep lay σ τ a→a.tmps[t]?=some (.bool b)→innerE H σ G.inner τ=some (p,τ')→p→
   (∀ a',F2 n dd keep G.lay σ τ' a'→Old n keep lay a a'→RunL S ops Q tl a' H)→RunL S ops Q l a H
def GrpF (S:Sense P E) (ops:Array Oper) (n:Nx) (keep lay:List Nat) (t:Nat) (b:Bool) (ds:List Nat) (Q:Act→Heap→Prop) (l:List Oper) (tl:List Oper):Prop:=
 ∀ {a:Act} {H:Heap},a.tmps.size=n.n→(a.tmps[t]?=some (.bool !b)∨a.tmps[t]?=some (.tuple #[]))→(∀ s ∈ ds,a.tmps[s]?=some (.tuple #[]))→
   (∀ a',Old n keep lay a a'→RunL S ops Q tl a' H)→RunL S ops Q l a H
theorem choice {S:Sense P E} {t:Nat} {b:Bool} {G:Grp} {Q:Act→Heap→Prop} {l lr:List Oper} {o:Oper} (hpick:stripOp P o=some (.v (.pick (.tmp t) G.x G.y)))
 (hT:GrpT S ops n dd keep lay t b G Q l (o :: lr)) (hF:GrpF S ops n keep lay t b [] Q l (o :: lr)) (hkt:known keep lay t=true) {H:Heap} {p:Prop} {v:Value} (hf:F2 n dd keep lay σ τ a)
 (hs:selV σ τ (cO keep lay (.tmp t)) b (cO keep (if b then G.lay else lay) G.x) (cO keep (if b then lay else G.lay) G.y) (innerE H σ G.inner τ)=some (p,v)) (hp:p)
 (hk:∀ a',F2 n dd keep lay σ τ a'→Old n keep lay a a'→OpVal P o a'.eval H v→RunL S ops Q (o :: lr) a' H):RunL S ops Q l a H:=by
 have skip:∀ w,v= .bool w→a.tmps[t]?=some (.bool !b)→evO σ τ (cO keep lay (if b then G.y else G.x))=some (.bool w)→RunL S ops Q l a H:=by
  rintro w rfl ht hw
  refine hF hf.size (.inl ht) (by simp) fun a' ho=>hk a' (hf.old ho) ho ?_
  have ht':=(ho.same t hkt).trans ht
  have hz:=Old.eval hf ho hw
  cases b
  ·exact pick_val hpick (c:=true) ht' (fun _=>hz) (fun e=>by cases e) H
  ·exact pick_val hpick (c:=false) ht' (fun e=>by cases e) (fun _=>hz) H
 unfold selV at hs
 split at hs
 ·rename_i p' τ' hin
  split at hs
  ·rename_i c v' hc hsn
   simp only [Option.some.injEq,Prod.mk.injEq] at hs
   obtain ⟨rfl,rfl⟩:=hs
   rw [hc] at hsn
   have ht:=hf.tmp hc
   obtain ⟨bx,bb,hbx,hby,rfl⟩:∃ bx bb,evO σ (if b then τ' else τ) (cO keep (if b then G.lay else lay) G.x)=some (.bool bx)∧evO σ (if b then τ else τ') (cO keep (if b then lay else G.lay) G.y)=some (.bool bb)∧v'= .bool (bif c then bx else bb):=by
    unfold selN at hsn
    split at hsn
    ·rename_i c' a' b' e1 e2 e3
     simp at e1 hsn; subst e1
     exact ⟨_,_,e2,e3,hsn.symm⟩
    ·simp at hsn
   by_cases e:c=b
   ·subst e
    refine hT hf ht hin (hp rfl) fun a' hf' ho=>hk a' (hf.old ho) ho ?_
    have ht':=(ho.same t hkt).trans ht
    cases c
    ·exact pick_val hpick ht' (fun e=>by cases e) (fun _=>hf'.agree _ _ hby) H
    ·exact pick_val hpick ht' (fun _=>hf'.agree _ _ hbx) (fun e=>by cases e) H
   ·have e':c= !b:=by cases c <;> cases b <;> simp_all
    subst e'
    cases b
    ·exact skip bx rfl ht hbx
    ·exact skip bb rfl ht hby
  ·cases hs
 ·split at hs
  ·rename_i c w hc hw
   simp only [Option.some.injEq,Prod.mk.injEq] at hs
   obtain ⟨rfl,rfl⟩:=hs
   refine skip w rfl (by rw [← hp]; exact hf.tmp hc) ?_
   cases b <;> exact hw
  ·cases hs
theorem asPick_some {t d:Nat} {og:Option (Nat × Bool)} {r:RawG} {x y:Operand} (h:asPick t og r=some (d,x,y)):r.d=some d∧r.g=og∧r.s= .v (.pick (.tmp t) x y):=by
 unfold asPick at h
 split at h
 ·rename_i d' t' x' y' e1 e2
  split at h
  ·rename_i hc
   simp only [Option.some.injEq,Prod.mk.injEq] at h
   obtain ⟨rfl,rfl,rfl⟩:=h
   obtain ⟨rfl,e3⟩:=hc
   exact ⟨e1,e3,e2⟩
  ·cases h
 ·cases h
theorem asRead_some {t d:Nat} {b:Bool} {r:RawG} (h:asRead keep lay t b r=some d):r.d=some d∧r.g=some (t,b)∧known keep lay d=false:=by
 unfold asRead at h
 split at h
 ·rename_i d' e1
  split at h
  ·rename_i hc
   simp only [Option.some.injEq] at h; subst h
   exact ⟨e1,hc.1,hc.2.1⟩
  ·cases h
 ·cases h
theorem consIn_some {i:In} {x:Option Grp} {G:Grp} (h:consIn i x=some G):∃ G',x=some G'∧G={ G' with inner:=i :: G'.inner }:=by
 cases x with
 | none=>cases h
 | some G'=>simp [consIn] at h; exact ⟨G',rfl,h.symm⟩
theorem inPush_some {x:Option (Prop × Value)} {p:Prop} {τ':List Value} (h:inPush x τ=some (p,τ')):∃ v,x=some (p,v)∧τ'=v :: τ:=by
 unfold inPush at h
 split at h
 ·rename_i q v
  simp only [Option.some.injEq,Prod.mk.injEq] at h
  obtain ⟨rfl,rfl⟩:=h
  exact ⟨v,rfl,rfl⟩
 ·cases h
theorem inThen_some {f:List Value→Option (Prop × List Value)} {x:Option (Prop × List Value)} {p:Prop} {τ':List Value} (h:inThen f x=some (p,τ')):∃ q τ1 r,x=some (q,τ1)∧f τ1=some (r,τ')∧p=(q∧r):=by
 unfold inThen at h
 split at h
 ·rename_i q τ1
  split at h
  ·rename_i r τ2 h2
   simp only [Option.some.injEq,Prod.mk.injEq] at h
   obtain ⟨rfl,rfl⟩:=h
   exact ⟨q,τ1,r,rfl,h2,rfl⟩
  ·cases h
 ·cases h
theorem selIn_sound (S:Sense P E) {Q:Act→Heap→Prop}:∀ (k:Nat) {t:Nat} {b:Bool} {og:Option (Nat × Bool)} {ds lay:List Nat} {gs:List RawG} {G:Grp},selIn keep k t b og ds lay gs=some G→
 (∀ s ∈ ds,known keep lay s=true)→∀ (l:List Oper),Aligned P n ops l gs→
 ∃ o lr,(stripOp P o=some (.v (.pick (.tmp t) G.x G.y))∧o.dst=some G.d∧dstOk n (some G.d)=true∧guardSlot ops.toList o.guard=some og)∧Aligned P n ops lr G.rest∧G.rest.length < gs.length∧known keep lay t=true∧
   GrpT S ops n dd keep lay t b G Q l (o :: lr)∧GrpF S ops n keep lay t b ds Q l (o :: lr):=by
 intro k
 induction k with
 | zero=>intro t b og ds lay gs G h; cases h
 | succ k ih=>
   intro t b og ds lay gs G h hds l hal
   cases gs with
   | nil=>cases h
   | cons r rs=>
     obtain ⟨o,l',rfl⟩:=hal.cons
     obtain ⟨hd,hg,hso,hdd⟩:=stripG_spec hal.head
     simp only [selIn] at h
     split at h
     case isFalse=>cases h
     rename_i hkt
     split at h
     ·-- the pick
      rename_i d x y hpk
      simp only [Option.some.injEq] at h; subst h
      obtain ⟨e1,e2,e3⟩:=asPick_some hpk
      rw [e1] at hdd
      refine ⟨o,l',⟨by rw [← e3]; exact hso,hdd.symm,by rw [← hdd] at hd; exact hd,by rw [← e2]; exact hg⟩,hal.tail,by simp,hkt,?_,?_⟩
      ·intro σ τ a H p τ' hf ht hin hp hk
       simp only [innerE,Option.some.injEq,Prod.mk.injEq] at hin
       obtain ⟨_,rfl⟩:=hin
       exact hk a hf Old.refl
      ·intro a H _ _ _ hk
       exact hk a Old.refl
     split at h
     ·-- a reading
      rename_i hnp d hrd
      obtain ⟨e1,e2,e3⟩:=asRead_some hrd
      rw [e1] at hdd
      rw [e2] at hg
      have hdn:dstOk n (some d)=true:=by rw [← hdd] at hd; exact hd
      obtain ⟨G',hG',rfl⟩:=consIn_some h
      have hds':∀ s ∈ d :: ds,known keep (d :: lay) s=true:=by
       intro s hs
       rcases List.mem_cons.1 hs with rfl | hs
       ·simp [known,posOf]
       ·exact known_cons (hds s hs)
      obtain ⟨op,lr,hp1,hp2,hp3,hp4,hT,hF⟩:=ih hG' hds' l' hal.tail
      refine ⟨op,lr,hp1,hp2,by simp at hp3 ⊢; omega,hkt,?_,?_⟩
      ·intro σ τ a H p τ' hf ht hin hp hk
       simp only [innerE] at hin
       obtain ⟨q,τ1,r',h1,h2,rfl⟩:=inThen_some hin
       simp only [inE] at h1
       obtain ⟨v,h3,rfl⟩:=inPush_some h1
       rw [rd_map] at h3
       unfold RunL
       rw [wanted_at hg ht,if_pos (by simp),← hdd]
       refine S.ofVal (rd_ok hso hf.agree h3 hp.1) ?_
       have hne:d≠t:=by rintro rfl; rw [e3] at hkt; cases hkt
       exact hT (hf.push hdn e3 v) ((put_ne hne).trans ht) h2 hp.2 fun a' hf' ho=>hk a' hf' ((Old.put hdn e3).trans ho)
      ·intro a H hsz ht hun hk
       unfold RunL
       have hw:Region.wanted o (yielded ops a.tmps)=false:=by
        rcases ht with ht | ht
        ·rw [wanted_at hg ht]; cases b <;> rfl
        ·exact wanted_un hg ht
       rw [hw,if_neg (by simp),← hdd]
       have hne:d≠t:=by rintro rfl; rw [e3] at hkt; cases hkt
       refine hF (by simp [Act.put,hsz]) (by rw [put_ne hne]; exact ht) ?_ fun a' ho=>hk a' ((Old.put hdn e3).trans ho)
       intro s hs
       rcases List.mem_cons.1 hs with rfl | hs
       ·exact put_eq (by rw [hsz]; exact dstOk_lt hdn)
       ·have:d≠s:=by rintro rfl; have:=hds _ hs; rw [e3] at this; cases this
        rw [put_ne this]; exact hun s hs
     split at h
     ·-- a guard inside
      rename_i hnp hnr t' b' e2
      split at h
      case isFalse=>cases h
      rename_i hel
      have hmem:t' ∈ ds:=by simpa using hel
      split at h
      ·rename_i G1 hG1
       split at h
       case isFalse=>cases h
       rename_i hkd
       obtain ⟨G',hG',rfl⟩:=consIn_some h
       obtain ⟨o1,l1,⟨a1,a2,a3,a4⟩,hal1,hlen1,hkt1,hT1,hF1⟩:=ih hG1 (by simp) (o :: l') hal
       have hds':∀ s ∈ G1.d :: ds,known keep (G1.d :: lay) s=true:=by
        intro s hs
        rcases List.mem_cons.1 hs with rfl | hs
        ·simp [known,posOf]
        ·exact known_cons (hds s hs)
       obtain ⟨op,lr,hp1,hp2,hp3,hp4,hT,hF⟩:=ih hG' hds' l1 hal1
       have hne:G1.d≠t:=by rintro e; rw [← e,hkd] at hkt; cases hkt
       refine ⟨op,lr,hp1,hp2,Nat.lt_trans hp3 hlen1,hkt,?_,?_⟩
       ·intro σ τ a H p τ' hf ht hin hp hk
        simp only [innerE] at hin
        obtain ⟨q,τ1,r',h1,h2,rfl⟩:=inThen_some hin
        simp only [inE] at h1
        obtain ⟨v,h3,rfl⟩:=inPush_some h1
        refine choice a1 hT1 hF1 hkt1 hf h3 hp.1 fun a' hf' ho hval=>?_
        unfold RunL
        have ht':=(ho.same t hkt).trans ht
        rw [wanted_at a4 ht',if_pos (by simp),a2]
        refine S.ofVal hval ?_
        exact hT (hf'.push a3 hkd v) ((put_ne hne).trans ht') h2 hp.2 fun a'' hf'' ho'=>hk a'' hf'' ((ho.trans' (Old.put a3 hkd)).trans ho')
       ·intro a H hsz ht hun hk
        refine hF1 hsz (.inr (hun t' hmem)) (by simp) fun a' ho=>?_
        unfold RunL
        have ht':a'.tmps[t]?=some (.bool !b)∨a'.tmps[t]?=some (.tuple #[]):=by rw [ho.same t hkt]; exact ht
        have hw:Region.wanted o1 (yielded ops a'.tmps)=false:=by
         rcases ht' with ht | ht
         ·rw [wanted_at a4 ht]; cases b <;> rfl
         ·exact wanted_un a4 ht
        rw [hw,if_neg (by simp),a2]
        have hsz':a'.tmps.size=n.n:=ho.size.trans hsz
        refine hF (by simp [Act.put,hsz']) (by rw [put_ne hne]; exact ht') ?_ fun a'' ho'=>hk a'' ((ho.trans' (Old.put a3 hkd)).trans ho')
        intro s hs
        rcases List.mem_cons.1 hs with rfl | hs
        ·exact put_eq (by rw [hsz']; exact dstOk_lt a3)
        ·have hks:=hds s hs
         have:G1.d≠s:=by rintro e; rw [← e,hkd] at hks; cases hks
         rw [put_ne this,ho.same s hks]; exact hun s hs
      ·cases h
     ·cases h
def rawAllow (S:Sense P E) (gs:List RawG):Bool:=gs.all fun g=>S.allow g.s
theorem selIn_allow (S:Sense P E):∀ (k:Nat) {t:Nat} {b:Bool} {og:Option (Nat × Bool)} {ds lay:List Nat} {gs:List RawG} {G:Grp},selIn keep k t b og ds lay gs=some G→rawAllow S gs=true→rawAllow S G.rest=true:=by
 intro k
 induction k with
 | zero=>intro t b og ds lay gs G h; cases h
 | succ k ih=>
   intro t b og ds lay gs G h ha
   cases gs with
   | nil=>cases h
   | cons r rs=>
     have ha':rawAllow S rs=true:=by simp only [rawAllow,List.all_cons,Bool.and_eq_true] at ha; exact ha.2
     simp only [selIn] at h
     split at h
     case isFalse=>cases h
     split at h
     ·simp only [Option.some.injEq] at h; subst h; exact ha'
     split at h
     ·obtain ⟨G',hG',rfl⟩:=consIn_some h
      have:=ih hG' ha'
      exact this
     split at h
     ·split at h
      case isFalse=>cases h
      split at h
      ·rename_i G1 hG1
       split at h
       case isFalse=>cases h
       obtain ⟨G',hG',rfl⟩:=consIn_some h
       have:=ih hG' (ih hG1 ha)
       exact this
      ·cases h
     ·cases h
theorem comp_sound (S:Sense P E) {Q:Act→Heap→Prop} {K:Slots→Heap→Prop} (hK:∀ lay σ τ a H,F2 n dd keep lay σ τ a→K σ H→Q a H) :
 ∀ (k:Nat) (pg:Option (Nat × Bool)) (lay:List Nat) (gs:List RawG) (l:List Oper),Aligned P n ops l gs→rawAllow S gs=true→
 ∀ σ τ a H,F2 n dd keep lay σ τ a→vcOps P E (comp keep k pg lay gs) σ τ H K→RunL S ops Q l a H:=by
 intro k
 induction k with
 | zero=>
   intro pg lay gs l hal hall σ τ a H hf hv
   exfalso
   simp [comp,vcOps,SOp.vc,PE.val,evO,mvN,vN] at hv
 | succ k ih=>
   intro pg lay gs l hal hall σ τ a H hf hv
   cases gs with
   | nil=>
     have:l=[]:=List.eq_nil_of_length_eq_zero (by simpa using hal.1)
     subst this
     exact hK lay σ τ a H hf (by simpa [comp,vcOps] using hv)
   | cons r rs=>
     obtain ⟨o,l',rfl⟩:=hal.cons
     obtain ⟨hd,hg,hso,hdd⟩:=stripG_spec hal.head
     have hallow:S.allow r.s=true:=by simp only [rawAllow,List.all_cons,Bool.and_eq_true] at hall; exact hall.1
     have hsub':rawAllow S rs=true:=by simp only [rawAllow,List.all_cons,Bool.and_eq_true] at hall; exact hall.2
     simp only [comp] at hv
     split at hv
     ·rename_i hgn
      rw [hgn] at hg
      unfold RunL
      rw [if_pos (wanted_none (guardSlot_none hg))]
      simp only [vcOps,vc_map,hdd] at hv
      exact S.mono (S.ok hso hallow hf.agree hv) fun v H' h=>ih _ _ _ _ hal.tail hsub' _ _ _ _ (hf.put hd v) h
     ·rename_i t b hgs
      rw [hgs] at hg
      split at hv
      ·rename_i G hG
       have hG':selIn keep (rs.length + 2) t b none [] lay (r :: rs)=some G:=by
        split at hG
        ·cases hG
        ·exact hG
       obtain ⟨o1,l1,⟨a1,a2,a3,a4⟩,hal1,hlen1,hkt1,hT1,hF1⟩:=selIn_sound (Q:=Q) S _ hG' (by simp) (o :: l') hal
       simp only [vcOps] at hv
       unfold vN at hv
       split at hv
       case h_2=>exact hv.elim
       rename_i p v hs
       refine choice a1 hT1 hF1 hkt1 hf hs hv.1 fun a' hf' ho hval=>?_
       unfold RunL
       rw [if_pos (wanted_none (guardSlot_none a4))]
       refine S.ofVal hval ?_
       have hd1:dstOk n o1.dst=true:=by rw [a2]; exact a3
       rw [← a2] at hv
       have hsub1:rawAllow S G.rest=true:=selIn_allow S _ hG' hall
       exact ih _ _ _ _ hal1 hsub1 _ _ _ _ (hf'.put hd1 v) hv.2
      ·simp only [vcOps] at hv
       split at hv
       ·rename_i c hc
        replace hc:=guardOf_bool hc
        have ht:=hf.tmp hc
        unfold RunL
        rw [wanted_at hg ht]
        by_cases e:c=b
        ·subst e
         rw [if_pos (by simp)]
         have hv:=hv.1 rfl
         simp only [vc_map,hdd] at hv
         have hf':=hf.gset hc (!(decide (pg=some (t,c))))
         exact S.mono (S.ok hso hallow hf'.agree hv) fun v H' h=>ih _ _ _ _ hal.tail hsub' _ _ _ _ (hf'.put hd v) h
        ·have e':c= !b:=by cases c <;> cases b <;> simp_all
         subst e'
         rw [if_neg (by cases b <;> simp)]
         have hv:=hv.2 rfl
         simp only [hdd] at hv
         exact ih _ _ _ _ hal.tail hsub' _ _ _ _ ((hf.gset hc _).put hd undef) hv
       ·rename_i hc
        replace hc:=guardOf_undef hc
        have ht:=hf.tmp hc
        unfold RunL
        rw [wanted_un hg ht,if_neg (by simp)]
        simp only [hdd] at hv
        exact ih _ _ _ _ hal.tail hsub' _ _ _ _ (hf.put hd undef) hv
       ·exact hv.elim
end
end Gx
end
