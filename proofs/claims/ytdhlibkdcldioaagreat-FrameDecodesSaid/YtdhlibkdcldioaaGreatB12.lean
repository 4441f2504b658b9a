import Derived.Test.YtdhlibkdcldioaaGreatB7
import Derived.Recover
namespace Gx
open Go
def DCalls (P:Program) (g:FuncId) (args:Array Value) (u u':FrameMode) (H:Heap) (R:Heap→Prop):Prop:=
 ∀ w:World,w.heap=H→CallsD P g args u w fun e m w'=>∃ v,e= .returned v∧settle m=u'∧R w'.heap∧Same w w'
theorem DCalls.mono {P:Program} {g:FuncId} {args:Array Value} {u u':FrameMode} {H:Heap} {R R':Heap→Prop} (h:DCalls P g args u u' H R) (hr:∀ H',R H'→R' H'):DCalls P g args u u' H R':=
 fun w hw=>(h w hw).mono fun _ _ _ ⟨v,h1,h2,h3,h4⟩=>⟨v,h1,h2,hr _ h3,h4⟩
def defTarget (o1 o2:Oper):Option (Nat × Nat × List Nat):=
 match o1.op,o1.dst,o1.guard,o2.op,o2.dst,o2.guard with
 | .makeFunc (.func g) first caps,some d,none,.defer { callee:=.value (.tmp d'),args,argTypes:=_ },none,none=>
   if d=d'∧first.toList.isEmpty=true∧args.toList.isEmpty=true then
    match caps.toList.mapM (fun (x:Operand)=>match x with | .tmp t=>some t | _=>none) with
    | some cs=>some (g,d,cs)
    | none=>none
   else none
 | _,_,_,_,_,_=>none
structure DFn where
 n:Nat
 keep:List Nat
 fx:List Nat
 pre:SCode
 g:Nat
 caps:List Nat
 code:SCode
 res:List RV
def stripDef (P:Program) (keep fx:List Nat) (fn:Func):Option DFn:=
 if keep.all (fun t=>decide (t < fn.ntmps)) then
  match fn.body with
  | some (.seq A (.seq (.region _ ops false) C))=>
    match ops.toList with
    | [o1,o2]=>match defTarget o1 o2 with
      | some (g,d,cs)=>
        if decide (d < fn.ntmps) && (posOf keep d).isNone && !fx.elem d && hasBody P g then
         match strip P ⟨fn.ntmps,[]⟩ keep A,strip P ⟨fn.ntmps,fx⟩ keep C,stripRVs P fx fn.results.toList with
         | some a,some c,some rs=>some ⟨fn.ntmps,keep,fx,a,g,cs,c,rs⟩
         | _,_,_=>none
        else none
      | none=>none
    | _=>none
  | _=>none
 else none
def lookL (keep:List Nat) (σ:Slots):List Nat→Option (List Value)
 | []=>some []
 | t :: r=>match lookS keep σ t,lookL keep σ r with
   | some v,some vs=>some (v :: vs)
   | _,_=>none
def defQ (P:Program) (F:DFn) (R:Value→Heap→Prop):Post
 | .nrm,σ,H=>∃ vs cs,lookL F.keep σ F.fx=some vs∧lookL F.keep σ F.caps=some cs∧
  vc P (fun c H'=>DCalls P F.g cs.toArray (.panicking c) .returning H' fun H''=>finN R H'' (resV (vs.map some) H'' F.res)) F.code σ H fun x _ H'=>
   match x with
   | .ext _=>False
   | _=>DCalls P F.g cs.toArray .returning .returning H' fun H''=>finN R H'' (resV (vs.map some) H'' F.res)
 | _,_,_=>False
section
variable {P:Program}
theorem lookL_tmps {n:Nx} {dd:DD} {keep:List Nat} {σ:Slots} {a:Act} (h:F2 n dd keep [] σ [] a):∀ {ts:List Nat} {vs:List Value},lookL keep σ ts=some vs→ts.map (fun t=>a.tmps.getD t undef)=vs∧∀ t ∈ ts,a.tmps[t]?=some (a.tmps.getD t undef)
 | [],vs,hv=>by simp [lookL] at hv; subst hv; exact ⟨rfl,fun t ht=>by cases ht⟩
 | t :: ts,vs,hv=>by
   simp only [lookL] at hv
   split at hv
   ·rename_i v vs' h1 h2
    simp at hv; subst hv
    obtain ⟨k,hk,hs⟩:=lookS_pos h1
    have e:=h.slots t k v hk hs
    obtain ⟨i1,i2⟩:=lookL_tmps h h2
    have e':a.tmps.getD t undef=v:=by simp [Array.getD_eq_getD_getElem?,e]
    refine ⟨by rw [List.map_cons,e',i1],fun t' ht'=>?_⟩
    rcases List.mem_cons.1 ht' with rfl | ht'
    ·rw [e',e]
    ·exact i2 t' ht'
   ·cases hv
theorem mapM_tmps {xs:List Operand} {cs:List Nat} (h:xs.mapM (fun (x:Operand)=>match x with | .tmp t=>some t | _=>none)=some cs):xs=cs.map .tmp:=by
 induction xs generalizing cs with
 | nil=>simp at h; subst h; rfl
 | cons x xs ih=>
   simp only [List.mapM_cons,Option.bind_eq_bind,Option.bind_eq_some_iff,Option.pure_def,Option.some.injEq] at h
   obtain ⟨t,h1,ts,h2,rfl⟩:=h
   cases x with
   | tmp u=>simp at h1; subst h1; simp [ih h2]
   | const u=>simp at h1
   | global u=>simp at h1
   | func u=>simp at h1
theorem defTarget_spec {o1 o2:Oper} {g d:Nat} {cs:List Nat} (h:defTarget o1 o2=some (g,d,cs)) :
 o1.op= .makeFunc (.func g) #[] (cs.map Operand.tmp).toArray∧o1.dst=some d∧o1.guard=none∧(∃ tys,o2.op= .defer { callee:=.value (.tmp d),args:=#[],argTypes:=tys })∧o2.dst=none∧o2.guard=none:=by
 unfold defTarget at h
 split at h
 ·rename_i g' first caps d' d'' args tys h1 h2 h3 h4 h5 h6
  split at h
  ·rename_i hc
   obtain ⟨rfl,hc2,hc3⟩:=hc
   split at h
   ·rename_i cs' hcs
    simp at h
    obtain ⟨rfl,rfl,rfl⟩:=h
    have e1:first=#[]:=by
     apply Array.toList_inj.1; simpa using hc2
    have e2:args=#[]:=by
     apply Array.toList_inj.1; simpa using hc3
    have e3:caps=(cs'.map Operand.tmp).toArray:=by
     apply Array.toList_inj.1; simpa using mapM_tmps hcs
    subst e1 e2 e3
    exact ⟨h1,h2,h3,⟨tys,h4⟩,h5,h6⟩
   ·cases h
  ·cases h
 ·cases h
theorem calls_of_defers {f:Nat} {fn:Func} {keep fx:List Nat} {F:DFn} {args:List Value} {H:Heap} {R:Value→Heap→Prop} (hf:P.funcs[f]?=some fn) (hs:stripDef P keep fx fn=some F)
 (hn:args.length≤F.n) (h:vc P (fun _ _=>False) F.pre (argS F.keep args) H (defQ P F R)):HCalls P f args.toArray H R:=by
 unfold stripDef at hs
 split at hs
 case isFalse=>cases hs
 rename_i hkn
 split at hs
 case h_2=>cases hs
 rename_i A rid ops C hb
 split at hs
 case h_2=>cases hs
 rename_i o1 o2 hops
 split at hs
 case h_2=>cases hs
 rename_i g d cs hdt
 split at hs
 case isFalse=>cases hs
 rename_i hc
 split at hs
 case h_2=>cases hs
 rename_i sa sc rs hA hC hR
 simp at hs; subst hs
 simp only [Bool.and_eq_true,decide_eq_true_eq,Bool.not_eq_true',Option.isNone_iff_eq_none] at hc
 obtain ⟨⟨⟨hdn,hdk⟩,hdx⟩,hgb⟩:=hc
 obtain ⟨e1,e2,e3,⟨tys,e4⟩,e5,e6⟩:=defTarget_spec hdt
 intro w hw
 subst hw
 refine calls_of_wp_defers hf hb ?_
 refine wp_seq (wp_mono (vc_sound A hA (fits_args (dd:=⟨[],fun _=>undef⟩) hn hkn) (Same.refl w) h) fun e a w1 hq=>?_)
 cases e <;> simp only [QX,Exit.then] at hq ⊢
 case exit=>exact hq.2.elim fun σ h=>h.2.elim
 case ret=>exact hq.2.elim fun σ h=>h.2.elim
 case panic=>exact hq.2.2.elim
 all_goals try exact hq.elim
 obtain ⟨hs1,σ,hfit,vs,cvs,hvs,hcvs,hv⟩:=hq
 obtain ⟨f1,f2⟩:=lookL_tmps hfit hvs
 obtain ⟨g1,g2⟩:=lookL_tmps hfit hcvs
 -- the frame behind the deferring
 let fv:Value:=.func (.func g) #[] cvs.toArray
 let a2:Act:={ (a.put (some d) fv) with defers:=[{ target:=.fn (.func g) cvs.toArray,args:=#[] }] }
 have hd:d < a.tmps.size:=by rw [hfit.size]; exact hdn
 have ha0:a.defers=[]:=hfit.fixd.1
 refine wp_seq (wp_region_list ?_)
 rw [hops]
 have w1':Region.wanted o1 (yielded ops a.tmps)=true:=by simp [Region.wanted,e3]
 have w2':Region.wanted o2 (yielded ops (a.put o1.dst fv).tmps)=true:=by simp [Region.wanted,e6]
 have x1:(execOp a.eval o1).run P w1= .ok (.value fv) w1:=by
  have:(cs.map Operand.tmp).toArray.map a.eval=cvs.toArray:=by
   apply Array.toList_inj.1
   simp only [List.map_toArray,List.map_map]
   rw [← g1]
   apply List.map_congr_left
   intro t ht
   rfl
  simp [execOp,e1,Instr.makeFunc,fv,← this]
 have x2:(execOp (a.put o1.dst fv).eval o2).run P w1= .ok (.defer { target:=.fn (.func g) cvs.toArray,args:=#[] }) w1:=by
  have:(a.put o1.dst fv).eval (.tmp d)=fv:=by
   simp [Act.eval,e2,Act.put,Array.getD_eq_getD_getElem?,hd]
  simp [execOp,e4,resolve,this,fv,Deferred.ofValue]
 unfold wpList
 rw [if_pos w1']
 refine .inl ?_
 unfold Oper.wp
 rw [x1]
 simp only [Oper.upon_value]
 unfold wpList
 rw [if_pos w2']
 refine .inl ?_
 unfold Oper.wp
 rw [x2]
 simp only [Oper.upon_defer]
 unfold wpList
 have hact:({ (a.put o1.dst fv) with defers:={ target:=.fn (.func g) cvs.toArray,args:=#[] } :: (a.put o1.dst fv).defers }:Act).put o2.dst undef=a2:=by
  simp [e2,e5,a2,Act.put,ha0]
 rw [hact]
 simp only [Exit.then]
 -- the code behind it
 let dd:DD:=⟨[{ target:=.fn (.func g) cvs.toArray,args:=#[] }],fun t=>a.tmps.getD t undef⟩
 have hne:∀ t ∈ fx,d≠t:=by
  rintro t ht rfl
  simp only [List.elem_eq_contains,List.contains_eq_mem,decide_eq_false_iff_not] at hdx
  exact hdx ht
 have hget:∀ t,d≠t→a2.tmps[t]?=a.tmps[t]?:=fun t ht=>by simp [a2,Act.put,Array.getElem?_setIfInBounds_ne ht]
 have hfit2:F2 ⟨fn.ntmps,fx⟩ dd keep [] σ [] a2:=by
  refine ⟨by simp [a2,Act.put]; exact hfit.size,⟨rfl,fun t ht=>?_⟩,fun t k v ht hu=>?_,fun t k v _ hk _=>by simp [posOf] at hk⟩
  ·rw [hget t (hne t ht)]; exact f2 t ht
  ·have:d≠t:=by rintro rfl; rw [hdk] at ht; cases ht
   rw [hget t this]; exact hfit.slots t k v ht hu
 have fin:∀ (a':Act) (w':World) (u:FrameMode),u≠.run→Fixed ⟨fn.ntmps,fx⟩ dd a'→Same w w'→DCalls P g cvs.toArray u .returning w'.heap (fun H''=>finN R H'' (resV (vs.map some) H'' rs))→
  Leaves P fn a'.tmps (EndH R (fun _ _=>False) w) a'.defers u w':=by
  intro a' w' u hu hfx hs' hD
  rw [hfx.1]
  refine leaves_cons (f:=g) (args:=cvs.toArray) hu ?_ ((hD w' rfl).mono fun e m w'' ⟨v,he,hm,hR',hs''⟩=>?_)
  ·simp [invoke,run_callFunc hgb]
  ·subst he
   simp only [hm]
   unfold Leaves
   -- the results
   have hF:F2 ⟨a'.tmps.size,fx⟩ dd fx [] (vs.map some) [] a':=by
    refine ⟨rfl,hfx,fun t k v' ht hu=>?_,fun t k v _ hk _=>by simp [posOf] at hk⟩
    have hg:=posOf_get ht
    have hm':t ∈ fx:=List.mem_of_getElem? hg
    rw [hfx.2 t hm']
    rw [← f1] at hu
    simp only [List.getElem?_map,hg,Option.map_some,Option.some.injEq] at hu
    simpa [dd] using hu
   replace hR':finN R w''.heap (resV (vs.map some) w''.heap rs):=hR'
   cases hr:resV (vs.map some) w''.heap rs with
   | none=>rw [hr] at hR'; exact hR'.elim
   | some us=>
     rw [hr] at hR'
     refine ⟨_,results_ok hF hR hr,?_,hs'.trans hs''⟩
     match us,hR' with
     | [],hfin=>exact hfin
     | [v],hfin=>exact hfin
     | v :: u :: r,hfin=>exact hfin
 refine wp_mono (vc_sound C hC hfit2 hs1 hv) fun e a' w' hq=>?_
 cases e <;> simp only [QX,bodyPostD] at hq ⊢
 ·obtain ⟨hs',σ',hf',hq⟩:=hq; exact fin a' w' _ (by simp) hf'.fixd hs' hq
 ·exact hq.2.elim fun _ h=>h.2.elim
 ·obtain ⟨hs',σ',hf',hq⟩:=hq; exact fin a' w' _ (by simp) hf'.fixd hs' hq
 ·obtain ⟨hs',hfx,hq⟩:=hq; exact fin a' w' _ (by simp) hfx hs' hq
structure RFn where
 n:Nat
 keep:List Nat
 d0:Nat
 d1:Nat
 code:SCode
 res:List RV
def recOps (o0 o1:Oper):Option (Nat × Nat):=
 match o0.op,o0.dst,o0.guard,o1.op,o1.dst,o1.guard with
 | .call { callee:=.builtin .recover,args:=_,argTypes:=_ },some d0,none,.assign (.tmp d),some d1,none=>if d=d0 then some (d0,d1) else none
 | _,_,_,_,_,_=>none
def stripRec (P:Program) (keep:List Nat) (fn:Func):Option RFn:=
 if keep.all (fun t=>decide (t < fn.ntmps)) then
  match fn.body with
  | some (.seq (.region _ ops false) C)=>
    match ops.toList with
    | [o0,o1]=>match recOps o0 o1 with
      | some (d0,d1)=>
        if decide (d0 < fn.ntmps) && decide (d1 < fn.ntmps) then
         match strip P ⟨fn.ntmps,[]⟩ keep C,stripRVs P keep fn.results.toList with
         | some c,some rs=>some ⟨fn.ntmps,keep,d0,d1,c,rs⟩
         | _,_=>none
        else none
      | none=>none
    | _=>none
  | _=>none
 else none
def recV:FrameMode→Option (Value × FrameMode)
 | .returning=>some (.nilIface,.returning)
 | .panicking [{ v,recovered:=false,goexit:=false }]=>some (v,.panicking [{ v,recovered:=true }])
 | _=>none
theorem recOps_spec {o0 o1:Oper} {d0 d1:Nat} (h:recOps o0 o1=some (d0,d1)) :
 (∃ xs tys,o0.op= .call { callee:=.builtin .recover,args:=xs,argTypes:=tys })∧o0.dst=some d0∧o0.guard=none∧o1.op= .assign (.tmp d0)∧o1.dst=some d1∧o1.guard=none:=by
 unfold recOps at h
 split at h
 ·rename_i xs tys e0 d e1 h1 h2 h3 h4 h5 h6
  split at h
  ·rename_i hc
   simp at h; obtain ⟨rfl,rfl⟩:=h
   subst hc
   exact ⟨⟨_,_,h1⟩,h2,h3,h4,h5,h6⟩
  ·cases h
 ·cases h
theorem dcalls_of_rec {g:Nat} {fn:Func} {keep:List Nat} {F:RFn} {args:List Value} {H:Heap} {R:Heap→Prop} {u m:FrameMode} {v:Value} (hf:P.funcs[g]?=some fn) (hs:stripRec P keep fn=some F)
 (hn:args.length≤F.n) (hu:recV u=some (v,m)) (h:vc P (fun _ _=>False) F.code (putS (cD F.keep (some F.d1)) v (putS (cD F.keep (some F.d0)) v (argS F.keep args))) H (finQ F.res (fun _ H'=>R H'))) :
 DCalls P g args.toArray u (settle m) H R:=by
 unfold stripRec at hs
 split at hs
 case isFalse=>cases hs
 rename_i hkn
 split at hs
 case h_2=>cases hs
 rename_i rid ops C hb
 split at hs
 case h_2=>cases hs
 rename_i o0 o1 hops
 split at hs
 case h_2=>cases hs
 rename_i d0 d1 hro
 split at hs
 case isFalse=>cases hs
 rename_i hc
 split at hs
 case h_2=>cases hs
 rename_i sc rs hC hR
 simp at hs; subst hs
 simp only [Bool.and_eq_true,decide_eq_true_eq] at hc
 obtain ⟨hd0,hd1⟩:=hc
 obtain ⟨⟨xs,tys,e1⟩,e2,e3,e4,e5,e6⟩:=recOps_spec hro
 intro w hw
 subst hw
 refine callsD_of_wpS hf hb fun c₀ cs hc₀=>?_
 refine wpS_seq (wpS_region ?_)
 have hsz:ops.size=2:=by rw [← Array.length_toList,hops]; rfl
 have hg0:ops[0]?=some o0:=by rw [← Array.getElem?_toList,hops]; rfl
 have hg1:ops[1]?=some o1:=by rw [← Array.getElem?_toList,hops]; rfl
 have hrange:List.range ops.size=[0,1]:=by rw [hsz]; rfl
 rw [hrange]
 let a0:Act:={ tmps:=args.toArray ++ Array.replicate (fn.ntmps - args.toArray.size) undef,defers:=[] }
 have hF0:F2 ⟨fn.ntmps,[]⟩ ⟨[],fun _=>undef⟩ keep [] (argS keep args) [] a0:=fits_args (dd:=⟨[],fun _=>undef⟩) hn hkn
 have hF1:=(hF0.put (d:=some d0) (by simp [dstOk,hd0]) v).rest
 have hF2:=(hF1.put (d:=some d1) (by simp [dstOk,hd1]) v).rest
 -- the two operations
 have x0:(execOp a0.eval o0).run P w= .ok .recover w:=by simp [execOp,e1,resolve,invoke,builtin]
 have x1:(execOp (a0.put o0.dst v).eval o1).run P w= .ok (.value v) w:=by
  have hsz0:d0 < a0.tmps.size:=by rw [hF0.size]; exact hd0
  have:(a0.put o0.dst v).eval (.tmp d0)=v:=by
   simp [Act.eval,e2,Act.put,Array.getD_eq_getD_getElem?,hsz0]
  simp [execOp,e4,this]
 have w0':Region.wanted o0 (yielded ops a0.tmps)=true:=by simp [Region.wanted,e3]
 have w1':Region.wanted o1 (yielded ops (a0.put o0.dst v).tmps)=true:=by simp [Region.wanted,e6]
 have hrec:∃ cs',(∀ Q:Exit→Act→List Frame→World→Prop,wpOpsS P ops Q [1] (a0.put o0.dst v) cs' w→wpOpsS P ops Q [0,1] a0 (c₀ :: cs) w)∧cs'={ c₀ with mode:=m } :: cs:=by
  cases u with
  | run=>simp [recV] at hu
  | returning=>
    simp [recV] at hu; obtain ⟨rfl,rfl⟩:=hu
    refine ⟨c₀ :: cs,fun Q hq=>?_,by rw [← hc₀]⟩
    rw [wpOpsS,hg0]
    simp only [if_pos w0',x0,recoverD,hc₀]
    exact hq
  | panicking chain=>
    match chain,hu with
    | [{ v:=v',recovered:=false,goexit:=false }],hu=>
      simp [recV] at hu; obtain ⟨rfl,rfl⟩:=hu
      refine ⟨_,fun Q hq=>?_,rfl⟩
      rw [wpOpsS,hg0]
      simp only [if_pos w0',x0,recoverD,hc₀]
      exact hq
 obtain ⟨cs',hstep,rfl⟩:=hrec
 refine hstep _ ?_
 rw [wpOpsS,hg1]
 simp only [if_pos w1',x1,Oper.upon_value]
 rw [wpOpsS]
 simp only [Exit.thenS]
 rw [e2,e5]
 refine wpS_of_wp ?_
 refine wp_mono (vc_sound C hC hF2 (Same.refl w) h) fun e a w' hq=>?_
 have fin:∀ σ,F2 ⟨fn.ntmps,[]⟩ ⟨[],fun _=>undef⟩ keep [] σ [] a→Same w w'→finN (fun _ H'=>R H') w'.heap (resV σ w'.heap rs)→
  a.defers=[]∧∃ u',{ c₀ with mode:=m } :: cs={ c₀ with mode:=u' } :: cs∧∃ v,(results fn a.tmps).run P w'= .ok v w'∧∃ v',Ending.returned v= .returned v'∧settle u'=settle m∧R w'.heap∧Same w w':=by
  intro σ hfit hsame hfin
  refine ⟨hfit.fixd.1,m,rfl,?_⟩
  cases hr:resV σ w'.heap rs with
  | none=>rw [hr] at hfin; exact hfin.elim
  | some vs=>
    rw [hr] at hfin
    refine ⟨_,results_ok hfit hR hr,_,rfl,rfl,?_,hsame⟩
    match vs,hfin with
    | [],hfin=>exact hfin
    | [v],hfin=>exact hfin
    | v :: u :: r,hfin=>exact hfin
 cases e <;> simp only [QX,bodyPostS,finQ] at hq ⊢
 ·obtain ⟨hsame,σ,hfit,hfin⟩:=hq; exact fin σ hfit hsame hfin
 ·obtain ⟨_,_,_,hfin⟩:=hq; exact hfin
 ·obtain ⟨hsame,σ,hfit,hfin⟩:=hq; exact fin σ hfit hsame hfin
 ·exact hq.2.2.elim
end
end Gx
