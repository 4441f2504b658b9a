import Derived.Test.YtdhlibkdcldioaaGreatB5
import Derived.Deep.LoopGhost
import Derived.Scope
section
namespace Gx
open Go
abbrev Env:=List (Nat × Value)
def Env.get:Env→Nat→Option Value
 | [],_=>none
 | (i,v) :: r,t=>if i=t then some v else Env.get r t
def mkS:List Nat→Env→Slots
 | [],_=>[]
 | t :: r,E=>Env.get E t :: mkS r E
def lookS:List Nat→Slots→Nat→Option Value
 | k :: ks,s :: ss,t=>if k=t then s else lookS ks ss t
 | _,_,_=>none
def knowsK (keep:List Nat) (σ:Slots):Env→Prop
 | []=>True
 | (t,v) :: r=>lookS keep σ t=some v∧knowsK keep σ r
theorem mkS_get:∀ {keep:List Nat} {E:Env} {t k:Nat} {v:Value},posOf keep t=some k→(mkS keep E)[k]?=some (some v)→E.get t=some v
 | [],E,t,k,v,h,_=>by simp [posOf] at h
 | x :: r,E,t,k,v,h,hv=>by
   simp only [posOf] at h
   split at h
   ·rename_i e; subst e; simp at h; subst h
    simpa [mkS] using hv
   ·split at h
    ·rename_i j hj; simp at h; subst h
     exact mkS_get hj (by simpa [mkS] using hv)
    ·cases h
theorem lookS_pos:∀ {keep:List Nat} {σ:Slots} {t:Nat} {v:Value},lookS keep σ t=some v→∃ k,posOf keep t=some k∧σ[k]?=some (some v)
 | [],σ,t,v,h=>by simp [lookS] at h
 | x :: r,[],t,v,h=>by simp [lookS] at h
 | x :: r,s :: ss,t,v,h=>by
   simp only [lookS] at h
   split at h
   ·rename_i e; subst e; subst h; exact ⟨0,by simp [posOf],rfl⟩
   ·rename_i e
    obtain ⟨k,h1,h2⟩:=lookS_pos h
    exact ⟨k + 1,by simp [posOf,if_neg e,h1],by simpa using h2⟩
theorem knows_get {keep:List Nat} {σ:Slots}:∀ {E:Env} {t:Nat} {v:Value},knowsK keep σ E→E.get t=some v→lookS keep σ t=some v
 | [],t,v,_,h=>by simp [Env.get] at h
 | (i,u) :: r,t,v,hk,h=>by
   simp only [Env.get] at h
   split at h
   ·rename_i e; subst e; simp at h; subst h; exact hk.1
   ·exact knows_get hk.2 h
theorem F2.head {n:Nx} {dd:DD} {keep lay:List Nat} {σ:Slots} {τ:List Value} {a:Act} {E:Env} (h:F2 n dd keep lay σ τ a) (hk:knowsK keep σ E):F2 n dd keep [] (mkS keep E) [] a:=by
 refine ⟨h.size,h.fixd,fun t k v ht hv=>?_,fun t k v _ hk _=>by simp [posOf] at hk⟩
 obtain ⟨j,h1,h2⟩:=lookS_pos (knows_get hk (mkS_get ht hv))
 exact h.slots t j v h1 h2
theorem F2.rest {n:Nx} {dd:DD} {keep lay:List Nat} {σ:Slots} {τ:List Value} {a:Act} (h:F2 n dd keep lay σ τ a):F2 n dd keep [] σ [] a:=
 ⟨h.size,h.fixd,h.slots,fun t k v _ hk _=>by simp [posOf] at hk⟩
inductive SCode where
 | skip
 | ops (l:List GOp)
 | dq (l:List GOp)
 | de (t:DT)
 | seq (a b:SCode)
 | cond (c:Opd) (thn els:SCode)
 | block (id:Nat) (body:SCode)
 | loop (keep:List Nat) (body:SCode)
 | exit (id:Nat)
 | ret
inductive X where
 | nrm
 | ext (id:Nat)
 | ret
abbrev Post:=X→Slots→Heap→Prop
def nrmK (Q:Post):Slots→Heap→Prop:=fun σ H=>Q .nrm σ H
def seqK (F:Slots→Heap→Prop) (Q:Post):Post
 | .nrm,ρ,H=>F ρ H
 | .ext i,ρ,H=>Q (.ext i) ρ H
 | .ret,ρ,H=>Q .ret ρ H
def blockK (id:Nat) (Q:Post):Post
 | .nrm,ρ,H=>Q .nrm ρ H
 | .ext i,ρ,H=>if i=id then Q .nrm ρ H else Q (.ext i) ρ H
 | .ret,ρ,H=>Q .ret ρ H
def condN (A B:Prop):Option Value→Prop
 | some (.bool t)=>(t=true→A)∧(t=false→B)
 | _=>False
def loopK {α:Type} (keep:List Nat) (I:α→Heap→Prop) (E:α→Env) (μ:α→Nat) (x:α):Slots→Heap→Prop:=
 fun σ' H'=>∃ y,μ y < μ x∧knowsK keep σ' (E y)∧I y H'
def vc (P:Program) (E:Chain→Heap→Prop):SCode→Slots→Heap→Post→Prop
 | .skip,σ,H,Q=>Q .nrm σ H
 | .ops l,σ,H,Q=>vcOps P E l σ [] H (nrmK Q)
 | .dq l,σ,H,Q=>vcOps P E l σ [] H (nrmK Q)
 | .de t,σ,H,Q=>vcD P E t [] σ [] H (nrmK Q)
 | .seq a b,σ,H,Q=>vc P E a σ H (seqK (fun σ H=>vc P E b σ H Q) Q)
 | .cond c a b,σ,H,Q=>condN (vc P E a σ H Q) (vc P E b σ H Q) (evO σ [] c)
 | .block id c,σ,H,Q=>vc P E c σ H (blockK id Q)
 | .loop keep c,σ,H,Q=>∃ (α:Type) (I:α→Heap→Prop) (En:α→Env) (μ:α→Nat) (x₀:α),I x₀ H∧knowsK keep σ (En x₀)∧
  ∀ x H,I x H→vc P E c (mkS keep (En x)) H (seqK (loopK keep I En μ x) Q)
 | .exit i,σ,H,Q=>Q (.ext i) σ H
 | .ret,σ,H,Q=>Q .ret σ H
def stripOps (P:Program) (n:Nx) (ops:List Oper):List Oper→Option (List RawG)
 | []=>some []
 | o :: r=>match stripG P n ops o,stripOps P n ops r with
   | some g,some gs=>some (g :: gs)
   | _,_=>none
def strip (P:Program) (n:Nx) (keep:List Nat):Code→Option SCode
 | .skip=>some .skip
 | .region _ ops draw=>
   match stripOps P n ops.toList ops.toList with
   | some gs=>
     if draw then
      if gs.all (fun g=>g.s.reads) && Region.lexB .any ops && P.follows .mixedOrders then some (.dq (comp keep (gs.length + 1) none [] gs))
      else if P.follows .mixedOrders && Region.noSelect ops then
       match canonD P n keep ops ops.toList (ops.toList.map (opReads P)) ops.size [] (Array.replicate ops.size false) with
       | some t=>some (.de t)
       | none=>none
      else none
     else some (.ops (comp keep (gs.length + 1) none [] gs))
   | none=>none
 | .seq a b=>match strip P n keep a,strip P n keep b with
   | some x,some y=>some (.seq x y)
   | _,_=>none
 | .cond c a b=>match strip P n keep a,strip P n keep b with
   | some x,some y=>some (.cond (cO keep [] c) x y)
   | _,_=>none
 | .block id c=>match strip P n keep c with
   | some x=>some (.block id x)
   | none=>none
 | .loop c=>match strip P n keep c with
   | some x=>some (.loop keep x)
   | none=>none
 | .exit i=>some (.exit i)
 | .ret=>some .ret
 | .scope c=>strip P n keep c
 | .label _=>some .skip
 | _=>none
section
variable {P:Program} {E:Chain→Heap→Prop} {n:Nx} {dd:DD}
theorem stripOps_aligned {ops:Array Oper}:∀ {l:List Oper} {gs:List RawG},stripOps P n ops.toList l=some gs→Aligned P n ops l gs
 | [],gs,h=>by simp [stripOps] at h; subst h; exact ⟨rfl,fun j o hj=>by simp at hj⟩
 | o :: l,gs,h=>by
   simp only [stripOps] at h
   split at h
   ·rename_i g gs' h1 h2
    simp at h; subst h
    have ih:=stripOps_aligned h2
    refine ⟨by simp [ih.1],fun j o' hj=>?_⟩
    cases j with
    | zero=>simp at hj; subst hj; exact ⟨g,rfl,h1⟩
    | succ j=>simpa using ih.2 j o' (by simpa using hj)
   ·simp at h
theorem aligned_dst {ops:Array Oper} {l:List Oper} {gs:List RawG} (h:Aligned P n ops l gs):∀ o ∈ l,dstOk n o.dst=true:=by
 intro o ho
 obtain ⟨j,hj,rfl⟩:=List.getElem_of_mem ho
 obtain ⟨g,_,hg⟩:=h.2 j _ (List.getElem?_eq_getElem hj)
 exact (stripG_spec hg).1
theorem allowed_all {gs:List RawG}:rawAllow (Sense.all P E) gs=true:=by
 simp only [rawAllow,List.all_eq_true]
 intro g _; rfl
theorem allowed_quiet {gs:List RawG} (h:gs.all (fun g=>g.s.reads)=true):rawAllow (Sense.quiet P E) gs=true:=h
def QX (E:Chain→Heap→Prop) (n:Nx) (dd:DD) (keep:List Nat) (w0:World) (Q:Post):Exit→Act→World→Prop
 | .normal,a,w=>Same w0 w∧∃ σ,F2 n dd keep [] σ [] a∧Q .nrm σ w.heap
 | .exit i,a,w=>Same w0 w∧∃ σ,F2 n dd keep [] σ [] a∧Q (.ext i) σ w.heap
 | .ret,a,w=>Same w0 w∧∃ σ,F2 n dd keep [] σ [] a∧Q .ret σ w.heap
 | .panic c,a,w=>Same w0 w∧Fixed n dd a∧E c w.heap
 | _,_,_=>False
theorem wpQuiet_mono {ops:Array Oper} {C:World→Prop} {Q Q':Act→Prop} (h:∀ a,Q a→Q' a):∀ (l:List Oper) (a:Act),wpQuiet P ops C Q l a→wpQuiet P ops C Q' l a
 | [],a,hq=>h a hq
 | o :: l,a,hq=>by
   unfold wpQuiet at *
   split
   ·rename_i hw; rw [if_pos hw] at hq; exact Oper.quiet_mono (fun a=>wpQuiet_mono h l a) hq
   ·rename_i hw; rw [if_neg hw] at hq; exact wpQuiet_mono h l _ hq
theorem vc_sound {keep:List Nat}:∀ (c:Code) {s:SCode},strip P n keep c=some s→∀ {σ:Slots} {a:Act} {w w0:World} {Q:Post},F2 n dd keep [] σ [] a→Same w0 w→vc P E s σ w.heap Q→c.wp P (QX E n dd keep w0 Q) a w
 | .skip,s,hs,σ,a,w,w0,Q,hf,hw,hv=>by
   simp [strip] at hs; subst hs
   exact wp_skip ⟨hw,σ,hf,hv⟩
 | .exit i,s,hs,σ,a,w,w0,Q,hf,hw,hv=>by
   simp [strip] at hs; subst hs
   exact wp_exit ⟨hw,σ,hf,hv⟩
 | .ret,s,hs,σ,a,w,w0,Q,hf,hw,hv=>by
   simp [strip] at hs; subst hs
   exact wp_ret ⟨hw,σ,hf,hv⟩
 | .region id ops draw,s,hs,σ,a,w,w0,Q,hf,hw,hv=>by
   simp only [strip] at hs
   split at hs
   case h_2=>simp at hs
   rename_i gs hgs
   have hal:=stripOps_aligned hgs
   cases draw with
   | false=>
     simp only [Bool.false_eq_true,if_false,Option.some.injEq] at hs; subst hs
     have:=comp_sound (keep:=keep) (Sense.all P E) (Q:=fun a H=>∃ σ,F2 n dd keep [] σ [] a∧Q .nrm σ H) (K:=nrmK Q) (fun lay σ τ a H hf h=>⟨_,hf.rest,h⟩) (gs.length + 1) none [] gs ops.toList hal allowed_all σ [] a w.heap hf hv
     exact wp_region_list (wpList_of_runL (n:=n) (dd:=dd) ops.toList a w w0 hw hf.fixd (aligned_dst hal) (fun a w' hs' h=>⟨hs',h⟩) (fun c a w' hd hs' hE=>⟨hs',hd,hE⟩) this)
   | true=>
     simp only [if_true] at hs
     split at hs
     ·rename_i hc
      simp only [Bool.and_eq_true] at hc
      simp only [Option.some.injEq] at hs; subst hs
      have:=comp_sound (keep:=keep) (Sense.quiet P E) (Q:=fun a H=>∃ σ,F2 n dd keep [] σ [] a∧Q .nrm σ H) (K:=nrmK Q) (fun lay σ τ a H hf h=>⟨_,hf.rest,h⟩) (gs.length + 1) none [] gs ops.toList hal (allowed_quiet hc.1.1) σ [] a w.heap hf hv
      have hq:=wpQuiet_of_runL (w0:=w0) _ _ this
      refine wp_region_quiet (C:=fun w'=>w'.heap=w.heap∧Same w0 w') hc.2 hc.1.2 ⟨rfl,⟨hw.os,hw.tape,hw.output⟩⟩ ?_
      refine wpQuiet_mono (fun a h w' hw'=>?_) _ _ hq
      obtain ⟨σ,h1,h2⟩:=h
      exact ⟨hw'.2,σ,h1,hw'.1 ▸ h2⟩
     ·split at hs
      ·rename_i hc
       simp only [Bool.and_eq_true] at hc
       split at hs
       ·rename_i dt hdt
        simp only [Option.some.injEq] at hs; subst hs
        refine wp_region_any hc.1 (wpAny_of_G _ _ _ _ (canonD_sound (w0:=w0) (K:=nrmK Q) (fun c a w hd hs' hE=>⟨hs',hd,hE⟩) (fun c a d v w hd h=>⟨h.1,h.2.1.unput hd,h.2.2⟩) (fun lay σ τ a w hf hs hK=>⟨hs,_,hf.rest,hK⟩) hc.2 _ _ _ _ hdt σ [] a _ [] hf ⟨hw.os,hw.tape,hw.output⟩ (fun e he=>by cases he) (fun e he=>by cases he) hv))
       ·simp at hs
      ·simp at hs
 | .seq c d,s,hs,σ,a,w,w0,Q,hf,hw,hv=>by
   simp only [strip] at hs
   split at hs
   ·rename_i x y h1 h2
    simp only [Option.some.injEq] at hs; subst hs
    refine wp_seq (wp_mono (vc_sound c h1 hf hw hv) fun e a' w' hq=>?_)
    cases e <;> simp only [QX,Exit.then] at hq ⊢
    ·obtain ⟨hw',σ',hf',hv'⟩:=hq
     exact vc_sound d h2 hf' hw' hv'
    ·exact hq
    ·exact hq
    ·exact hq
   ·simp at hs
 | .cond x c d,s,hs,σ,a,w,w0,Q,hf,hw,hv=>by
   simp only [strip] at hs
   split at hs
   ·rename_i s1 s2 h1 h2
    simp only [Option.some.injEq] at hs; subst hs
    simp only [vc,condN] at hv
    split at hv
    ·rename_i t ht
     exact wp_cond_split (hf.agree x _ ht) (fun e=>vc_sound c h1 hf hw (hv.1 e)) (fun e=>vc_sound d h2 hf hw (hv.2 e))
    ·exact hv.elim
   ·simp at hs
 | .block id c,s,hs,σ,a,w,w0,Q,hf,hw,hv=>by
   simp only [strip] at hs
   split at hs
   ·rename_i s1 h1
    simp only [Option.some.injEq] at hs; subst hs
    refine wp_block (wp_mono (vc_sound c h1 hf hw hv) fun e a' w' hq=>?_)
    cases e <;> simp only [QX,Exit.inBlock,blockK] at hq ⊢
    ·exact hq
    ·obtain ⟨hw',σ',hf',hv'⟩:=hq
     split at hv'
     ·rename_i e; rw [if_pos e]; exact ⟨hw',σ',hf',hv'⟩
     ·rename_i e; rw [if_neg e]; exact ⟨hw',σ',hf',hv'⟩
    ·exact hq
    ·exact hq
   ·simp at hs
 | .loop c,s,hs,σ,a,w,w0,Q,hf,hw,hv=>by
   simp only [strip] at hs
   split at hs
   ·rename_i s1 h1
    simp only [Option.some.injEq] at hs; subst hs
    obtain ⟨α,I,En,μ,x₀,hI,hk,hround⟩:=hv
    refine wp_loop_ghost (fun m a w=>Same w0 w∧∃ x,F2 n dd keep [] (mkS keep (En x)) [] a∧I x w.heap∧μ x=m) (μ x₀) ⟨hw,x₀,hf.head hk,hI,rfl⟩ fun m a w ⟨hw,x,hf,hI,hm⟩=>?_
    refine wp_mono (vc_sound c h1 hf hw (hround x w.heap hI)) fun e a' w' hq=>?_
    cases e <;> simp only [QX,Exit.then,seqK] at hq ⊢
    ·obtain ⟨hw',σ',hf',y,hlt,hk,hI'⟩:=hq
     exact ⟨μ y,hm ▸ hlt,hw',y,hf'.head hk,hI',rfl⟩
    ·exact hq
    ·exact hq
    ·exact hq
   ·simp at hs
 | .rangeFunc ..,s,hs,σ,a,w,w0,Q,hf,hw,hv=>by simp [strip] at hs
 | .scope c,s,hs,σ,a,w,w0,Q,hf,hw,hv=>by
   simp only [strip] at hs
   refine wp_scope_straight (wp_mono (vc_sound c hs hf hw hv) fun e a' w' hq=>?_)
   cases e <;> first | exact hq | exact hq.elim
 | .label _,s,hs,σ,a,w,w0,Q,hf,hw,hv=>by
   simp [strip] at hs; subst hs
   exact wp_label ⟨hw,σ,hf,hv⟩
 | .goto _,s,hs,σ,a,w,w0,Q,hf,hw,hv=>by simp [strip] at hs
 | .refuse _,s,hs,σ,a,w,w0,Q,hf,hw,hv=>by simp [strip] at hs
end
end Gx
end
section
namespace Gx
open Go
inductive RV where
 | tmp (t:Opd)
 | cell (t:Opd) (sz:Option Nat)
def RV.val (σ:Slots) (H:Heap):RV→Option Value
 | .tmp t=>evO σ [] t
 | .cell t sz=>ldN H sz (evO σ [] t)
def resV (σ:Slots) (H:Heap):List RV→Option (List Value)
 | []=>some []
 | r :: rs=>match r.val σ H,resV σ H rs with
   | some v,some vs=>some (v :: vs)
   | _,_=>none
def finN (R:Value→Heap→Prop) (H:Heap):Option (List Value)→Prop
 | some [v]=>R v H
 | some vs=>R (.tuple vs.toArray) H
 | none=>False
def finQ (rs:List RV) (R:Value→Heap→Prop):Post
 | .nrm,σ,H=>finN R H (resV σ H rs)
 | .ret,σ,H=>finN R H (resV σ H rs)
 | .ext _,_,_=>False
def argV:Option Value→Option Value
 | some v=>some v
 | none=>some undef
def argS:List Nat→List Value→Slots
 | [],_=>[]
 | t :: r,vs=>argV vs.toArray[t]? :: argS r vs
def stripRV (P:Program) (keep:List Nat):ResultVar→Option RV
 | .tmp t=>some (.tmp (cO keep [] (.tmp t)))
 | .cell a t=>match isAggB P t with
   | some false=>some (.cell (cO keep [] (.tmp a)) none)
   | some true=>(sizeOfB P t).map fun n=>.cell (cO keep [] (.tmp a)) (some n)
   | none=>none
def stripRVs (P:Program) (keep:List Nat):List ResultVar→Option (List RV)
 | []=>some []
 | r :: rs=>match stripRV P keep r,stripRVs P keep rs with
   | some x,some xs=>some (x :: xs)
   | _,_=>none
structure Fn where
 n:Nat
 keep:List Nat
 code:SCode
 res:List RV
def stripFn (P:Program) (keep:List Nat) (fn:Func):Option Fn:=
 if keep.all (fun t=>decide (t < fn.ntmps)) then
  match fn.body with
  | some c=>match strip P ⟨fn.ntmps,[]⟩ keep c,stripRVs P keep fn.results.toList with
    | some s,some rs=>some ⟨fn.ntmps,keep,s,rs⟩
    | _,_=>none
  | none=>none
 else none
section
variable {P:Program}
theorem argS_get:∀ {keep:List Nat} {vs:List Value} {t k:Nat} {v:Value},posOf keep t=some k→(argS keep vs)[k]?=some (some v)→vs[t]?=some v∨(vs[t]?=none∧v=undef)
 | [],vs,t,k,v,h,_=>by simp [posOf] at h
 | x :: r,vs,t,k,v,h,hv=>by
   simp only [posOf] at h
   split at h
   ·rename_i e; subst e; simp at h; subst h
    simp only [argS,List.getElem?_cons_zero,Option.some.injEq] at hv
    have e:vs.toArray[x]?=vs[x]?:=by simp
    rw [e] at hv
    cases hx:vs[x]? with
    | none=>rw [hx] at hv; simp [argV] at hv; exact .inr ⟨rfl,hv.symm⟩
    | some u=>rw [hx] at hv; simp [argV] at hv; exact .inl (by rw [hv])
   ·split at h
    ·rename_i j hj; simp at h; subst h
     exact argS_get hj (by simpa [argS] using hv)
    ·cases h
theorem fits_args {n:Nat} {dd:DD} {keep:List Nat} {vs:List Value} (h:vs.length≤n) (hk:keep.all (fun t=>decide (t < n))=true):F2 ⟨n,[]⟩ ⟨[],dd.fix⟩ keep [] (argS keep vs) [] { tmps:=vs.toArray ++ Array.replicate (n - vs.toArray.size) undef,defers:=[] }:=by
 refine ⟨by simp; omega,⟨rfl,fun t ht=>by cases ht⟩,fun t k v ht hv=>?_,fun t k v _ hk _=>by simp [posOf] at hk⟩
 have htn:t < n:=by
  have:=List.mem_of_getElem? (posOf_get ht)
  have:=List.all_eq_true.1 hk t this
  simpa using this
 rcases argS_get ht hv with h1 | ⟨h1,rfl⟩
 ·have hlt:t < vs.length:=by
   rcases Nat.lt_or_ge t vs.length with h | h
   ·exact h
   ·rw [List.getElem?_eq_none h] at h1; cases h1
  simp [Array.getElem?_append,hlt]
  simpa [hlt] using h1
 ·have hge:vs.length≤t:=by
   rcases Nat.lt_or_ge t vs.length with h | h
   ·rw [List.getElem?_eq_getElem h] at h1; cases h1
   ·exact h
  rw [Array.getElem?_append_right (by simpa using hge)]
  simp [Array.getElem?_replicate]; omega
theorem run_loadVar_ok {a:Nat} {t:TypeId} {r:RV} {n:Nx} {dd:DD} {keep:List Nat} {σ:Slots} {act:Act} (h:stripRV P keep (.cell a t)=some r) (hf:F2 n dd keep [] σ [] act) {w:World} {v:Value} (hv:r.val σ w.heap=some v) :
 (do loadVar t (← asAddr (act.tmps.getD a undef)):Sem Value).run P w= .ok v w:=by
 have key:∀ sz,(sz=none∧isAggB P t=some false∨∃ n,sz=some n∧isAggB P t=some true∧sizeOfB P t=some n)→ldN w.heap sz (evO σ [] (cO keep [] (.tmp a)))=some v→(do loadVar t (← asAddr (act.tmps.getD a undef)):Sem Value).run P w= .ok v w:=by
  intro sz hsz hv
  unfold ldN at hv
  split at hv
  ·rename_i ad hx
   have:act.tmps.getD a undef= .pointer (some ad):=by simp [Array.getD_eq_getD_getElem?,hf.tmp hx]
   simp [this,asAddr,run_ld hsz hv]
  ·simp at hv
 simp only [stripRV] at h
 split at h
 ·rename_i hag; simp at h; subst h; exact key none (.inl ⟨rfl,hag⟩) hv
 ·rename_i hag
  simp only [Option.map_eq_some_iff] at h
  obtain ⟨k,hk,rfl⟩:=h
  exact key (some k) (.inr ⟨k,rfl,hag,hk⟩) hv
 ·simp at h
theorem run_results {n:Nx} {dd:DD} {keep:List Nat} {σ:Slots} {act:Act} (hf:F2 n dd keep [] σ [] act) {w:World} {f:ResultVar→Sem Value} (hf1:∀ t,f (.tmp t)=pure (act.tmps.getD t undef)) (hf2:∀ a t,f (.cell a t)=do loadVar t (← asAddr (act.tmps.getD a undef))) :
 ∀ {rs:List ResultVar} {xs:List RV} {vs:List Value},stripRVs P keep rs=some xs→resV σ w.heap xs=some vs→(rs.mapM f).run P w= .ok vs w
 | [],xs,vs,h,hv=>by simp [stripRVs] at h; subst h; simp [resV] at hv; subst hv; simp
 | r :: rs,xs,vs,h,hv=>by
   simp only [stripRVs] at h
   split at h
   ·rename_i x xs' h1 h2
    simp at h; subst h
    simp only [resV] at hv
    split at hv
    ·rename_i v vs' h3 h4
     simp at hv; subst hv
     have ih:=run_results hf hf1 hf2 h2 h4
     have hr:(f r).run P w= .ok v w:=by
      cases r with
      | tmp t=>
        simp [stripRV] at h1; subst h1
        simp only [RV.val] at h3
        simp [hf1,Array.getD_eq_getD_getElem?,hf.tmp h3]
      | cell a t=>rw [hf2]; exact run_loadVar_ok h1 hf h3
     simp only [List.mapM_cons,Sem.run_bind,hr,Result.andThen_ok,ih,Sem.run_pure]
    ·simp at hv
   ·simp at h
theorem results_ok {fn:Func} {n:Nx} {dd:DD} {keep:List Nat} {σ:Slots} {act:Act} (hf:F2 n dd keep [] σ [] act) {w:World} {xs:List RV} {vs:List Value} (h:stripRVs P keep fn.results.toList=some xs) (hv:resV σ w.heap xs=some vs) :
 (results fn act.tmps).run P w= .ok (match vs with | [v]=>v | vs=>.tuple vs.toArray) w:=by
 simp only [results,Array.mapM_eq_mapM_toList,Sem.run_bind,Sem.run_map]
 rw [run_results hf (fun _=>rfl) (fun _ _=>rfl) h hv]
 simp only [Result.andThen_ok,Sem.run_pure]
 match vs with
 | []=>rfl
 | [v]=>rfl
 | v :: u :: r=>simp
theorem pcalls_of_vc {f:Nat} {fn:Func} {keep:List Nat} {F:Fn} {args:List Value} {H:Heap} {R:Value→Heap→Prop} {E:Chain→Heap→Prop} (hf:P.funcs[f]?=some fn) (hs:stripFn P keep fn=some F)
 (hn:args.length≤F.n) (h:vc P E F.code (argS F.keep args) H (finQ F.res R)):PCalls P f args.toArray H R E:=by
 unfold stripFn at hs
 split at hs
 case isFalse=>cases hs
 rename_i hkn
 split at hs
 ·rename_i c hb
  split at hs
  ·rename_i s rs h1 h2
   simp at hs; subst hs
   intro w hw
   subst hw
   refine calls_of_wp hf hb ?_
   refine wp_mono (vc_sound c h1 (fits_args (dd:=⟨[],fun _=>undef⟩) hn hkn) (Same.refl w) h) fun e a w' hq=>?_
   have fin:∀ σ,F2 ⟨fn.ntmps,[]⟩ ⟨[],fun _=>undef⟩ keep [] σ [] a→Same w w'→finN R w'.heap (resV σ w'.heap rs)→a.defers=[]∧∃ v,(results fn a.tmps).run P w'= .ok v w'∧EndH R E w (.returned v) w':=by
    intro σ hfit hsame hfin
    refine ⟨hfit.fixd.1,?_⟩
    cases hr:resV σ w'.heap rs with
    | none=>rw [hr] at hfin; exact hfin.elim
    | some vs=>
      rw [hr] at hfin
      refine ⟨_,results_ok hfit h2 hr,?_,hsame⟩
      match vs,hfin with
      | [],hfin=>exact hfin
      | [v],hfin=>exact hfin
      | v :: u :: r,hfin=>exact hfin
   cases e <;> simp only [QX,bodyPost,finQ] at hq ⊢
   ·obtain ⟨hsame,σ,hfit,hfin⟩:=hq; exact fin σ hfit hsame hfin
   ·obtain ⟨_,_,_,hfin⟩:=hq; exact hfin
   ·obtain ⟨hsame,σ,hfit,hfin⟩:=hq; exact fin σ hfit hsame hfin
   ·obtain ⟨hsame,hfx,hE⟩:=hq; exact ⟨hfx.1,hE,hsame⟩
  ·simp at hs
 ·simp at hs
theorem calls_of_vc {f:Nat} {fn:Func} {keep:List Nat} {F:Fn} {args:List Value} {H:Heap} {R:Value→Heap→Prop} (hf:P.funcs[f]?=some fn) (hs:stripFn P keep fn=some F)
 (hn:args.length≤F.n) (h:vc P (fun _ _=>False) F.code (argS F.keep args) H (finQ F.res R)):HCalls P f args.toArray H R:=pcalls_of_vc hf hs hn h
end
end Gx
end
