import Derived.Test.YtmhdkbmnpekpoaaGreatDoorB7
import Derived.Test.YtmhdkbmnpekpoaaGreatDoorB2
import Derived.Test.YtmhdkbmnpekpoaaGreatDoorRows
import Derived.WalkKit
import Derived.ProofKit
import Derived.OpenShut
import Derived.LaidMore
import Derived.LaidLaws
import Derived.Stop.Joined
import Derived.Deep.DeepHandedRow
import Derived.Deep.DeepWitnessRowRef
set_option linter.unusedSimpArgs false
set_option linter.unusedVariables false
set_option maxRecDepth 8000
namespace Go.Proofs.YtmhdkbmnpekpoaaGreatDoor
open Gx Go Go.ChangeShapes Go.WideShapes Go.ChangeAt Go.RowKit
def laidL:List (String × DataW Unit):=Rows.printerFewestRow.laid
theorem own:ownKnob Tryz.prog.godebug=none:=by kernel_rfl
theorem laidOut:laidOutB Tryz.prog=true:=by kernel_rfl
theorem heap_of_var {P:Program} {W:World} {name:String} {g:Nat} {cs:Array Value} (hg:P.globalNamed name=some g) (h:W.var? P name=some cs):∃ t fr,W.heap[g]?=some (.cells cs t fr):=by
 unfold World.var? at h
 rw [hg,Option.bind_some] at h
 split at h
 ·rename_i c t fr he
  simp only [Option.some.injEq] at h
  subst h
  exact ⟨t,fr,he⟩
 ·cases h
theorem glob_of_laid {W:World} (h:laidMetH Tryz.prog laidL W):GlobH W.heap:=by
 rw [MakeChecks.laidMetH_plain _ _ _ (by kernel_rfl)] at h
 obtain ⟨ps,⟨g0,t0,cs0,f0,p0,q0,hg0,ht0,hv0,hd0,⟨g1,t1,cs1,f1,p1,q1,hg1,ht1,hv1,hd1,⟨g2,t2,cs2,f2,p2,q2,hg2,ht2,hv2,hd2,⟨g3,t3,cs3,f3,p3,q3,hg3,ht3,hv3,hd3,_,_⟩,_⟩,_⟩,_⟩,_,_⟩:=h
 obtain rfl:=Option.some.inj (gTab.symm.trans hg2)
 obtain rfl:=Option.some.inj (gErr.symm.trans hg3)
 have e2:(Tryz.prog.globals[0]?).map (·.type)=some 137:=by kernel_rfl
 have e3:(Tryz.prog.globals[2]?).map (·.type)=some 79:=by kernel_rfl
 obtain rfl:=Option.some.inj (e2.symm.trans ht2)
 obtain rfl:=Option.some.inj (e3.symm.trans ht3)
 obtain ⟨t2',fr2,hh2⟩:=heap_of_var hg2 hv2
 obtain ⟨t3',fr3,hh3⟩:=heap_of_var hg3 hv3
 have hc:=Lib.cells_of_tab (k:=.u64) (zs:=Lib.pow10Tab) Tryz.underlying137 Tryz.underlying129 (by kernel_rfl) (by kernel_rfl) hd2
 obtain ⟨_,u,v,hcs3,_,_⟩:=iface_of_trod Tryz.underlying79 hd3
 refine ⟨⟨.iface u v,?_,.inr ⟨u,v,rfl⟩⟩,t2',fr2,?_⟩
 ·unfold cellB
  rw [hh3]
  show cs3[0]?=_
  rw [← Array.getElem?_toList,hcs3]; rfl
 ·rw [hh2,← hc]
theorem door_met (os:Os) (args:Array Value):laidMetH Tryz.prog laidL ((World.doorLaid Tryz.prog 400 os).forCall (fun _ _=>0) ⟨#[],args,[]⟩).memory:=
 laidMetH_of_parts3 (fuel:=8) (laidMet_of_run' 8 (by kernel_rfl) (by kernel_rfl)) (by kernel_rfl) (by kernel_rfl)
theorem law_row_laid {H:Type} {enc:TypeId × Value→H} {os:Os} {f:FuncId} {fn:Func} {s:ChangeSpec} {tb:TypeId} (started:os.Started) (noInit:Tryz.prog.inits.idxOf? f=none) (hf:Tryz.prog.funcs[f]?=some fn)
 (hpar:fn.params.toList.all (fun t=>Tryz.prog.readableRec t && decide (t < Tryz.prog.types.size))=true) (hres:fn.resultTypes=#[tb]) (htb:Tryz.prog.underlying tb=some .bool) (hv:s.vars=[])
 (hfn:∀ (K:Type) (ds:List (DataW K)),ds.length=fn.params.size→s.fn K ds={ results:=[.lit (.bool true)],args:=ds })
 (witness:∃ (w:World) (tape:Tape) (i:Input),w.os=os∧(w.forCall tape i).Shaped Tryz.prog∧i.vars=[]∧Input.okWide Tryz.prog (w.forCall tape i) .any w.heap.size f i∧
  ((s.pre enc Tryz.prog fn [] false (w.forCall tape i).memory i.args∧laidMetH Tryz.prog laidL (w.forCall tape i).memory)∧sizedMet enc Tryz.prog fn (OpenSpec.ofChange s) false (w.forCall tape i).memory i.args)∧
  Assume.holds {} Tryz.prog (Go.lone (Frame.enter Tryz.prog f i.args .normal) [] (w.forCall tape i)))
 (contract:∀ (W:World) (base:Nat) (args:Array Value) (ds:List (DataW H)) (ps:List MemPlace),
  (∀ (j:Nat) t v,fn.params[j]?=some t→args[j]?=some v→Value.okWide Tryz.prog W .any base t v)→
  DataW.TrodAll enc Tryz.prog W 0 (fun _=>true) true fn.params.toList args.toList ds ps→GlobH W.heap→HCalls Tryz.prog f args W.heap fun v H'=>v= .bool true∧Fr [] W.heap H') :
 ReturnsInHanded {} Tryz.checked os f .any (fun w args=>(s.pre enc Tryz.prog fn [] false w args∧laidMetH Tryz.prog laidL w)∧sizedMet enc Tryz.prog fn (OpenSpec.ofChange s) false w args) (s.post enc Tryz.prog fn false true false false):=by
 refine returnsInHanded_of_change_and (C:=Tryz.checked) (X:=fun w _=>laidMetH Tryz.prog laidL w) (fun _ _ _ hh h=>h.of_heap hh) own started noInit hf witness ?_
 intro W base args ds gs before hval hW _ _ hL _
 have hW':=hW
 obtain ⟨p,q,hA,hV,rfl,hz,hn⟩:=hW
 have hV':=hV
 rw [hv] at hV'
 obtain ⟨rfl,rfl⟩:=trodVars_none hV'
 refine ((contract W base args ds p hval hA (glob_of_laid hL)).out W rfl).mono fun e W' ⟨v,he,⟨hvt,hfr⟩,hs⟩=>?_
 subst hvt
 refine ⟨_,he,law_post laidOut hpar hres htb hv ?_ hW' (below_of hs hfr)⟩
 rw [List.append_nil]
 exact hfn H ds (by have:=trodAll_len hA; simpa using this)
theorem law_row_upto {H:Type} {enc:TypeId × Value→H} {os:Os} {f:FuncId} {fn:Func} {s:ChangeSpec} {tb:TypeId} {F:Stop.Interp} (started:os.Started) (noInit:Tryz.prog.inits.idxOf? f=none) (hf:Tryz.prog.funcs[f]?=some fn)
 (hpar:fn.params.toList.all (fun t=>Tryz.prog.readableRec t && decide (t < Tryz.prog.types.size))=true) (hres:fn.resultTypes=#[tb]) (htb:Tryz.prog.underlying tb=some .bool) (hv:s.vars=[])
 (hfn:∀ (K:Type) (ds:List (DataW K)),ds.length=fn.params.size→s.fn K ds={ results:=[.lit (.bool true)],args:=ds })
 (witness:∃ (w:World) (tape:Tape) (i:Input),w.os=os∧(w.forCall tape i).Shaped Tryz.prog∧i.vars=[]∧Input.okWide Tryz.prog (w.forCall tape i) .any w.heap.size f i∧
  (Rows.OpenSpec.upto s).preRow enc Tryz.prog fn [] false laidL (w.forCall tape i).memory i.args∧
  Assume.holds {} Tryz.prog (Go.lone (Frame.enter Tryz.prog f i.args .normal) [] (w.forCall tape i)))
 (contract:∀ (W:World) (base:Nat) (args:Array Value) (ds:List (DataW H)) (ps:List MemPlace),
  (∀ (j:Nat) t v,fn.params[j]?=some t→args[j]?=some v→Value.okWide Tryz.prog W .any base t v)→
  DataW.TrodAll enc Tryz.prog W 0 (fun _=>true) true fn.params.toList args.toList ds ps→Rows.uptoBulkAll ds≤1048576→GlobH W.heap→HCalls Tryz.prog f args W.heap fun v H'=>v= .bool true∧Fr [] W.heap H') :
 ReturnsInHanded {} Tryz.checked os f .any ((Rows.OpenSpec.upto s).preRow enc Tryz.prog fn [] false laidL) (((Rows.OpenSpec.upto s).at F).post enc Tryz.prog fn false true false false):=by
 refine returnsInHanded_of_row (C:=Tryz.checked) (s:=Rows.OpenSpec.upto s) own started noInit hf witness ?_
 intro W base args ds gs before hval hW _ hcond _ hL _ _
 have hW':DataW.Whole enc Tryz.prog fn.params.toList s.vars false W args.toList ds gs before:=hW
 have hk:=hcond _ rfl
 obtain ⟨p,q,hA,hV,rfl,hz,hn⟩:=hW'
 have hW':DataW.Whole enc Tryz.prog fn.params.toList s.vars false W args.toList ds gs _:=hW
 have hV':=hV
 rw [hv] at hV'
 obtain ⟨rfl,rfl⟩:=trodVars_none hV'
 rw [List.append_nil] at hk
 have hk:Rows.uptoBulkAll ds≤1048576:=of_decide_eq_true hk
 refine ((contract W base args ds p hval hA hk (glob_of_laid hL)).out W rfl).mono fun e W' ⟨v,he,⟨hvt,hfr⟩,hs⟩=>?_
 subst hvt
 refine ⟨_,he,law_post laidOut hpar hres htb hv ?_ hW' (below_of hs hfr)⟩
 rw [List.append_nil]
 exact hfn H ds (by have:=trodAll_len hA; simpa using this)
def OpensB (P:Program) (F:Nat) (t:TypeId) {α:Type} (R:α→Nat→List Value→Heap→Prop):Prop:=
 ∀ {H:Type} {enc:TypeId × Value→H} {W:World} {base:Nat} {sp:Nat→Bool} {held:Bool} {fuel:Nat} {cs:List Value} {x:DataW H × List MemPlace},
   fuel≤F→DataW.trod enc P W base sp held fuel t cs=some x→∃ a,R a (Rows.uptoBulk x.1) cs W.heap
theorem bulk_sum {H:Type}:∀ (l:List (DataW H × List MemPlace)),Rows.uptoBulkAll (l.map (·.1))=(l.map fun y=>Rows.uptoBulk y.1).sum
 | []=>rfl
 | y :: l=>by rw [List.map_cons,Rows.uptoBulkAll,bulk_sum l,List.map_cons,List.sum_cons]
theorem opensB_slice {P:Program} {t e m F:Nat} {α:Type} {R:α→Nat→List Value→Heap→Prop} (ht:P.underlying t=some (.slice e)) (hc:P.cellsOf e=m) (hm:0 < m) (he:OpensB P F e R) :
 OpensB P (F + 1) t (fun (l:List (α × Nat)) b cs H=>SlR (fun (p:α × Nat) cs H=>R p.1 p.2 cs H) m l cs H∧(l.map (·.2)).sum≤b):=by
 intro H enc W base sp held fuel cs x hF h
 rcases DataW.trod_slice ht h with ⟨h0,_⟩ | ⟨a,len,cap,elems,rest,n,hn,rfl,rfl,hb,hl,hmx,hlen,hel,_,_⟩
 ·exact ⟨[],⟨none,0,h0,by simp,by simp [maxLen],.inl rfl⟩,Nat.zero_le _⟩
 ·have hi:∀ i,i < len→∃ y:α × Nat,(∀ h:i < elems.length,y.2=Rows.uptoBulk elems[i].1)∧∃ vs,vs.length=m∧(∀ j,j < m→cellAt W.heap (a.add (i * m + j))=vs[j]?)∧R y.1 y.2 vs W.heap:=by
   intro i hi
   have h1:=hel i hi
   have h2:elems[i]?=some elems[i]:=List.getElem?_eq_getElem (by omega)
   rw [h2,Option.bind_eq_some_iff] at h1
   obtain ⟨vs,hv,hr⟩:=h1
   obtain ⟨h3,h4,h5⟩:=World.cells?_some hv
   obtain ⟨y,hy⟩:=he (by omega) hr
   rw [hc] at h4 h5 hv
   refine ⟨(y,Rows.uptoBulk elems[i].1),fun _=>rfl,vs,h4,fun j hj=>?_,hy⟩
   have:=h5 j hj
   rw [← this]
   show _=cellAt W.heap _
   congr 1
   simp only [Addr.add]
   repeat' split
   all_goals first | rfl | omega | simp_all [Nat.add_assoc]
  obtain ⟨l,hl1,hl2⟩:=list_of (β:=Unit) hi
  refine ⟨l,⟨some a,cap,by rw [hl1],by omega,hmx,?_⟩,?_⟩
  ·rcases Nat.eq_zero_or_pos l.length with h0 | h0
   ·exact .inl (List.eq_nil_of_length_eq_zero h0)
   ·have hspot:a.spot=none:=by
     obtain ⟨_,vs,h1,h2,_⟩:=hl2 0 h0
     have h3:=h2 0 hm
     rw [List.getElem?_eq_getElem (by omega)] at h3
     unfold cellAt at h3
     split at h3
     ·split at h3
      ·cases h3
      ·rename_i hs; simpa [Addr.add] using hs
     ·cases h3
    obtain ⟨b,o,s⟩:=a
    simp only at hspot
    subst hspot
    refine .inr ⟨b,o,rfl,fun j hj=>?_⟩
    obtain ⟨_,vs,h1,h2,h3⟩:=hl2 j hj
    refine ⟨vs,h1,fun i hi=>?_,h3⟩
    rw [← h2 i hi,add_mk,cellAt_mk,Nat.add_assoc]
  ·have e:l.map (·.2)=elems.map fun y=>Rows.uptoBulk y.1:=by
    refine List.ext_getElem (by simp [hl1,hlen]) fun i h1 h2=>?_
    simp only [List.length_map] at h1 h2
    rw [List.getElem_map,List.getElem_map]
    exact (hl2 i h1).1 h2
   show (l.map (·.2)).sum≤Rows.uptoBulk (.slice (elems.map (·.1)) (rest.map (·.1)))
   rw [e,← bulk_sum,Rows.uptoBulk]
   omega
theorem Reps.of {H:Heap} {M:List Nat}:∀ {ds:List Dat} {css:List (List Value)},css.length=ds.length→(∀ (i:Nat) (h:i < css.length) (h':i < ds.length),Rep H M ds[i] css[i])→Reps H M ds css
 | [],[],_,_=>by simp [Reps]
 | d :: ds,c :: css,hl,h=>by
   simp only [Reps]
   exact ⟨c,css,rfl,h 0 (by simp) (by simp),Reps.of (by simpa using hl) fun i hi hi'=>h (i + 1) (by simpa using hi) (by simpa using hi')⟩
 | [],_ :: _,hl,_=>by simp at hl
 | _ :: _,[],hl,_=>by simp at hl
theorem flat_get {m:Nat} {css:List (List Value)} (h:∀ x ∈ css,x.length=m) {q r:Nat} (hq:q < css.length) (hr:r < m):css.flatten[q * m + r]?=css[q][r]?:=by
 have h1:=flatten_drop q h
 have h2:css.flatten[q * m + r]?=(css.flatten.drop (q * m))[r]?:=by simp
 rw [h2,h1,List.drop_eq_getElem_cons hq,List.flatten_cons,List.getElem?_append_left (by rw [h _ (List.getElem_mem hq)]; exact hr)]
theorem rep_of_SlR {α:Type} {R:α→List Value→Heap→Prop} {D:α→Dat} {m:Nat} (h0:0 < m) {H:Heap} (hR:∀ x vs,R x vs H→Rep H [] (D x) vs) {l:List α} {cs:List Value} (h:SlR R m l cs H):Rep H [] (.list m (l.map D)) cs:=by
 obtain ⟨a,c,rfl,h1,h2,h3⟩:=h
 simp only [Rep]
 rcases h3 with h3 | ⟨b,o,h4,h5⟩
 ·subst h3
  exact ⟨a,c,[],rfl,by simp,h2,by simp [Reps],by simp,.inl rfl⟩
 ·have hq:∀ i,i < l.length→∃ vs:List Value,vs.length=m∧(∀ k,k < m→cellB H b (o + i * m + k)=vs[k]?)∧∀ hi:i < l.length,Rep H [] (D l[i]) vs:=fun i hi=>by
   obtain ⟨vs,q1,q2,q3⟩:=h5 i hi
   exact ⟨vs,q1,q2,fun _=>hR _ _ q3⟩
  obtain ⟨css,e1,e2⟩:=list_of (β:=Unit) hq
  have hm:∀ x ∈ css,x.length=m:=fun x hx=>by
   obtain ⟨i,hi,rfl⟩:=List.getElem_of_mem hx
   exact (e2 i hi).1
  refine ⟨a,c,css,by simp,by simpa using h1,h2,Reps.of (by simpa using e1) fun i hi hi'=>?_,hm,.inr ⟨b,o,h4,by simp,fun j hj=>?_⟩⟩
  ·rw [List.getElem_map]
   exact (e2 i hi).2.2 (by omega)
  ·have hlen:css.flatten.length=css.length * m:=flatten_len hm
   have hqj:j / m < css.length:=by rw [hlen] at hj; exact (Nat.div_lt_iff_lt_mul h0).2 hj
   have hrj:j % m < m:=Nat.mod_lt _ h0
   have e:j=j / m * m + j % m:=by rw [Nat.mul_comm,Nat.div_add_mod]
   have h8:=(e2 _ hqj).2.1 _ hrj
   rw [← flat_get hm hqj hrj,← e,Nat.add_assoc,← e] at h8
   rw [h8,List.getElem?_eq_getElem hj]
def NdB (n:Nd) (b:Nat) (cs:List Value) (H:Heap):Prop:=Rep H [] n.dat cs∧inN n∧wN n≤64 * b
theorem kids_bulk {H:Heap} {m:Nat}:∀ {l:List (Nd × Nat)},(∀ (j:Nat) (h:j < l.length),∃ vs,NdB l[j].1 l[j].2 vs H)→inL (l.map (·.1))∧wL (l.map (·.1))≤64 * (l.map (·.2)).sum
 | [],_=>⟨trivial,Nat.zero_le _⟩
 | p :: l,h=>by
   obtain ⟨vs,h1,h2,h3⟩:=h 0 (by simp)
   obtain ⟨i1,i2⟩:=kids_bulk (m:=m) (l:=l) fun j hj=>h (j + 1) (by simpa using hj)
   simp only [List.getElem_cons_zero] at h2 h3
   refine ⟨⟨h2,i1⟩,?_⟩
   rw [List.map_cons,wL,List.map_cons,List.sum_cons]
   omega
theorem five {α:Type}:∀ {l:List α},l.length=5→∃ a b c d e,l=[a,b,c,d,e]
 | [a,b,c,d,e],_=>⟨a,b,c,d,e,rfl⟩
 | [],h=>by simp at h
 | [_],h=>by simp at h
 | [_,_],h=>by simp at h
 | [_,_,_],h=>by simp at h
 | [_,_,_,_],h=>by simp at h
 | _ :: _ :: _ :: _ :: _ :: _ :: _,h=>by simp at h
theorem opensB_nd:∀ F:Nat,OpensB Tryz.prog F 24 NdB:=by
 intro F
 induction F using Nat.strongRecOn with
 | _ F ihF=>
   intro H enc W base sp held fuel cs x hF h
   obtain ⟨xs,n,hn,rfl,hl,hx,hf⟩:=DataW.trod_struct Tryz.underlying24 h
   have hc:Tryz.prog.cellsOf 24=5:=by kernel_rfl
   rw [hc] at hl
   obtain ⟨x0,x1,x2,x3,x4,rfl⟩:=five (l:=xs) (by rw [hx]; rfl)
   obtain ⟨v0,v1,v2,v3,v4,rfl⟩:=five hl
   have f0:=hf 0 _ rfl
   have f1:=hf 1 _ rfl
   have f2:=hf 2 _ rfl
   have f3:=hf 3 _ rfl
   have f4:=hf 4 _ rfl
   have c1:Tryz.prog.cellsOf 3=1:=by kernel_rfl
   have c2:Tryz.prog.cellsOf 9=1:=by kernel_rfl
   have c3:Tryz.prog.cellsOf 2=1:=by kernel_rfl
   have c4:Tryz.prog.cellsOf 22=1:=by kernel_rfl
   change DataW.trod enc Tryz.prog W base sp held n 3 (([v0,v1,v2,v3,v4].drop 0).take (Tryz.prog.cellsOf 3))=some x0 at f0
   change DataW.trod enc Tryz.prog W base sp held n 9 (([v0,v1,v2,v3,v4].drop 1).take (Tryz.prog.cellsOf 9))=some x1 at f1
   change DataW.trod enc Tryz.prog W base sp held n 2 (([v0,v1,v2,v3,v4].drop 2).take (Tryz.prog.cellsOf 2))=some x2 at f2
   change DataW.trod enc Tryz.prog W base sp held n 3 (([v0,v1,v2,v3,v4].drop 3).take (Tryz.prog.cellsOf 3))=some x3 at f3
   change DataW.trod enc Tryz.prog W base sp held n 22 (([v0,v1,v2,v3,v4].drop 4).take (Tryz.prog.cellsOf 22))=some x4 at f4
   rw [c1] at f0 f3
   rw [c2] at f1
   rw [c3] at f2
   rw [c4] at f4
   obtain ⟨k,e0,q0,w0⟩:=DataW.trod_int (k:=.i64) Tryz.underlying3 f0
   obtain ⟨t,e1,q1,w1⟩:=DataW.trod_string Tryz.underlying9 f1
   obtain ⟨m,e2,q2,w2⟩:=DataW.trod_int (k:=.i64) Tryz.underlying2 f2
   obtain ⟨a,e3,q3,w3⟩:=DataW.trod_int (k:=.i64) Tryz.underlying3 f3
   have hks:∃ l:List (Nd × Nat),SlR (fun (p:Nd × Nat) cs H=>NdB p.1 p.2 cs H) 5 l [v4] W.heap∧(l.map (·.2)).sum≤Rows.uptoBulk x4.1:=by
    rcases Nat.eq_zero_or_pos n with h0 | h0
    ·rw [h0] at f4
     simp [DataW.trod] at f4
    ·obtain ⟨n',rfl⟩:∃ n',n=n' + 1:=⟨n - 1,by omega⟩
     exact opensB_slice (F:=n') (m:=5) Tryz.underlying22 hc (by decide) (ihF n' (by omega)) (Nat.le_refl _) f4
   obtain ⟨l,hl1,hl2⟩:=hks
   simp only [List.drop_zero,List.drop_succ_cons,List.take_succ_cons,List.take_zero,List.cons.injEq,and_true] at e0 e1 e2 e3
   subst e0 e1 e2 e3
   subst q0 q1 q2 q3
   have hall:∀ (j:Nat) (h:j < l.length),∃ vs,NdB l[j].1 l[j].2 vs W.heap:=by
    obtain ⟨_,_,_,_,_,h3⟩:=hl1
    rcases h3 with rfl | ⟨_,_,_,h5⟩
    ·intro j hj; simp at hj
    ·intro j hj
     obtain ⟨vs,_,_,h6⟩:=h5 j hj
     exact ⟨vs,h6⟩
   obtain ⟨i1,i2⟩:=kids_bulk (m:=5) hall
   have hr:=rep_of_SlR (D:=fun (p:Nd × Nat)=>p.1.dat) (by decide) (fun x vs hx=>hx.1) hl1
   have hr':Rep W.heap [] (kidsD (l.map (·.1))) [v4]:=by
    unfold kidsD
    rw [List.map_map]
    exact hr
   refine ⟨.mk k t.data.toList m a (l.map (·.1)),nd_rep.2 ⟨v4,rfl,hr'⟩,?_,?_⟩
   ·rw [inN]
    refine ⟨?_,?_,i1⟩
    ·simp [Lit.wf,IntKind.min,IntKind.max,IntKind.signed,IntKind.bits] at w2
     omega
    ·simp [Lit.wf,IntKind.min,IntKind.max,IntKind.signed,IntKind.bits] at w2
     omega
   ·rw [wN]
    show _≤64 * Rows.uptoBulk (.agg [.lit (.int .i64 k),.lit (.string t.data.toList),.lit (.int .i64 m),.lit (.int .i64 a),x4.1])
    simp only [Rows.uptoBulk,Rows.uptoBulkAll]
    omega
theorem arg_nd {H:Type} {enc:TypeId × Value→H} {W:World} {b0:Nat} {sp:Nat→Bool} {held:Bool} {base:Nat} {v:Value} {d:DataW H} {ps:List MemPlace} (hval:Value.okWide Tryz.prog W .any b0 24 v) (h:DataW.Trod enc Tryz.prog W base sp held 24 v d ps) :
 ∃ n,NA W.heap n v∧inN n∧wN n≤64 * Rows.uptoBulk d:=by
 obtain ⟨fuel,hf⟩:=h
 obtain ⟨cs,rfl,_⟩:=okWide_struct Tryz.underlying24 hval
 obtain ⟨n,h1,h2,h3⟩:=opensB_nd fuel (Nat.le_refl _) hf
 exact ⟨n,⟨cs.toList,by simp,h1⟩,h2,h3⟩
theorem arg1_nd {H:Type} {enc:TypeId × Value→H} {W:World} {fn:Func} {b0:Nat} {args:Array Value} {ds:List (DataW H)} {ps:List MemPlace} (hp:fn.params=#[24])
 (hval:∀ (j:Nat) t v,fn.params[j]?=some t→args[j]?=some v→Value.okWide Tryz.prog W .any b0 t v) (h:DataW.TrodAll enc Tryz.prog W 0 (fun _=>true) true fn.params.toList args.toList ds ps) (hk:Rows.uptoBulkAll ds≤1048576) :
 ∃ v n,args=#[v]∧NA W.heap n v∧inN n∧wN n≤100000000:=by
 rw [hp] at h hval
 obtain ⟨v0,vs0,d0,ds0,p0,q0,hargs,rfl,rfl,h0,r0⟩:=trodAll_cons h
 obtain ⟨rfl,rfl,rfl⟩:=trodAll_nil r0
 obtain rfl:args=#[v0]:=by cases args; simp_all
 obtain ⟨n,h1,h2,h3⟩:=arg_nd (hval 0 24 v0 rfl rfl) h0
 refine ⟨v0,n,rfl,h1,h2,?_⟩
 simp only [Rows.uptoBulkAll] at hk
 omega
end Go.Proofs.YtmhdkbmnpekpoaaGreatDoor
