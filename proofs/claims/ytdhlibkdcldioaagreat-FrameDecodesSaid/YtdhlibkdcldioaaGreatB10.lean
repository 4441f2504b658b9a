import Derived.Test.YtdhlibkdcldioaaGreatB8
import Derived.Carry
import Derived.OpenShut
import Derived.Handed
section
namespace Gx
open Go Go.ChangeShapes Go.WideShapes Go.RowKit
theorem below_of {w w':World} (hs:Same w w') (hf:Fr [] w.heap w'.heap):Below w.heap.size w w':=
 ⟨hs.os,hs.tape,hs.output,hf.size,fun k hk=>hf.same k hk (by simp)⟩
section
variable {H:Type} {enc:TypeId × Value→H} {P:Program}
theorem trodAll_stays (hl:laidOutB P=true) {W W':World} (hb:Below W.heap.size W W') {sp:Nat→Bool}:∀ {ts:List TypeId} {vs:List Value} {ds:List (DataW H)} {ps:List MemPlace},
 ts.all (fun t=>P.readableRec t && decide (t < P.types.size))=true→DataW.TrodAll enc P W 0 (fun _=>true) true ts vs ds ps→(∀ x ∈ ps,x.block < W.heap.size)→(∀ x ∈ ps,sp x.block=true)→
 DataW.TrodAll enc P W' 0 sp true ts vs ds ps
 | [],[],[],_,_,h,_,_=>h
 | t :: ts,v :: vs,d :: ds,ps,ht,⟨p,q,h,hs,e⟩,hlt,hsp=>by
   simp only [List.all_cons,Bool.and_eq_true,decide_eq_true_eq] at ht
   subst e
   exact ⟨p,q,WideElems.Trod_stays hl ht.1.1 ht.1.2 h (fun x hx=>hb.same (hlt x (by simp [hx]))) (fun x hx=>hsp x (by simp [hx])),
    trodAll_stays hl hb ht.2 hs (fun x hx=>hlt x (by simp [hx])) (fun x hx=>hsp x (by simp [hx])),rfl⟩
theorem trodAll_len {w:World} {base:Nat} {spare:Nat→Bool} {held:Bool}:∀ {ts:List TypeId} {vs:List Value} {ds:List (DataW H)} {ps:List MemPlace},DataW.TrodAll enc P w base spare held ts vs ds ps→ds.length=ts.length
 | [],[],[],_,_=>rfl
 | _ :: _,_ :: _,_ :: _,_,⟨_,_,_,hs,_⟩=>congrArg (· + 1) (trodAll_len hs)
theorem law_post {f:Func} {s:ChangeSpec} {tb:TypeId} {W W':World} {args:Array Value} {ds gs:List (DataW H)} {before:List MemPlace}
 (hl:laidOutB P=true) (hpar:f.params.toList.all (fun t=>P.readableRec t && decide (t < P.types.size))=true) (hres:f.resultTypes=#[tb]) (htb:P.underlying tb=some .bool) (hv:s.vars=[])
 (hfn:s.fn H (ds ++ gs)={ results:=[.lit (.bool true)],args:=ds })
 (hW:DataW.Whole enc P f.params.toList s.vars false W args.toList ds gs before) (hb:Below W.heap.size W W') :
 s.post enc P f false true false false W args (.bool true) W':=by
 have hW':=hW
 obtain ⟨p,q,hA,hV,rfl,hz,hn⟩:=hW
 rw [hv] at hV
 obtain ⟨rfl,rfl⟩:=trodVars_none hV
 rw [List.append_nil] at hW'
 refine ⟨ds,[],p,[],p,[],hW',?_,?_,?_,hb.frame _,fun h=>by cases h⟩
 ·rw [hfn,hres]
  exact trodAll_cons_mk (shut_bool htb _) trodAll_mk0
 ·rw [hfn]
  exact trodAll_stays hl hb hpar hA (fun x hx=>hW'.lt x hx) (fun x hx=>by simpa using hW'.lt x hx)
 ·rw [hfn,hv]; rfl
theorem law_row {C:Checked} {os:Os} {f:FuncId} {fn:Func} {s:ChangeSpec} {tb:TypeId} (own:ownKnob C.prog.godebug=none) (started:os.Started) (noInit:C.prog.inits.idxOf? f=none) (hf:C.prog.funcs[f]?=some fn)
 (hl:laidOutB C.prog=true) (hpar:fn.params.toList.all (fun t=>C.prog.readableRec t && decide (t < C.prog.types.size))=true) (hres:fn.resultTypes=#[tb]) (htb:C.prog.underlying tb=some .bool) (hv:s.vars=[])
 (hfn:∀ (K:Type) (ds:List (DataW K)),ds.length=fn.params.size→s.fn K ds={ results:=[.lit (.bool true)],args:=ds })
 (witness:∃ (w:World) (tape:Tape) (i:Input),w.os=os∧(w.forCall tape i).Shaped C.prog∧i.vars=[]∧Input.okWide C.prog (w.forCall tape i) .any w.heap.size f i∧
  s.pre6 enc C.prog fn [] false (w.forCall tape i).memory i.args∧Assume.holds {} C.prog (lone (Frame.enter C.prog f i.args .normal) [] (w.forCall tape i)))
 (contract:∀ (W:World) (base:Nat) (args:Array Value) (ds:List (DataW H)) (ps:List MemPlace),
  (∀ (j:Nat) t v,fn.params[j]?=some t→args[j]?=some v→Value.okWide C.prog W .any base t v)→
  DataW.TrodAll enc C.prog W 0 (fun _=>true) true fn.params.toList args.toList ds ps→HCalls C.prog f args W.heap fun v H'=>v= .bool true∧Fr [] W.heap H') :
 ReturnsInHanded {} C os f .any (s.pre6 enc C.prog fn [] false) (s.post enc C.prog fn false true false false):=by
 refine returnsInHanded_of_change own started noInit hf witness ?_
 intro W base args ds gs before hval hW _ _
 have hW':=hW
 obtain ⟨p,q,hA,hV,rfl,hz,hn⟩:=hW
 have hV':=hV
 rw [hv] at hV'
 obtain ⟨rfl,rfl⟩:=trodVars_none hV'
 refine ((contract W base args ds p hval hA).out W rfl).mono fun e W' ⟨v,he,⟨hvt,hfr⟩,hs⟩=>?_
 subst hvt
 refine ⟨_,he,law_post hl hpar hres htb hv ?_ hW' (below_of hs hfr)⟩
 rw [List.append_nil]
 exact hfn H ds (by have:=trodAll_len hA; simpa using this)
variable {W:World} {base:Nat} {sp:Nat→Bool} {held:Bool}
def Opens (P:Program) (t:TypeId) {α:Type} (R:α→List Value→Heap→Prop):Prop:=
 ∀ {H:Type} {enc:TypeId × Value→H} {W:World} {base:Nat} {sp:Nat→Bool} {held:Bool} {fuel:Nat} {cs:List Value} {x:DataW H × List MemPlace},
   DataW.trod enc P W base sp held fuel t cs=some x→∃ a,R a cs W.heap
def IntR (k:IntKind) (n:Int) (cs:List Value) (_:Heap):Prop:=cs=[.int k n]∧(Lit.int k n).wf=true
def BoolR (b:Bool) (cs:List Value) (_:Heap):Prop:=cs=[.bool b]
theorem opens_int {t:TypeId} {k:IntKind} (ht:P.underlying t=some (.int k)):Opens P t (IntR k):=by
 intro H enc W base sp held fuel cs x h
 obtain ⟨n,h1,_,h3⟩:=DataW.trod_int ht h
 exact ⟨n,h1,h3⟩
theorem opens_bool {t:TypeId} (ht:P.underlying t=some .bool):Opens P t BoolR:=by
 intro H enc W base sp held fuel cs x h
 cases fuel with
 | zero=>simp [DataW.trod] at h
 | succ n=>
   unfold DataW.trod at h
   rw [ht] at h
   split at h <;> simp_all [BoolR]
def ElR {α:Type} (R:α→List Value→Heap→Prop) (m:Nat) (H:Heap) (a:Option Addr) (l:List α):Prop:=
 l=[]∨∃ b o,a=some ⟨b,o,none⟩∧∀ j (h:j < l.length),∃ vs,vs.length=m∧(∀ i,i < m→cellB H b (o + j * m + i)=vs[i]?)∧R l[j] vs H
def SlR {α:Type} (R:α→List Value→Heap→Prop) (m:Nat) (l:List α) (cs:List Value) (H:Heap):Prop:=
 ∃ a c,cs=[.slice a l.length c]∧l.length≤c∧c≤maxLen∧ElR R m H a l
theorem list_of {α β:Type} {n:Nat} {Q:Nat→α→Prop} (h:∀ i,i < n→∃ a,Q i a):∃ l:List α,l.length=n∧∀ i (hi:i < l.length),Q i l[i]:=by
 induction n with
 | zero=>exact ⟨[],rfl,fun i hi=>by simp at hi⟩
 | succ n ih=>
   obtain ⟨l,h1,h2⟩:=ih (fun i hi=>h i (by omega))
   obtain ⟨a,ha⟩:=h n (by omega)
   refine ⟨l ++ [a],by simp [h1],fun i hi=>?_⟩
   rcases Nat.lt_or_ge i l.length with h' | h'
   ·rw [List.getElem_append_left h']; exact h2 i h'
   ·have:i=l.length:=by simp at hi; omega
    subst this
    simp; rw [h1]; exact ha
theorem opens_slice {t e m:Nat} {α:Type} {R:α→List Value→Heap→Prop} (ht:P.underlying t=some (.slice e)) (hc:P.cellsOf e=m) (hm:0 < m) (he:Opens P e R):Opens P t (SlR R m):=by
 intro H enc W base sp held fuel cs x h
 rcases DataW.trod_slice ht h with ⟨h0,_⟩ | ⟨a,len,cap,elems,rest,n,_,rfl,rfl,hb,hl,hmx,hlen,hel,_,_⟩
 ·exact ⟨[],none,0,h0,by simp,by simp [maxLen],.inl rfl⟩
 ·have hi:∀ i,i < len→∃ y:α,∃ vs,vs.length=m∧(∀ j,j < m→cellAt W.heap (a.add (i * m + j))=vs[j]?)∧R y vs W.heap:=by
   intro i hi
   have h1:=hel i hi
   have h2:elems[i]?=some elems[i]:=List.getElem?_eq_getElem (by omega)
   rw [h2,Option.bind_eq_some_iff] at h1
   obtain ⟨vs,hv,hr⟩:=h1
   obtain ⟨h3,h4,h5⟩:=World.cells?_some hv
   obtain ⟨y,hy⟩:=he hr
   rw [hc] at h4 h5 hv
   refine ⟨y,vs,h4,fun j hj=>?_,hy⟩
   have:=h5 j hj
   rw [← this]
   show _=cellAt W.heap _
   congr 1
   simp only [Addr.add]
   repeat' split
   all_goals first | rfl | omega | simp_all [Nat.add_assoc]
  obtain ⟨l,hl1,hl2⟩:=list_of (β:=Unit) hi
  refine ⟨l,some a,cap,by rw [hl1],by omega,hmx,?_⟩
  rcases Nat.eq_zero_or_pos l.length with h0 | h0
  ·exact .inl (List.eq_nil_of_length_eq_zero h0)
  ·have hspot:a.spot=none:=by
    obtain ⟨vs,h1,h2,_⟩:=hl2 0 h0
    have h3:=h2 0 hm
    rw [List.getElem?_eq_getElem (by omega)] at h3
    unfold cellAt at h3
    split at h3
    ·split at h3
     ·cases h3
     ·rename_i hs; simpa [Addr.add] using hs
    ·cases h3
   obtain ⟨b,o,s⟩:=a
   simp only at hspot
   subst hspot
   refine .inr ⟨b,o,rfl,fun j hj=>?_⟩
   obtain ⟨vs,h1,h2,h3⟩:=hl2 j hj
   refine ⟨vs,h1,fun i hi=>?_,h3⟩
   rw [← h2 i hi,add_mk,cellAt_mk,Nat.add_assoc]
def BytesR (l:List UInt8) (cs:List Value) (H:Heap):Prop:=∃ a c,cs=[.slice a l.length c]∧l.length≤c∧c≤maxLen∧BsR H a l
theorem opens_bytes {t e:Nat} (ht:P.underlying t=some (.slice e)) (hc:P.cellsOf e=1) (he:P.underlying e=some (.int .u8)):Opens P t BytesR:=by
 intro H enc W base sp held fuel cs x h
 obtain ⟨l,a,c,h1,h2,h3,h4⟩:=opens_slice ht hc (by decide) (opens_int he) h
 refine ⟨l.map fun n=>UInt8.ofNat n.toNat,a,c,by simpa using h1,by simpa using h2,h3,?_⟩
 rcases h4 with h4 | ⟨b,o,h5,h6⟩
 ·subst h4; exact .inl rfl
 ·refine .inr ⟨b,o,h5,fun j hj=>?_⟩
  simp only [List.length_map] at hj
  obtain ⟨vs,h7,h8,h9,h10⟩:=h6 j hj
  have:=h8 0 (by decide)
  rw [h9] at this
  simp only [Nat.mul_one,Nat.add_zero,List.getElem?_cons_zero] at this
  rw [this]
  simp only [Lit.wf,IntKind.min,IntKind.max,IntKind.signed,IntKind.bits,Bool.and_eq_true,decide_eq_true_eq] at h10
  simp only [List.getElem_map,bv]
  rw [u8_of _ (by simp at h10; omega)]
  simp at h10 ⊢; omega
def plainB (P:Program) (t:TypeId):Bool:=
 match P.underlying t with
 | some (.int _) | some .bool | some .string | some (.slice _)=>true
 | _=>false
theorem arg_one {t:TypeId} {α:Type} {R:α→List Value→Heap→Prop} (ho:Opens P t R) (hp:plainB P t=true) {b0:Nat} {v:Value} {d:DataW H} {ps:List MemPlace}
 (hval:Value.okWide P W .any b0 t v) (h:DataW.Trod enc P W base sp held t v d ps):∃ a,R a [v] W.heap:=by
 obtain ⟨fuel,hf⟩:=h
 have hc:v.cells.toList=[v]:=by
  cases v with
  | agg vs=>
    exfalso
    unfold plainB at hp
    unfold Value.okWide at hval
    split at hp
    all_goals first | (cases hp; done) | (rename_i e; rw [e] at hval; simp [Cell.okWide,e,Cell.ok] at hval)
  | _=>rfl
 rw [hc] at hf
 exact ho hf
def ArgOk (enc:TypeId × Value→H) (P:Program) (W:World) (b0:Nat) (t:TypeId) (v:Value):Prop:=Value.okWide P W .any b0 t v∧∃ d ps,DataW.Trod enc P W 0 (fun _=>true) true t v d ps
theorem args2 {fn:Func} {b0:Nat} {args:Array Value} {ds:List (DataW H)} {ps:List MemPlace} {t0 t1:TypeId} (hp:fn.params=#[t0,t1])
 (hval:∀ (j:Nat) t v,fn.params[j]?=some t→args[j]?=some v→Value.okWide P W .any b0 t v) (h:DataW.TrodAll enc P W 0 (fun _=>true) true fn.params.toList args.toList ds ps) :
 ∃ v0 v1,args=#[v0,v1]∧ArgOk enc P W b0 t0 v0∧ArgOk enc P W b0 t1 v1:=by
 rw [hp] at h hval
 obtain ⟨v0,vs0,d0,ds0,p0,q0,hargs,rfl,rfl,h0,r0⟩:=trodAll_cons h
 obtain ⟨v1,vs1,d1,ds1,p1,q1,rfl,rfl,rfl,h1,r1⟩:=trodAll_cons r0
 obtain ⟨rfl,rfl,rfl⟩:=trodAll_nil r1
 obtain rfl:args=#[v0,v1]:=by cases args; simp_all
 exact ⟨v0,v1,rfl,⟨hval 0 t0 v0 rfl rfl,d0,p0,h0⟩,hval 1 t1 v1 rfl rfl,d1,p1,h1⟩
theorem ArgOk.one {b0:Nat} {t:TypeId} {v:Value} {α:Type} {R:α→List Value→Heap→Prop} (h:ArgOk enc P W b0 t v) (ho:Opens P t R) (hp:plainB P t=true):∃ a,R a [v] W.heap:=by
 obtain ⟨h1,d,ps,h2⟩:=h
 exact arg_one ho hp h1 h2
end
end Gx
end
section
namespace Gx
open Go
def CsR (H:Heap) (a:Option Addr) (l:List Value):Prop:=
 l=[]∨∃ b o,a=some ⟨b,o,none⟩∧∀ j (h:j < l.length),cellB H b (o + j)=some l[j]
section
variable {α:Type} {f:α→List Value} {m:Nat}
theorem Own.csR {H:Heap} {a:Option Addr} {n c e:Nat} {xs:List Value} {g:Option Nat} (h:Own H e m (.slice a n c) n xs g):CsR H a xs:=by
 rcases h.2 with ⟨h1,h2,h3⟩ | ⟨b,cap,cur,h1,h2,h3,h4,h5,h6,h7⟩
 ·subst h3; refine .inl (List.eq_nil_of_length_eq_zero ?_); have:=h.1; omega
 ·refine .inr ⟨b,0,by simp at h2; exact h2.1,fun j hj=>?_⟩
  subst h1
  rw [Nat.zero_add,h.cell j (by have:=h.1; omega)]
  simp [hj]
end
theorem Sto_all {b t:Nat} {l vs:List Value} {H:Heap} {R:Heap→Prop} (h:Blk H b t l) (hl:vs.length=l.length) (h1:∀ v ∈ vs,v.oneCell'=true)
 (hR:∀ H',Blk H' b t vs→Fr [b] H H'→H'.size=H.size→R H'):Sto H ⟨b,0,none⟩ vs 0 R:=
 Sto_blk vs H l 0 0 h (by omega) h1 fun H' hb hf hs=>hR H' (by
  rw [setL_eq _ _ _ (by omega)] at hb
  rw [List.drop_eq_nil_of_le (by omega)] at hb
  simpa using hb) hf hs
end Gx
end
section
namespace Gx
open Go
def CsA (H:Heap) (M:List Nat) (a:Option Addr) (l:List Value):Prop:=
 l=[]∨∃ b o,a=some ⟨b,o,none⟩∧b ∉ M∧∀ j (h:j < l.length),cellB H b (o + j)=some l[j]
theorem CsA.csR {H:Heap} {M:List Nat} {a:Option Addr} {l:List Value} (h:CsA H M a l):CsR H a l:=by
 rcases h with h | ⟨b,o,h1,_,h2⟩
 ·exact .inl h
 ·exact .inr ⟨b,o,h1,h2⟩
def Stays (H:Heap) (M:List Nat) (H':Heap) (M':List Nat):Prop:=∀ b,b < H.size→b ∉ M→b ∉ M'∧H'[b]?=H[b]?
theorem Stays.fr {H H':Heap} {M M':List Nat} (hf:Fr M' H H') (hm:∀ x,x ∈ M'→x ∈ M∨H.size≤x):Stays H M H' M:=fun b hb hn=>
 ⟨hn,hf.same b hb fun h=>by rcases hm b h with q | q; exact hn q; omega⟩
theorem Stays.ext {H H':Heap} {M:List Nat} (hf:Fr [] H H'):Stays H M H' M:=Stays.fr hf (by simp)
theorem CsA.to {H H':Heap} {M M':List Nat} {a:Option Addr} {l:List Value} (h:CsA H M a l) (hs:Stays H M H' M'):CsA H' M' a l:=by
 rcases h with h | ⟨b,o,h1,h2,h3⟩
 ·exact .inl h
 ·rcases Nat.eq_zero_or_pos l.length with h0 | h0
  ·exact .inl (List.eq_nil_of_length_eq_zero h0)
  ·have hlt:=cellB_lt (h3 0 h0)
   obtain ⟨q1,q2⟩:=hs b hlt h2
   refine .inr ⟨b,o,h1,q1,fun j hj=>?_⟩
   have:=h3 j hj
   unfold cellB at *
   rw [q2]; exact this
inductive Dat where
 | v (x:Value)
 | list (m:Nat) (l:List Dat)
 | agg (l:List Dat)
mutual
def Rep (H:Heap) (M:List Nat):Dat→List Value→Prop
 | .v x,cs=>cs=[x]
 | .list m l,cs=>∃ a c css,cs=[.slice a l.length c]∧l.length≤c∧c≤maxLen∧Reps H M l css∧(∀ x ∈ css,x.length=m)∧CsA H M a css.flatten
 | .agg l,cs=>∃ css,cs=css.flatten∧Reps H M l css
def Reps (H:Heap) (M:List Nat):List Dat→List (List Value)→Prop
 | [],css=>css=[]
 | d :: ds,css=>∃ x xs,css=x :: xs∧Rep H M d x∧Reps H M ds xs
end
section
variable {H H':Heap} {M M':List Nat} {α:Type}
mutual
theorem Rep.to (hs:Stays H M H' M'):∀ (d:Dat) (cs:List Value),Rep H M d cs→Rep H' M' d cs
 | .v x,cs,h=>by simpa [Rep] using h
 | .list m l,cs,h=>by
   simp only [Rep] at h ⊢
   obtain ⟨a,c,css,h1,h2,h3,h4,h5,h6⟩:=h
   exact ⟨a,c,css,h1,h2,h3,Reps.to hs l css h4,h5,h6.to hs⟩
 | .agg l,cs,h=>by
   simp only [Rep] at h ⊢
   obtain ⟨css,h1,h2⟩:=h
   exact ⟨css,h1,Reps.to hs l css h2⟩
theorem Reps.to (hs:Stays H M H' M'):∀ (l:List Dat) (css:List (List Value)),Reps H M l css→Reps H' M' l css
 | [],css,h=>by simpa [Reps] using h
 | d :: ds,css,h=>by
   simp only [Reps] at h ⊢
   obtain ⟨x,xs,h1,h2,h3⟩:=h
   exact ⟨x,xs,h1,Rep.to hs d x h2,Reps.to hs ds xs h3⟩
end
theorem Rep.ext {d:Dat} {cs:List Value} (h:Rep H M d cs) (hf:Fr [] H H'):Rep H' M d cs:=Rep.to (Stays.ext hf) d cs h
theorem Rep.stay {d:Dat} {cs:List Value} (h:Rep H M d cs) (hs:Stays H M H' M'):Rep H' M' d cs:=Rep.to hs d cs h
theorem Reps.length:∀ {l:List Dat} {css:List (List Value)},Reps H M l css→css.length=l.length
 | [],css,h=>by simp only [Reps] at h; subst h; rfl
 | d :: ds,css,h=>by
   simp only [Reps] at h
   obtain ⟨x,xs,rfl,_,h3⟩:=h
   simp [Reps.length h3]
theorem Reps.get:∀ {l:List Dat} {css:List (List Value)},Reps H M l css→∀ (j:Nat) (hj:j < l.length),∃ x,css[j]?=some x∧Rep H M l[j] x
 | [],css,h,j,hj=>by simp at hj
 | d :: ds,css,h,j,hj=>by
   simp only [Reps] at h
   obtain ⟨x,xs,rfl,h2,h3⟩:=h
   cases j with
   | zero=>exact ⟨x,rfl,h2⟩
   | succ j=>simpa using Reps.get h3 j (by simpa using hj)
theorem Reps.append:∀ {l l':List Dat} {css css':List (List Value)},Reps H M l css→Reps H M l' css'→Reps H M (l ++ l') (css ++ css')
 | [],l',css,css',h,h'=>by simp only [Reps] at h; subst h; exact h'
 | d :: ds,l',css,css',h,h'=>by
   simp only [Reps] at h
   obtain ⟨x,xs,rfl,h2,h3⟩:=h
   exact ⟨x,xs ++ css',rfl,h2,Reps.append h3 h'⟩
theorem flatten_len {m:Nat}:∀ {css:List (List Value)},(∀ x ∈ css,x.length=m)→css.flatten.length=css.length * m
 | [],_=>by simp
 | x :: css,h=>by
   have:=flatten_len (css:=css) fun y hy=>h y (by simp [hy])
   simp [this,h x (by simp),Nat.add_mul,Nat.add_comm]
theorem flatten_drop {m:Nat}:∀ {css:List (List Value)} (n:Nat),(∀ x ∈ css,x.length=m)→css.flatten.drop (n * m)=(css.drop n).flatten
 | [],n,_=>by simp
 | x :: css,0,h=>by simp
 | x :: css,n + 1,h=>by
   rw [List.flatten_cons,List.drop_succ_cons,← flatten_drop n (fun y hy=>h y (by simp [hy])),List.drop_append,List.drop_eq_nil_of_le (by rw [h x (by simp),Nat.add_mul]; omega),h x (by simp)]
   simp [Nat.add_mul]
theorem Rep.at {m:Nat} {l:List Dat} {v:Value} (h:Rep H M (.list m l) [v]) (j:Nat) (hj:j < l.length) (h0:0 < m) :
 ∃ b o c x,v= .slice (some ⟨b,o,none⟩) l.length c∧b ∉ M∧x.length=m∧(∀ i,i < m→cellB H b (o + j * m + i)=x[i]?)∧Rep H M l[j] x:=by
 simp only [Rep] at h
 obtain ⟨a,c,css,h1,h2,h3,h4,h5,h6⟩:=h
 simp only [List.cons.injEq,and_true] at h1
 have hlen:=Reps.length h4
 obtain ⟨x,hx,hr⟩:=Reps.get h4 j hj
 have hxm:x ∈ css:=List.mem_of_getElem? hx
 have hxl:=h5 x hxm
 have hfl:=flatten_len h5
 have hle:(j + 1) * m≤l.length * m:=Nat.mul_le_mul_right _ hj
 rw [Nat.add_mul,Nat.one_mul] at hle
 rcases h6 with h6 | ⟨b,o,h7,h8,h9⟩
 ·rw [h6,hlen] at hfl
  simp only [List.length_nil] at hfl
  omega
 ·refine ⟨b,o,c,x,by rw [h1,h7],h8,hxl,fun i hi=>?_,hr⟩
  have hlt:j * m + i < css.flatten.length:=by rw [hfl,hlen]; omega
  rw [Nat.add_assoc,h9 _ hlt,← List.getElem?_eq_getElem hlt]
  have e1:css.flatten[j * m + i]?=(css.flatten.drop (j * m))[i]?:=by simp
  have hj':j < css.length:=by omega
  rw [e1,flatten_drop j h5,List.drop_eq_getElem_cons hj',List.flatten_cons,List.getElem?_append_left (by
   rw [List.getElem?_eq_getElem hj'] at hx; cases hx; omega)]
  rw [List.getElem?_eq_getElem hj'] at hx; cases hx; rfl
theorem Rep.nil (m:Nat):Rep H M (.list m []) [.slice none 0 0]:=by
 simp only [Rep]
 exact ⟨none,0,[],rfl,Nat.le_refl _,by decide,rfl,by simp,.inl rfl⟩
end
end Gx
end
