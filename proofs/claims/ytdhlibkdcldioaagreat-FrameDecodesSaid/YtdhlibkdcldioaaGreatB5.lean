import Derived.Test.YtdhlibkdcldioaaGreatB4
import Derived.OrdersHeld
namespace Gx
open Go
section
variable {P:Program} {ops:Array Oper} {Q:Exit→Act→World→Prop} {md:Region.Mode}
def wpAnyG (P:Program) (md:Region.Mode) (ops:Array Oper) (Q:Exit→Act→World→Prop) (S:Array Bool→World→Prop):Nat→Array Bool→Act→World→Prop
 | 0,listed,a,w=>Region.ready md ops listed=[]∧Q .normal a w
 | fuel + 1,listed,a,w=>
   (Region.ready md ops listed=[]→Q .normal a w)∧
   ∀ i ∈ Region.ready md ops listed,wpOp P ops Q i (fun a' w'=>S (listed.setIfInBounds i true) w'∧wpAnyG P md ops Q S fuel (listed.setIfInBounds i true) a' w') a w
theorem wpAny_of_G {S:Array Bool→World→Prop}:∀ (fuel:Nat) (listed:Array Bool) (a:Act) (w:World),wpAnyG P md ops Q S fuel listed a w→wpAny P md ops Q fuel listed a w
 | 0,_,_,_,h=>h
 | fuel + 1,_,_,_,h=>⟨h.1,fun i hi=>wpOp_mono (fun a' w' h'=>wpAny_of_G fuel _ a' w' h'.2) (h.2 i hi)⟩
theorem wpAnyG_mono {S S':Array Bool→World→Prop} (hS:∀ L w,S' L w→S L w):∀ (fuel:Nat) (listed:Array Bool) (a:Act) (w:World),wpAnyG P md ops Q S' fuel listed a w→wpAnyG P md ops Q S fuel listed a w
 | 0,_,_,_,h=>h
 | fuel + 1,_,_,_,h=>⟨h.1,fun i hi=>wpOp_mono (fun a' w' h'=>⟨hS _ _ h'.1,wpAnyG_mono hS fuel _ a' w' h'.2⟩) (h.2 i hi)⟩
theorem wpAnyG_first {S:Array Bool→World→Prop} {i:Nat} {oi:Oper} {v:Value} {TD:List Nat} (hi:ops[i]?=some oi) (hsel:∀ (j:Nat) (o:Oper) cs b,ops[j]?=some o→o.op≠.select cs b)
 (hQ:∀ c a w,Q (.panic c) (a.put oi.dst v) w→Q (.panic c) a w)
 (hTD:∀ j ∈ TD,∃ oj e,ops[j]?=some oj∧e ∈ oj.after∧Region.binds md e=true∧(e.on=i∨e.on ∈ TD))
 (hSi:∀ L w,S (L.setIfInBounds i true) w→S L w) :
 ∀ (fuel:Nat) (listed:Array Bool) (a:Act) (w:World),
   (∀ j oj,ops[j]?=some oj→j≠i→listed.getD j true=false→(∀ e ∈ oj.after,Region.binds md e=true→e.on≠i)→oi.apart ops oj=true)→
   i ∈ Region.ready md ops listed→(∀ j ∈ TD,listed.getD j true=false)→YieldsIf P ops (fun w=>∃ L,(∀ j ∈ TD,L.getD j true=false)∧S L w) oi v a→S listed w→S (listed.setIfInBounds i true) w→
   wpAnyG P md ops Q S fuel (listed.setIfInBounds i true) (a.put oi.dst v) w→wpAnyG P md ops Q S (fuel + 1) listed a w:=by
 intro fuel
 induction fuel with
 | zero=>
   intro listed a w _ hr ht hy hS hS' H
   refine ⟨fun h=>(by rw [h] at hr; cases hr),fun j hj=>?_⟩
   by_cases hji:j=i
   ·subst hji; exact hy.wpOp hi ⟨listed,ht,hS⟩ ⟨hS',H⟩
   ·have:=ready_mono hj hji
    rw [H.1] at this
    cases this
 | succ fuel ih=>
   intro listed a w hfree hr ht hy hS hS' H
   refine ⟨fun h=>(by rw [h] at hr; cases hr),fun j hj=>?_⟩
   by_cases hji:j=i
   ·subst hji; exact hy.wpOp hi ⟨listed,ht,hS⟩ ⟨hS',H⟩
   ·have h1:=H.2 j (ready_mono hj hji)
    obtain ⟨hjun,oj,hoj,hall⟩:=mem_ready.1 hj
    have hnot:∀ e ∈ oj.after,Region.binds md e=true→e.on≠i:=fun e he hb heq=>by
     have h1:=hall e he hb
     have h0:=(mem_ready.1 hr).1
     rw [heq] at h1
     rcases Nat.lt_or_ge i listed.size with h' | h'
     ·simp [h'] at h0 h1; rw [h0] at h1; cases h1
     ·simp [Array.getElem?_eq_none h'] at h1
    have hjTD:j ∉ TD:=fun hm=>by
     obtain ⟨oj',e,e1,e2,e3,e4⟩:=hTD j hm
     rw [hoj] at e1; cases e1
     rcases e4 with e4 | e4
     ·exact hnot e e2 e3 e4
     ·have h2:=hall e e2 e3
      have h3:=ht _ e4
      rcases Nat.lt_or_ge e.on listed.size with h' | h'
      ·simp [h'] at h2 h3; rw [h2] at h3; cases h3
      ·simp [Array.getElem?_eq_none h'] at h2
    have h2:=wpOp_putIf hoj (hfree j oj hoj hji hjun hnot) (fun cs b=>hsel i oi cs b hi) (fun cs b=>hsel j oj cs b hoj) hQ hy h1
    have hfree':∀ k ok,ops[k]?=some ok→k≠i→(listed.setIfInBounds j true).getD k true=false→
     (∀ e ∈ ok.after,Region.binds md e=true→e.on≠i)→oi.apart ops ok=true:=fun k ok hk hki hun hno=>by
     refine hfree k ok hk hki ?_ hno
     by_cases hjk:j=k
     ·subst hjk; exact hjun
     ·rw [getD_set_ne true hjk] at hun; exact hun
    have ht':∀ k ∈ TD,(listed.setIfInBounds j true).getD k true=false:=fun k hk=>by
     rw [getD_set_ne true (by rintro rfl; exact hjTD hk)]; exact ht k hk
    refine wpOp_mono (fun a' w' h3=>?_) h2
    obtain ⟨hy',hS2,hG⟩:=h3
    rw [Array.setIfInBounds_comm _ _ (Ne.symm hji)] at hS2
    have hS1:=hSi _ _ hS2
    refine ⟨hS1,ih (listed.setIfInBounds j true) a' w' hfree' (ready_mono hr (Ne.symm hji)) ht' hy' hS1 hS2 ?_⟩
    rw [Array.setIfInBounds_comm _ _ hji]
    exact hG
theorem wpAnyG_done {S:Array Bool→World→Prop} {listed:Array Bool} {a:Act} {w:World} (hr:Region.ready md ops listed=[]) (h:Q .normal a w) :
 ∀ fuel,wpAnyG P md ops Q S fuel listed a w
 | 0=>⟨hr,h⟩
 | _ + 1=>⟨fun _=>h,by rw [hr]; simp⟩
end
inductive DT where
 | done
 | rd (g:Option (Opd × Bool)) (d:Dst) (s:SOp Opd) (D:List Nat) (next:DT)
 | ef (i:Nat) (g:Option (Opd × Bool)) (d:Dst) (s:SOp Opd) (next:DT)
 | br (a b:DT)
inductive Held where
 | ld (sz:Option Nat) (a:Addr) (v:Value)
 | b2s (x:Value) (v:Value)
def Held.ok (H:Heap):Held→Prop
 | .ld sz a v=>ldV H sz a=some v
 | .b2s x v=>b2sN H (some x)=some v
abbrev Pend:=List (List Nat × Held)
def pendDrop (i:Nat):Pend→Pend
 | []=>[]
 | (D,h) :: r=>if D.elem i then pendDrop i r else (D,h) :: pendDrop i r
def pendOk (H:Heap):Pend→Prop
 | []=>True
 | (_,h) :: r=>h.ok H∧pendOk H r
def SOp.held {O:Type} (ev:O→Option Value) (D:List Nat) (v:Value) (s:SOp O) (p:Pend):Pend:=
 match s with
 | .ld sz x=>match ev x with
   | some (.pointer (some a))=>(D,.ld sz a v) :: p
   | _=>p
 | .b2s x=>match ev x with
   | some u=>(D,.b2s u v) :: p
   | none=>p
 | _=>p
def rdK (F:Prop × Value→Prop):Option (Prop × Value)→Prop
 | some x=>F x
 | none=>False
def vcD (P:Program) (E:Chain→Heap→Prop):DT→Pend→Slots→List Value→Heap→(Slots→Heap→Prop)→Prop
 | .done,_,σ,_,H,K=>K σ H
 | .rd none d s D next,pend,σ,τ,H,K=>rdK (fun x=>x.1∧vcD P E next (s.held (evO σ τ) D x.2 pend) (putS d x.2 σ) (putT d x.2 τ) H K) (s.rd (evO σ τ) H)
 | .rd (some (t,b)) d s D next,pend,σ,τ,H,K=>
   match guardOf (evO σ τ t) with
   | some (some c)=>(c=b→rdK (fun x=>x.1∧vcD P E next (s.held (evO (setS t (.bool b) σ) (setT t (.bool b) τ)) D x.2 pend) (putS d x.2 (setS t (.bool b) σ)) (putT d x.2 (setT t (.bool b) τ)) H K) (s.rd (evO (setS t (.bool b) σ) (setT t (.bool b) τ)) H))∧
    (c=(!b)→vcD P E next pend (putS d undef (setS t (.bool (!b)) σ)) (putT d undef (setT t (.bool (!b)) τ)) H K)
   | some none=>vcD P E next pend (putS d undef σ) (putT d undef τ) H K
   | none=>False
 | .ef i none d s next,pend,σ,τ,H,K=>s.vc P E (evO σ τ) H (fun v H'=>pendOk H' (pendDrop i pend)∧vcD P E next (pendDrop i pend) (putS d v σ) (putT d v τ) H' K)
 | .ef i (some (t,b)) d s next,pend,σ,τ,H,K=>
   match guardOf (evO σ τ t) with
   | some (some c)=>(c=b→s.vc P E (evO (setS t (.bool b) σ) (setT t (.bool b) τ)) H (fun v H'=>pendOk H' (pendDrop i pend)∧vcD P E next (pendDrop i pend) (putS d v (setS t (.bool b) σ)) (putT d v (setT t (.bool b) τ)) H' K))∧
    (c=(!b)→vcD P E next (pendDrop i pend) (putS d undef (setS t (.bool (!b)) σ)) (putT d undef (setT t (.bool (!b)) τ)) H K)
   | some none=>vcD P E next (pendDrop i pend) (putS d undef σ) (putT d undef τ) H K
   | none=>False
 | .br a b,pend,σ,τ,H,K=>vcD P E a pend σ τ H K∧vcD P E b pend σ τ H K
def opReads (P:Program) (o:Oper):Bool:=
 match stripOp P o with
 | some s=>s.reads
 | none=>false
def waitsOn (md:Region.Mode) (ops:List Oper) (i:Nat):Nat→List Nat→List Nat
 | 0,acc=>acc
 | k + 1,acc=>
   waitsOn md ops i k (ops.zipIdx.foldl (fun acc (o,j)=>if acc.elem j || j == i then acc else if o.after.any (fun e=>Region.binds md e && (e.on == i || acc.elem e.on)) then acc ++ [j] else acc) acc)
def tdOk (md:Region.Mode) (ops:Array Oper) (i:Nat) (TD:List Nat):Bool:=
 TD.all fun j=>match ops[j]? with
  | some oj=>oj.after.any fun e=>Region.binds md e && (e.on == i || TD.elem e.on)
  | none=>false
def canonD (P:Program) (n:Nx) (keep:List Nat) (ops:Array Oper) (l:List Oper) (read:List Bool):Nat→List Nat→Array Bool→Option DT
 | 0,_,listed=>if Region.ready .any ops listed=[] then some .done else none
 | k + 1,lay,listed=>
   match Region.ready .any ops listed with
   | []=>some .done
   | i :: rest=>
     match (i :: rest).find? fun j=>read.getD j false with
     | some j=>
       let TD:=waitsOn .any l j 3 []
       match ops[j]? with
       | some o=>
         match stripG P n ops.toList o with
         | some r=>
           match canonD P n keep ops l read k (layD keep lay r.d) (listed.setIfInBounds j true) with
           | some next=>
             if r.s.reads && Region.free .any ops listed j && tdOk .any ops j TD && TD.all (fun q=>listed.getD q true=false) then
              some (.rd (r.g.map fun p=>(cO keep lay (.tmp p.1),p.2)) (cD keep r.d) (r.s.map (cO keep lay)) (TD.filter fun q=>!(read.getD q false)) next) else none
           | none=>none
         | none=>none
       | none=>none
     | none=>
       let one (i:Nat):Option DT:=
        match ops[i]? with
        | some o=>match stripG P n ops.toList o with
          | some r=>match canonD P n keep ops l read k (layD keep lay r.d) (listed.setIfInBounds i true) with
            | some next=>some (.ef i (r.g.map fun p=>(cO keep lay (.tmp p.1),p.2)) (cD keep r.d) (r.s.map (cO keep lay)) next)
            | none=>none
          | none=>none
        | none=>none
       match rest with
       | []=>one i
       | [j]=>match one i,one j with
         | some a,some b=>some (.br a b)
         | _,_=>none
       | _=>none
section
variable {P:Program} {E:Chain→Heap→Prop} {n:Nx} {dd:DD} {ops:Array Oper} {Q:Exit→Act→World→Prop} {O:Type}
theorem getD_set_self {L:Array Bool} {i:Nat}:(L.setIfInBounds i true).getD i true=true:=by
 rcases Nat.lt_or_ge i L.size with h | h <;> simp [h]
theorem wpAnyG_mono' {md:Region.Mode} {S S':Array Bool→World→Prop} {i:Nat} (hS:∀ L w,L.getD i true=true→S' L w→S L w):∀ (fuel:Nat) (listed:Array Bool) (a:Act) (w:World),listed.getD i true=true→
 wpAnyG P md ops Q S' fuel listed a w→wpAnyG P md ops Q S fuel listed a w
 | 0,_,_,_,_,h=>h
 | fuel + 1,listed,a,w,hl,h=>⟨h.1,fun j hj=>wpOp_mono (fun a' w' h'=>by
  have hl':(listed.setIfInBounds j true).getD i true=true:=by
   by_cases e:j=i
   ·subst e; exact getD_set_self
   ·rw [getD_set_ne true e]; exact hl
  exact ⟨hS _ _ hl' h'.1,wpAnyG_mono' hS fuel _ a' w' hl' h'.2⟩) (h.2 j hj)⟩
def SP (pend:Pend) (L:Array Bool) (w:World):Prop:=∀ e ∈ pend,(∀ d ∈ e.1,L.getD d true=false)→e.2.ok w.heap
theorem mem_pendDrop {i:Nat}:∀ {pend:Pend} {e:List Nat × Held},e ∈ pendDrop i pend↔e ∈ pend∧i ∉ e.1
 | [],e=>by simp [pendDrop]
 | (D,h) :: r,e=>by
   simp only [pendDrop]
   split
   ·rename_i hi
    rw [mem_pendDrop]
    constructor
    ·rintro ⟨h1,h2⟩; exact ⟨by simp [h1],h2⟩
    ·rintro ⟨h1,h2⟩
     rcases List.mem_cons.1 h1 with rfl | h1
     ·exact absurd (by simpa using hi) h2
     ·exact ⟨h1,h2⟩
   ·rename_i hi
    rw [List.mem_cons,mem_pendDrop]
    constructor
    ·rintro (rfl | ⟨h1,h2⟩)
     ·exact ⟨by simp,by simpa using hi⟩
     ·exact ⟨by simp [h1],h2⟩
    ·rintro ⟨h1,h2⟩
     rcases List.mem_cons.1 h1 with rfl | h1
     ·exact .inl rfl
     ·exact .inr ⟨h1,h2⟩
theorem pendOk_mem {H:Heap}:∀ {pend:Pend},pendOk H pend→∀ e ∈ pend,e.2.ok H
 | [],_,e,he=>by cases he
 | (D,h) :: r,hp,e,he=>by
   rcases List.mem_cons.1 he with rfl | he
   ·exact hp.1
   ·exact pendOk_mem hp.2 e he
theorem mem_held {ev:O→Option Value} {D:List Nat} {v:Value} {s:SOp O} {p:Pend} {e:List Nat × Held} (h:e ∈ s.held ev D v p):e ∈ p∨e.1=D:=by
 unfold SOp.held at h
 split at h
 ·split at h
  ·rcases List.mem_cons.1 h with rfl | h
   ·exact .inr rfl
   ·exact .inl h
  ·exact .inl h
 ·split at h
  ·rcases List.mem_cons.1 h with rfl | h
   ·exact .inr rfl
   ·exact .inl h
  ·exact .inl h
 ·exact .inl h
theorem held_sub {ev:O→Option Value} {D:List Nat} {v:Value} {s:SOp O} {p:Pend} {e:List Nat × Held} (h:e ∈ p):e ∈ s.held ev D v p:=by
 unfold SOp.held
 split
 ·split
  ·exact List.mem_cons_of_mem _ h
  ·exact h
 ·split
  ·exact List.mem_cons_of_mem _ h
  ·exact h
 ·exact h
theorem held_rd' {ev:O→Option Value} {D:List Nat} {v:Value} {s:SOp O} {p:Pend} {q:Prop} {H H':Heap} (hr:s.rd ev H=some (q,v)) (hq:q) (h:∀ e ∈ s.held ev D v p,e.1=D→e.2.ok H'):∃ q',s.rd ev H'=some (q',v)∧q':=by
 cases s <;> simp only [SOp.rd,reduceCtorEq] at hr ⊢
 ·exact ⟨q,hr,hq⟩
 ·rename_i sz x
  have e:=mvN_some hr
  unfold ldN at e
  split at e
  ·rename_i ad hx
   have hok:ldV H' sz ad=some v:=h (D,.ld sz ad v) (by simp [SOp.held,hx]) rfl
   exact ⟨True,by simp [ldN,hx,hok,mvN],trivial⟩
  ·simp at e
 ·rename_i x
  have e:=mvN_some hr
  cases hx:ev x with
  | none=>rw [hx] at e; simp [b2sN] at e
  | some u=>
    have hok:b2sN H' (some u)=some v:=h (D,.b2s u v) (by simp [SOp.held,hx]) rfl
    exact ⟨True,by simp [hok,mvN],trivial⟩
theorem held_now {ev:O→Option Value} {D:List Nat} {v:Value} {s:SOp O} {p:Pend} {q:Prop} {H:Heap} (hr:s.rd ev H=some (q,v)) {e:List Nat × Held} (h:e ∈ s.held ev D v p):e ∈ p∨e.2.ok H:=by
 cases s <;> simp only [SOp.rd,reduceCtorEq] at hr <;> unfold SOp.held at h <;> simp only at h
 ·exact .inl h
 ·rename_i sz x
  have e1:=mvN_some hr
  split at h
  ·rename_i ad hx
   rcases List.mem_cons.1 h with rfl | h
   ·right; rw [hx] at e1; exact e1
   ·exact .inl h
  ·exact .inl h
 ·rename_i x
  have e1:=mvN_some hr
  split at h
  ·rename_i u hx
   rcases List.mem_cons.1 h with rfl | h
   ·right; rw [hx] at e1; exact e1
   ·exact .inl h
  ·exact .inl h
def PInv (read:List Bool) (pend:Pend):Prop:=∀ e ∈ pend,∀ d ∈ e.1,read.getD d false=false
theorem PInv.drop {read:List Bool} {pend:Pend} (h:PInv read pend) (i:Nat):PInv read (pendDrop i pend):=fun e he=>h e (mem_pendDrop.1 he).1
theorem PInv.held {read:List Bool} {pend:Pend} (h:PInv read pend) {ev:O→Option Value} {D:List Nat} {v:Value} {s:SOp O} (hD:∀ d ∈ D,read.getD d false=false):PInv read (s.held ev D v pend):=fun e he=>by
 rcases mem_held he with h1 | h1
 ·exact h e h1
 ·intro d hd; exact hD d (h1 ▸ hd)
theorem tdOk_spec {md:Region.Mode} {i:Nat} {TD:List Nat} (h:tdOk md ops i TD=true):∀ j ∈ TD,∃ oj e,ops[j]?=some oj∧e ∈ oj.after∧Region.binds md e=true∧(e.on=i∨e.on ∈ TD):=by
 intro j hj
 simp only [tdOk,List.all_eq_true] at h
 have:=h j hj
 split at this
 ·rename_i oj ho
  simp only [Array.any_eq_true',Bool.and_eq_true,Bool.or_eq_true,beq_iff_eq] at this
  obtain ⟨e,he,h1,h2⟩:=this
  exact ⟨oj,e,ho,he,h1,h2.imp id (by simp)⟩
 ·simp at this
theorem SP_set {pend:Pend} {read:List Bool} (hp:PInv read pend) {i:Nat} (hi:read.getD i false=true) {L:Array Bool} {w:World}:SP pend (L.setIfInBounds i true) w→SP pend L w:=fun h e he hd=>h e he fun d hd'=>by
 have hne:i≠d:=by rintro rfl; have:=hp e he _ hd'; rw [hi] at this; cases this
 rw [getD_set_ne true hne]; exact hd d hd'
theorem SP_set' {pend:Pend} {i:Nat} {L:Array Bool} {w:World}:SP pend L w→SP pend (L.setIfInBounds i true) w:=fun h e he hd=>h e he fun d hd'=>by
 have:=hd d hd'
 by_cases hne:i=d
 ·subst hne; rw [getD_set_self] at this; cases this
 ·rw [getD_set_ne true hne] at this; exact this
theorem held_map {O':Type} (m:O→O') (ev:O'→Option Value) (D:List Nat) (v:Value) (s:SOp O) (p:Pend):(s.map m).held ev D v p=s.held (fun x=>ev (m x)) D v p:=by
 cases s <;> rfl
theorem F2.set {keep lay:List Nat} {σ:Slots} {τ:List Value} {a:Act} (h:F2 n dd keep lay σ τ a) {x:Opd} {c:Value} (hx:evO σ τ x=some c):F2 n dd keep lay (setS x c σ) (setT x c τ) a:=h.gset hx true
theorem canonD_sound {n:Nx} {dd:DD} {keep:List Nat} {w0:World} {K:Slots→Heap→Prop} (hE:∀ c a w,Fixed n dd a→Same w0 w→E c w.heap→Q (.panic c) a w) (hQp:∀ c a d v w,dstOk n d=true→Q (.panic c) (a.put d v) w→Q (.panic c) a w) (hQ:∀ lay σ τ a w,F2 n dd keep lay σ τ a→Same w0 w→K σ w.heap→Q .normal a w) (hns:Region.noSelect ops=true) {l:List Oper} {read:List Bool} :
 ∀ (k:Nat) (lay:List Nat) (listed:Array Bool) (dt:DT),canonD P n keep ops l read k lay listed=some dt→∀ (σ:Slots) (τ:List Value) (a:Act) (w:World) (pend:Pend),F2 n dd keep lay σ τ a→Same w0 w→PInv read pend→SP pend listed w→vcD P E dt pend σ τ w.heap K→
   wpAnyG P .any ops Q (SP pend) k listed a w:=by
 intro k
 induction k with
 | zero=>
   intro lay listed dt h σ τ a w pend hf hs hp hS hv
   simp only [canonD] at h
   split at h
   ·rename_i hr
    simp at h; subst h
    exact ⟨hr,hQ lay σ τ a w hf hs hv⟩
   ·simp at h
 | succ k ih=>
   intro lay listed dt h σ τ a w pend hf hs hp hS hv
   simp only [canonD] at h
   split at h
   ·rename_i hr
    simp at h; subst h
    exact wpAnyG_done hr (hQ lay σ τ a w hf hs hv) _
   ·rename_i i rest hr
    split at h
    ·-- a read
     rename_i j hfind
     have hjr:read.getD j false=true:=by have:=List.find?_some hfind; simpa using this
     have hjm:j ∈ Region.ready .any ops listed:=by rw [hr]; exact List.mem_of_find?_eq_some hfind
     split at h
     case h_2=>cases h
     rename_i o ho
     split at h
     case h_2=>cases h
     rename_i r hg
     split at h
     case h_2=>cases h
     rename_i next hnext
     split at h
     case isFalse=>cases h
     rename_i hc
     simp only [Bool.and_eq_true,List.all_eq_true,decide_eq_true_eq] at hc
     obtain ⟨⟨⟨hrd,hfree⟩,htd⟩,hun⟩:=hc
     simp only [Option.some.injEq] at h; subst h
     obtain ⟨hd,h1,h2,hdd⟩:=stripG_spec hg
     have hDr:∀ q ∈ (waitsOn .any l j 3 []).filter (fun q=>!(read.getD q false)),read.getD q false=false:=fun q hq=>by
      have:=(List.mem_filter.1 hq).2; simpa using this
     rw [hdd] at hnext hv
     -- the step that reads
     have take:∀ (σ:Slots) (τ:List Value) (v:Value),F2 n dd keep lay σ τ a→(Region.wanted o (yielded ops a.tmps)=true∧∃ p,r.s.rd (fun x=>evO σ τ (cO keep lay x)) w.heap=some (p,v)∧p)→
      vcD P E next (r.s.held (fun x=>evO σ τ (cO keep lay x)) ((waitsOn .any l j 3 []).filter fun q=>!(read.getD q false)) v pend) (putS (cD keep o.dst) v σ) (putT (cD keep o.dst) v τ) w.heap K→wpAnyG P .any ops Q (SP pend) (k + 1) listed a w:=by
      intro σ τ v hf ⟨hw,p,hr,hpp⟩ hv
      generalize hev:(fun x=>evO σ τ (cO keep lay x))=ev at hr hv
      have hag:Agree ev a:=by rw [← hev]; exact hf.agree
      generalize hD:(waitsOn .any l j 3 []).filter (fun q=>!(read.getD q false))=D at hv hDr
      have hp':PInv read (r.s.held ev D v pend):=hp.held hDr
      have hS':SP (r.s.held ev D v pend) listed w:=fun e he hd=>by
       rcases held_now hr he with h | h
       ·exact hS e h hd
       ·exact h
      refine wpAnyG_mono (S':=SP (r.s.held ev D v pend)) (fun L w h e he=>h e (held_sub he)) _ _ _ _ ?_
      refine wpAnyG_first (v:=v) ho (Region.noSelect_spec hns) (fun c a w h=>hQp c a _ _ w hd h) (tdOk_spec htd) (fun L w=>SP_set hp' hjr) k listed a w (Region.free_spec ho hfree) hjm hun ?_ hS' (SP_set' hS') ?_
      ·refine .inl ⟨hw,fun w' ⟨L,hL,hSL⟩=>?_⟩
       obtain ⟨q',hr',hq'⟩:=held_rd' (p:=pend) (D:=D) (H':=w'.heap) hr hpp fun e he heD=>hSL e he fun d hd=>by
        rw [heD,← hD] at hd
        exact hL d (List.mem_filter.1 hd).1
       exact rd_ok h2 hag hr' hq' w' rfl
      ·exact ih _ _ _ hnext _ _ _ _ _ (hf.put hd v) hs hp' (SP_set' hS') hv
     -- the step that does not come up
     have skip:∀ (σ:Slots) (τ:List Value),F2 n dd keep lay σ τ a→Region.wanted o (yielded ops a.tmps)=false→vcD P E next pend (putS (cD keep o.dst) undef σ) (putT (cD keep o.dst) undef τ) w.heap K→wpAnyG P .any ops Q (SP pend) (k + 1) listed a w:=by
      intro σ τ hf hw hv
      refine wpAnyG_first (v:=undef) ho (Region.noSelect_spec hns) (fun c a w h=>hQp c a _ _ w hd h) (tdOk_spec htd) (fun L w=>SP_set hp hjr) k listed a w (Region.free_spec ho hfree) hjm hun (.inr ⟨hw,rfl⟩) hS (SP_set' hS) ?_
      exact ih _ _ _ hnext _ _ _ _ _ (hf.put hd undef) hs hp (SP_set' hS) hv
     cases hgg:r.g with
     | none=>
       rw [hgg] at h1 hv
       simp only [Option.map_none,vcD,rd_map,held_map] at hv
       cases hr:r.s.rd (fun x=>evO σ τ (cO keep lay x)) w.heap with
       | none=>rw [hr] at hv; exact hv.elim
       | some x=>
         rw [hr] at hv
         exact take σ τ x.2 hf ⟨wanted_none (guardSlot_none h1),x.1,by rw [hr],hv.1⟩ hv.2
     | some p=>
       obtain ⟨t,b⟩:=p
       rw [hgg] at h1 hv
       simp only [Option.map_some,vcD,rd_map,held_map] at hv
       split at hv
       ·rename_i c hc
        replace hc:=guardOf_bool hc
        have ht:=hf.tmp hc
        by_cases e:c=b
        ·subst e
         have hv:=hv.1 rfl
         have hf':=hf.set hc
         cases hr:r.s.rd (fun x=>evO (setS (cO keep lay (.tmp t)) (.bool c) σ) (setT (cO keep lay (.tmp t)) (.bool c) τ) (cO keep lay x)) w.heap with
         | none=>rw [hr] at hv; exact hv.elim
         | some x=>
           rw [hr] at hv
           exact take _ _ x.2 hf' ⟨by rw [wanted_at h1 ht]; simp,x.1,by rw [hr],hv.1⟩ hv.2
        ·have e':c= !b:=by cases c <;> cases b <;> simp_all
         subst e'
         exact skip _ _ (hf.set hc) (by rw [wanted_at h1 ht]; cases b <;> rfl) (hv.2 rfl)
       ·rename_i hc
        replace hc:=guardOf_undef hc
        exact skip _ _ hf (wanted_un h1 (hf.tmp hc)) hv
       ·exact hv.elim
    ·-- an effect
     have one:∀ (i:Nat) (dt:DT),(match ops[i]? with
      | some o=>match stripG P n ops.toList o with
        | some r=>match canonD P n keep ops l read k (layD keep lay r.d) (listed.setIfInBounds i true) with
          | some next=>some (DT.ef i (r.g.map fun p=>(cO keep lay (.tmp p.1),p.2)) (cD keep r.d) (r.s.map (cO keep lay)) next)
          | none=>none
        | none=>none
      | none=>none)=some dt→i ∈ Region.ready .any ops listed→vcD P E dt pend σ τ w.heap K→
      wpOp P ops Q i (fun a' w'=>SP pend (listed.setIfInBounds i true) w'∧wpAnyG P .any ops Q (SP pend) k (listed.setIfInBounds i true) a' w') a w:=by
      intro i dt h hi hv
      split at h
      case h_2=>cases h
      rename_i o ho
      split at h
      case h_2=>cases h
      rename_i r hg
      split at h
      case h_2=>cases h
      rename_i next hnext
      simp only [Option.some.injEq] at h; subst h
      obtain ⟨hd,h1,h2,hdd⟩:=stripG_spec hg
      rw [hdd] at hnext hv
      unfold wpOp
      rw [ho]
      -- what follows
      have go:∀ (σ':Slots) (τ':List Value) (a':Act) (w':World),F2 n dd keep (layD keep lay o.dst) σ' τ' a'→Same w0 w'→pendOk w'.heap (pendDrop i pend)→vcD P E next (pendDrop i pend) σ' τ' w'.heap K→
       SP pend (listed.setIfInBounds i true) w'∧wpAnyG P .any ops Q (SP pend) k (listed.setIfInBounds i true) a' w':=by
       intro σ' τ' a' w' hf' hs' hpo hv'
       have hSd:SP (pendDrop i pend) (listed.setIfInBounds i true) w':=fun e he _=>pendOk_mem hpo e he
       have up:∀ L w,L.getD i true=true→SP (pendDrop i pend) L w→SP pend L w:=fun L w hL h e he hd=>by
        by_cases hi:i ∈ e.1
        ·have:=hd i hi; rw [hL] at this; cases this
        ·exact h e (mem_pendDrop.2 ⟨he,hi⟩) hd
       exact ⟨up _ _ getD_set_self hSd,wpAnyG_mono' up _ _ _ _ getD_set_self (ih _ _ _ hnext _ _ _ _ _ hf' hs' (hp.drop i) hSd hv')⟩
      have same:∀ σ' τ' a',F2 n dd keep (layD keep lay o.dst) σ' τ' a'→vcD P E next (pendDrop i pend) σ' τ' w.heap K→SP pend (listed.setIfInBounds i true) w∧wpAnyG P .any ops Q (SP pend) k (listed.setIfInBounds i true) a' w:=by
       intro σ' τ' a' hf' hv'
       have hS1:=SP_set' (i:=i) hS
       have hSd:SP (pendDrop i pend) (listed.setIfInBounds i true) w:=fun e he hd=>hS1 e (mem_pendDrop.1 he).1 hd
       have up:∀ L w,L.getD i true=true→SP (pendDrop i pend) L w→SP pend L w:=fun L w hL h e he hd=>by
        by_cases hi:i ∈ e.1
        ·have:=hd i hi; rw [hL] at this; cases this
        ·exact h e (mem_pendDrop.2 ⟨he,hi⟩) hd
       exact ⟨hS1,wpAnyG_mono' up _ _ _ _ getD_set_self (ih _ _ _ hnext _ _ _ _ _ hf' hs (hp.drop i) hSd hv')⟩
      cases hgg:r.g with
      | none=>
        rw [hgg] at h1 hv
        simp only [Option.map_none,vcD,vc_map] at hv
        simp only [wanted_none (guardSlot_none h1),if_true]
        exact .inl ((stripOp_ok h2 hf.agree hv).wp (fun v w' hR hs'=>go _ _ _ w' (hf.put hd v) (hs.trans hs') hR.1 hR.2) fun c w' hc hs'=>hE c a w' hf.fixd (hs.trans hs') hc)
      | some p=>
        obtain ⟨t,b⟩:=p
        rw [hgg] at h1 hv
        simp only [Option.map_some,vcD,vc_map] at hv
        split at hv
        ·rename_i c hc
         replace hc:=guardOf_bool hc
         have ht:=hf.tmp hc
         simp only [wanted_at h1 ht]
         by_cases e:c=b
         ·subst e
          simp only [beq_self_eq_true,if_true]
          have hf':=hf.set hc
          exact .inl ((stripOp_ok h2 hf'.agree (hv.1 rfl)).wp (fun v w' hR hs'=>go _ _ _ w' (hf'.put hd v) (hs.trans hs') hR.1 hR.2) fun c w' hc hs'=>hE c a w' hf'.fixd (hs.trans hs') hc)
         ·have e':c= !b:=by cases c <;> cases b <;> simp_all
          subst e'
          rw [if_neg (by cases b <;> simp)]
          exact same _ _ _ ((hf.set hc).put hd undef) (hv.2 rfl)
        ·rename_i hc
         replace hc:=guardOf_undef hc
         simp only [wanted_un h1 (hf.tmp hc),Bool.false_eq_true,if_false]
         exact same _ _ _ (hf.put hd undef) hv
        ·exact hv.elim
     split at h
     ·refine ⟨fun h0=>(by rw [hr] at h0; cases h0),fun j hj=>?_⟩
      rw [hr] at hj
      simp at hj; subst hj
      exact one j dt h (by rw [hr]; simp) hv
     ·rename_i j
      split at h
      ·rename_i d1 d2 e1 e2
       simp at h; subst h
       refine ⟨fun h0=>(by rw [hr] at h0; cases h0),fun q hq=>?_⟩
       rw [hr] at hq
       simp at hq
       rcases hq with rfl | rfl
       ·exact one q d1 e1 (by rw [hr]; simp) hv.1
       ·exact one q d2 e2 (by rw [hr]; simp) hv.2
      ·simp at h
     ·simp at h
end
end Gx
