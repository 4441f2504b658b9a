import Derived.Test.YtmhdkbmnpekpoaaGreatDoorB5
import Derived.Test.YtmhdkbmnpekpoaaGreatDoorB4
import Derived.Test.YtmhdkbmnpekpoaaGreatDoorB2
import Derived.Lib.Builder
import Derived.WalkKit
import Derived.Test.YtmhdkbmnpekpoaaGreatDoorB3
import Derived.Lib.UnsafeStr
open Bool renaming and_eq_true→ae5,false_eq_true→ae6,false_or→aip,not_eq_true'→afo,and_true→ait
open Go.Proofs.Tryz renaming prog→afI,underlying102→aix,underlying40→aiB,ntmps50→aiE,func50→aiF,underlying119→aiI,ntmps99→aiJ
open Nat renaming le_of_ble_eq_true→ahi,le_refl→afJ,zero_le→ahn,lt_or_ge→ae8,le_trans→ah8,lt_irrefl→air,lt_of_le_of_lt→aiy
open List renaming length_cons→afK,length_append→ah1,cons_append→ahm,length_pos_iff→aho,getElem_cons_succ→ah2,mem_cons→afa,all_cons→afb,take_succ_eq_append_getElem→aim,take_succ_cons→ahq,takeWhile_cons→ahr,mem_append→ahu,take_length→ain,nil_append→ahv,all_eq_true→afg,isEmpty_iff→ah6,append_assoc→ahw,append_nil→ah7,length_map→aia,dropWhile_cons→ahz,mem_singleton→aib,dropLast_concat→aio,drop_zero→aic,dropLast_concat_getLast→aiq,all_append→aid,take_append_drop→ahK,flatten_append→aiu,lookup→aiw,length_range→aiA,all_nil→aiH
open Option renaming some→ae9,map_eq_some_iff→afe
open Go.IntKind renaming i64→afd
open Go.Value renaming oneCell'→ah3
open Go.Lib renaming itoa→ah4,decDigits→ah5,cell_of_heap→ais,run_unsafeString_none→aiv,run_unsafeSliceData_row→aiz,decDigits_eq→aiD
open Go.World renaming shape?→aiC
open Go.Result renaming andThen→aiG
set_option linter.unusedSimpArgs false
set_option linter.unusedVariables false
set_option maxRecDepth 8000
namespace Go.Proofs.YtmhdkbmnpekpoaaGreatDoor
open Gx Go
section
variable {w:Tk→Nat} (hw:Wo w)
theorem Lm {k p:Int} {s:Bs} (h:dx k=some s):okB (.mk k [] 0 p [])=true:=by
 unfold dx at h
 repeat' split at h
 all_goals first
  | (cases h; done)
  | (rename_i hk; subst hk; rw[okB.eq_def]; rfl)
theorem O4 {k p:Int} {s:Bs} (h:dx k=some s):jm (.mk k [] 0 p [])=8∧gu (.mk k [] 0 p [])=0:=by
 unfold dx at h
 repeat' split at h
 all_goals first
  | (cases h; done)
  | (rename_i hk; subst hk; rw[gu.eq_def]; exact ⟨rfl,rfl⟩)
theorem Mr.leaf {k:Nat} {ts r:List Tk} {x:Nd} (h1:jm x=8) (h2:okB x=true) (h3:gu x=0) (h4:cost w (cp x) + cost w r≤cost w ts) (h5:Gt r):Mr w k 8 ts (.ok (x,r)):=by
 refine ⟨h2,?_,?_,h5⟩
 ·unfold bT iI
  rw[h1,h3]; simp
 ·show cost w (bW x 8) + _≤_
  rw[eX,h1,if_neg (air _)]; exact h4
include hw
theorem vI {k:Nat} {c:Int} {s:Bs} {ts:List Tk} (hc:dx c=some s) (hs:ve s=true) (hg:Gt ts) (e:aY s ts=true):Mr w k 8 ts (.ok (.mk c [] 0 (hd ts).at_ [],ts.tail)):=by
 obtain ⟨h1,h2⟩:=O4 (p:=(hd ts).at_) hc
 refine Mr.leaf h1 (Lm hc) h2 ?_ (hg.tl (ag e))
 rw[ji hc,bk hw hg e,cost,cost]
 unfold cF
 rw[if_pos hs]; omega
theorem CC {ts r:List Tk} {t:Tk} (hg:Gt ts) (h:cK 3 ts= .ok (t,r)):0≤t.n∧t.n≤1000000000000000∧cost w ts=w (vD t.n) + cost w r∧Gt r:=by
 obtain ⟨e,rfl,rfl⟩:=tW h
 have hk:(hd ts).kind≠6:=by rw[e]; decide
 have hp:=hg.hd hk
 unfold lp at hp
 simp only[ae5] at hp
 have hp:=hp.2
 rw[if_neg (by omega),if_neg (by omega),if_pos e] at hp
 simp only[ae5,decide_eq_true_eq] at hp
 refine ⟨hp.2.1,hp.2.2,?_,hg.tl hk⟩
 rw[sf hk,hw (vD (hd ts).n) (hd ts) ⟨e.symm,hp.1.symm,rfl⟩]
theorem Ga (k:Nat):Mi w k 8 ig:=fun ts hg=>by
 have leaf:∀ (m q:Int) (r:List Tk),-1000000000000000≤m→m≤1000000000000000→cost w (dc m) + cost w r≤cost w ts→Gt r→Mr w k 8 ts (.ok (.mk 44 [] m q [],r)):=fun m q r h1 h2 h3 h4=>by
  refine Mr.leaf rfl ?_ ?_ ?_ h4
  ·rw[okB.eq_def]
   show (decide ([]=[]) && ([]:List Nd).isEmpty && decide _ && decide _)=true
   simp[h1,h2]
  ·rw[gu.eq_def]; rfl
  ·rw[jK]; exact h3
 cases e:ig ts with
 | error e'=>trivial
 | ok x=>
   obtain ⟨n,r⟩:=x
   unfold ig at e
   by_cases hm:aY [45] ts=true
   ·rw[if_pos hm] at e
    obtain ⟨t,r1,e1,e2⟩:=aH e
    cases e2
    obtain ⟨h1,h2,h3,h4⟩:=CC hw (hg.tl (ag hm)) e1
    have hc:=bk hw hg hm
    have gl:afd.wrap (0 - t.n)= -t.n:=by rw[aV _ (by omega) (by omega)]; omega
    rw[gl]
    refine leaf _ _ _ (by omega) (by omega) ?_ h4
    have ht:cF [45]=aM [45]:=rfl
    rw[ht] at hc
    unfold dc
    by_cases hz:-t.n < 0
    ·rw[if_pos hz]
     simp only[cost,Int.neg_neg]; omega
    ·rw[if_neg hz]
     have:t.n=0:=by omega
     rw[this] at h3 ⊢
     simp only[cost]
     have:w (vD (-0))=w (vD 0):=rfl
     omega
   ·rw[if_neg hm] at e
    obtain ⟨t,r1,e1,e2⟩:=aH e
    cases e2
    obtain ⟨h1,h2,h3,h4⟩:=CC hw hg e1
    refine leaf _ _ _ (by omega) h2 ?_ h4
    unfold dc
    rw[if_neg (by omega)]
    simp only[cost]; omega
theorem HM (k:Nat):Mi w k 8 (dn 48):=fun ts hg=>by
 cases e:dn 48 ts with
 | error e'=>trivial
 | ok x=>
   obtain ⟨n,r⟩:=x
   obtain ⟨t,r1,e1,e2⟩:=aH e
   cases e2
   obtain ⟨h1,h2,h3⟩:=gh hw hg e1
   refine Mr.leaf rfl ?_ ?_ ?_ h3
   ·rw[okB.eq_def]
    show (aT t.text && decide (0=0) && ([]:List Nd).isEmpty)=true
    simp[h1]
   ·rw[gu.eq_def]; rfl
   ·rw[jg]; simp only[cost]; omega
theorem xo {ts r:List Tk} {t:Tk} (hg:Gt ts) (h:cK 4 ts= .ok (t,r)):bM t.text=true∧cost w ts=w (oZ t.text) + cost w r∧Gt r:=by
 obtain ⟨e,rfl,rfl⟩:=tW h
 have hk:(hd ts).kind≠6:=by rw[e]; decide
 have hp:=hg.hd hk
 have hz:=vH hp (by rw[e]; decide)
 refine ⟨?_,?_,hg.tl hk⟩
 ·unfold lp at hp
  simp only[ae5] at hp
  have hp:=hp.2
  rw[if_neg (by omega),if_neg (by omega),if_neg (by omega),if_pos e] at hp
  exact hp
 ·rw[sf hk,hw (oZ (hd ts).text) (hd ts) ⟨e.symm,rfl,hz.symm⟩]
theorem HN (k:Nat):Mi w k 8 ey:=fun ts hg=>by
 cases e:ey ts with
 | error e'=>trivial
 | ok x=>
   obtain ⟨n,r⟩:=x
   obtain ⟨t,r1,e1,e2⟩:=aH e
   cases e2
   obtain ⟨h1,h2,h3⟩:=xo hw hg e1
   refine Mr.leaf rfl ?_ ?_ ?_ h3
   ·rw[okB.eq_def]
    show (bM t.text && decide (0=0) && ([]:List Nd).isEmpty)=true
    simp[h1]
   ·rw[gu.eq_def]; rfl
   ·rw[ia]; simp only[cost]; omega
omit hw in
theorem ib {fn:Bs} (h1:fn≠[114,101,99]) (h2:fn≠[109,97,112]) (a:Nd):lU fn a=okB a∧zf fn a=gu a∧qT fn a=cp a:=by
 obtain ⟨k,t,n,p,ks⟩:=a
 refine ⟨?_,?_,?_⟩
 ·rw[lU.eq_def]; simp only[h1,h2,if_false]
 ·rw[zf.eq_def]; simp only[h1,h2,if_false]
 ·rw[qT.eq_def]; simp only[h1,h2,if_false]
omit hw in
theorem pk {k n p:Int} {t:Bs} {x:Nd}:qT [114,101,99] (.mk k t n p [x])=dS t :: aM [58] :: cp x∧zf [114,101,99] (.mk k t n p [x])=gu x∧lU [114,101,99] (.mk k t n p [x])=(decide (k=52) && aT t && decide (n=0) && okB x):=by
 refine ⟨?_,?_,?_⟩
 ·rw[qT.eq_def]; rfl
 ·rw[zf.eq_def]; rfl
 ·rw[lU.eq_def]; rfl
omit hw in
theorem pn {k n p:Int} {t:Bs} {x y:Nd}:qT [109,97,112] (.mk k t n p [x,y])=cp x ++ aM [58] :: cp y∧zf [109,97,112] (.mk k t n p [x,y])=max (gu x) (gu y)∧lU [109,97,112] (.mk k t n p [x,y])=(decide (k=52) && decide (t=[]) && decide (n=0) && okB x && okB y):=by
 refine ⟨?_,?_,?_⟩
 ·rw[qT.eq_def]; rfl
 ·rw[zf.eq_def]; rfl
 ·rw[lU.eq_def]; rfl
omit hw in
theorem iX {j:Nat} {p:PP Nd} (h:Mi w j 0 p) {ts r:List Tk} {n:Nd} (hg:Gt ts) (e:p ts= .ok (n,r)):okB n=true∧gu n≤j∧cost w (cp n) + cost w r≤cost w ts∧Gt r:=by
 have:=h.of hg e
 rw[zi,zh] at this
 exact this
theorem O8 {j:Nat} (h:Mi w j 0 (aJ (bp j))) {fn:Bs} {ts r:List Tk} {a:Nd} (hg:Gt ts) (e:gD (aJ (bp j)) fn ts= .ok (a,r)):lU fn a=true∧zf fn a≤j∧cost w (qT fn a) + cost w r≤cost w ts∧Gt r:=by
 unfold gD at e
 by_cases h1:fn=[114,101,99]
 ·rw[if_pos h1] at e
  subst h1
  obtain ⟨t,r1,e1,e⟩:=aH e
  obtain ⟨c,r2,e2,e⟩:=aH e
  obtain ⟨x,r3,e3,e⟩:=aH e
  cases e
  obtain ⟨a1,a2,a3⟩:=gh hw hg e1
  obtain ⟨b1,b2⟩:=bR hw a3 e2
  obtain ⟨c1,c2,c3,c4⟩:=iX h b2 e3
  obtain ⟨g1,g2,g3⟩:=pk (k:=52) (n:=0) (p:=(hd ts).at_) (t:=t.text) (x:=x)
  rw[g1,g2,g3]
  refine ⟨by simp[a1,c1],c2,?_,c4⟩
  have ht:cF [58]=aM [58]:=rfl
  rw[ht] at b1
  simp only[cost]; omega
 ·rw[if_neg h1] at e
  by_cases h2:fn=[109,97,112]
  ·rw[if_pos h2] at e
   subst h2
   obtain ⟨x,r1,e1,e⟩:=aH e
   obtain ⟨c,r2,e2,e⟩:=aH e
   obtain ⟨y,r3,e3,e⟩:=aH e
   cases e
   obtain ⟨a1,a2,a3,a4⟩:=iX h hg e1
   obtain ⟨b1,b2⟩:=bR hw a4 e2
   obtain ⟨c1,c2,c3,c4⟩:=iX h b2 e3
   obtain ⟨g1,g2,g3⟩:=pn (k:=52) (n:=0) (p:=(hd ts).at_) (t:=[]) (x:=x) (y:=y)
   rw[g1,g2,g3]
   refine ⟨by simp[a1,c1],by omega,?_,c4⟩
   have ht:cF [58]=aM [58]:=rfl
   rw[ht] at b1
   rw[aG,cost]; omega
  ·rw[if_neg h2] at e
   obtain ⟨g1,g2,g3⟩:=ib h1 h2 a
   rw[g1,g2,g3]
   exact iX h hg e
theorem CD {j:Nat} (h:Mi w j 0 (aJ (bp j))) {fn:Bs}:∀ (f:Nat) (l:List Nd) (ts r:List Tk) (m:List Nd),ts.length≤f→Gt ts→fL (gD (aJ (bp j)) fn) f l ts= .ok (m,r)→
 ∃ a m',m=l ++ a :: m'∧nu fn (a :: m')=true∧ze fn (a :: m')≤j∧cost w (qT fn a ++ jy fn false m') + w cR + cost w r≤cost w ts∧Gt r
 | 0,l,ts,r,m,hf,hg,_=>by have:=aho.2 hg.ne; omega
 | f + 1,l,ts,r,m,hf,hg,e=>by
   simp only[fL] at e
   obtain ⟨a,r1,e1,e⟩:=aH e
   obtain ⟨c,r2,e2,e⟩:=aH e
   obtain ⟨a1,a2,a3,a4⟩:=O8 hw h hg e1
   have l1:=(Au (Cc (dG j)) (nO (dG j)) fn).of e1
   have l2:=lN e2
   unfold dF at e2
   by_cases hc:aY [44] r1=true
   ·rw[if_pos hc] at e2
    cases e2
    have jG:=bk hw a4 hc
    simp only[if_true] at e
    obtain ⟨b,m',rfl,b1,b2,b3,b4⟩:=CD h f _ _ r m (by omega) (a4.tl (ag hc)) e
    refine ⟨a,b :: m',by simp,?_,?_,?_,b4⟩
    ·rw[nu,a1,b1]; rfl
    ·rw[ze]; omega
    ·have ht:cF [44]=aM [44]:=rfl
     rw[ht] at jG
     have e3:jy fn false (b :: m')=aM [44] :: (qT fn b ++ jy fn false m'):=by rw[jy]; simp
     rw[e3,aG,cost]; omega
   ·rw[if_neg hc] at e2
    obtain ⟨c',r3,e3,e4⟩:=aH e2
    cases e4
    obtain ⟨b1,b2⟩:=bR hw a4 e3
    simp only[ae6,if_false] at e
    cases e
    refine ⟨a,[],rfl,?_,?_,?_,b2⟩
    ·rw[nu,a1,nu]; rfl
    ·rw[ze,ze]; omega
    ·have ht:cF [41]=cR:=rfl
     rw[ht] at b1
     rw[jy,ah7]; omega
theorem Ln {j:Nat} (h:Mi w j 0 (aJ (bp j))) {fn:Bs} {ts r:List Tk} {m:List Nd} (hg:Gt ts) (e:dY (gD (aJ (bp j)) fn) ts= .ok (m,r)) :
 nu fn m=true∧ze fn m≤j∧cost w (jy fn true m) + w cR + cost w r≤cost w ts∧Gt r:=by
 unfold dY at e
 by_cases hc:aY [41] ts=true
 ·rw[if_pos hc] at e
  cases e
  have jG:=bk hw hg hc
  have ht:cF [41]=cR:=rfl
  rw[ht] at jG
  exact ⟨by rw[nu],by rw[ze]; omega,by rw[jy,cost]; omega,hg.tl (ag hc)⟩
 ·rw[if_neg hc] at e
  ·obtain ⟨a,m',rfl,b1,b2,b3,b4⟩:=CD hw h _ [] ts r m (afJ _) hg e
   rw[ahv]
   have e3:jy fn true (a :: m')=qT fn a ++ jy fn false m':=by rw[jy]; simp
   exact ⟨b1,b2,by rw[e3]; exact b3,b4⟩
theorem Lp {k:Nat} (fj:Lj w k):Mi w k 8 (dZ (bp k)):=fun ts hg=>by
 unfold dZ
 have ite:∀ {c:Prop} [Decidable c] {x y:Except kc (Nd × List Tk)},(c→Mr w k 8 ts x)→(¬ c→Mr w k 8 ts y)→Mr w k 8 ts (if c then x else y):=fun {c _ x y} h1 h2=>by
  by_cases h:c
  ·rw[if_pos h]; exact h1 h
  ·rw[if_neg h]; exact h2 h
 refine ite (fun _=>Ga hw k ts hg) fun _=>?_
 refine ite (fun _=>HN hw k ts hg) fun _=>?_
 refine ite (fun _=>HM hw k ts hg) fun _=>?_
 refine ite (fun e=>vI hw (s:=[116,114,117,101]) rfl rfl hg e) fun _=>?_
 refine ite (fun e=>vI hw (s:=[102,97,108,115,101]) rfl rfl hg e) fun _=>?_
 refine ite (fun e=>vI hw (s:=[115]) rfl rfl hg e) fun _=>?_
 refine ite (fun e=>vI hw (s:=[98,111,116,116,111,109]) rfl rfl hg e) fun _=>?_
 refine ite (fun _=>?_) fun _=>?_
 ·-- Ri
  cases e:ea (bp k) [40] (fun x=>bd x.1 fun n=>bd (aU [41]) fun _=>ret n) ts with
  | error e'=>trivial
  | ok x=>
    obtain ⟨n,r⟩:=x
    have e0:=oh e
    clear e
    obtain ⟨j,hj,hb,e⟩:=e0
    subst hj
    obtain ⟨n',r1,e1,e⟩:=aH e
    obtain ⟨c,r2,e2,e⟩:=aH e
    cases e
    have hc:=bk hw hg hb
    obtain ⟨a1,a2,a3,a4⟩:=iX (fj j rfl).1 (hg.tl (ag hb)) e1
    obtain ⟨b1,b2⟩:=bR hw a4 e2
    have t1:cF [40]=eK:=rfl
    have t2:cF [41]=cR:=rfl
    rw[t1] at hc
    rw[t2] at b1
    refine ⟨a1,?_,?_,b2⟩
    ·show bT n 8≤j + 1
     unfold bT iI
     split <;> omega
    ·show cost w (bW n 8) + cost w r≤cost w ts
     rw[eX]
     split <;> omega
 refine ite (fun q=>?_) fun _=>trivial
 -- a call
 cases e:ea (bp k) [40] (fun x=>bd (dY (gD x.1 (hd ts).text)) fun l=>ret (Nd.mk 51 (hd ts).text 0 (hd ts).at_ l)) ts.tail with
 | error e'=>trivial
 | ok x=>
   obtain ⟨n,r⟩:=x
   have e0:=oh e
   clear e
   obtain ⟨j,hj,hb,e⟩:=e0
   subst hj
   obtain ⟨l,r1,e1,e⟩:=aH e
   cases e
   have hk:(hd ts).kind≠6:=by rw[q.1]; decide
   have Th:=hg.tl hk
   have hc:=bk hw Th hb
   have t1:cF [40]=eK:=rfl
   rw[t1] at hc
   obtain ⟨a1,a2,a3,a4⟩:=Ln hw (fj j rfl).1 (Th.tl (ag hb)) e1
   have hz:=vH (hg.hd hk) (by rw[q.1]; decide)
   have QW:=sf (w:=w) hk
   rw[← hw (bh (hd ts).text) (hd ts) ⟨q.1.symm,rfl,hz.symm⟩] at QW
   have kE:jm (.mk 51 (hd ts).text 0 (hd ts).at_ l)=8:=rfl
   refine ⟨?_,?_,?_,a4⟩
   ·show okB _=true
    rw[okB.eq_def]
    show (decide ((hd ts).text ∈ aZ) && decide (0=0) && nu (hd ts).text l)=true
    simp[q.2,a1]
   ·show bT _ 8≤j + 1
    unfold bT iI
    rw[kE,od]
    simp; omega
   ·show cost w (bW _ 8) + _≤_
    rw[eX,kE,if_neg (air _),jh,cost,cost,aG]
    simp only[cost]; omega
theorem xp {k:Nat} (fj:Lj w k):∀ (f:Nat) (n:Nd) (ts r:List Tk) (m:Nd),okB n=true→bT n 7≤k→Gt ts→dC (bp k) f n ts= .ok (m,r)→
 okB m=true∧bT m 7≤k∧cost w (bW m 7) + cost w r≤cost w (bW n 7) + cost w ts∧Gt r
 | 0,n,ts,r,m,h1,h2,h3,h=>by cases h; exact ⟨h1,h2,afJ _,h3⟩
 | f + 1,n,ts,r,m,h1,h2,h3,h=>by
   simp only[dC] at h
   by_cases e:aY [46] ts=true
   ·rw[if_pos e] at h
    obtain ⟨t,r1,e1,h⟩:=aH h
    have hc:=bk hw h3 e
    have t1:cF [46]=aM [46]:=rfl
    rw[t1] at hc
    obtain ⟨a1,a2,a3⟩:=gh hw (h3.tl (ag e)) e1
    have kE:jm (.mk 42 t.text 0 (hd ts).at_ [n])=7:=rfl
    obtain ⟨m1,m2,m3,m4⟩:=xp fj f _ r1 r m (by
     rw[okB.eq_def]
     show (aT t.text && decide (0=0) && okB n)=true
     simp[a1,h1]) (by
     unfold bT iI
     rw[kE,lV]
     simpa using h2) a3 h
    refine ⟨m1,m2,?_,m4⟩
    have z6:cost w (bW (.mk 42 t.text 0 (hd ts).at_ [n]) 7)=cost w (bW n 7) + w (aM [46]) + w (dS t.text):=by
     rw[eX,kE,if_neg (air _),hU,aG]
     simp only[cost]; omega
    omega
   rw[if_neg e] at h
   by_cases e2:aY [91] ts=true
   ·rw[if_pos e2] at h
    have e0:=oh h
    clear h
    obtain ⟨j,hj,_,h⟩:=e0
    subst hj
    obtain ⟨b,r1,e1,h⟩:=aH h
    obtain ⟨c,r2,e3,h⟩:=aH h
    have hc:=bk hw h3 e2
    have t1:cF [91]=aM [91]:=rfl
    have t2:cF [93]=aM [93]:=rfl
    rw[t1] at hc
    obtain ⟨a1,a2,a3,a4⟩:=iX (fj j rfl).1 (h3.tl (ag e2)) e1
    obtain ⟨b1,b2⟩:=bR hw a4 e3
    rw[t2] at b1
    have kE:jm (.mk 43 [] 0 (hd ts).at_ [n,b])=7:=rfl
    obtain ⟨m1,m2,m3,m4⟩:=xp fj f _ r2 r m (by
     rw[okB.eq_def]
     show (decide (([]:Bs)=[]) && decide (0=0) && okB n && okB b)=true
     simp[a1,h1]) (by
     unfold bT iI
     rw[kE,lW]
     simp
     omega) b2 h
    refine ⟨m1,m2,?_,m4⟩
    have z6:cost w (bW (.mk 43 [] 0 (hd ts).at_ [n,b]) 7)=cost w (bW n 7) + w (aM [91]) + cost w (cp b) + w (aM [93]):=by
     rw[eX,kE,if_neg (air _),hX,aG,cost,aG]
     simp only[cost]; omega
    omega
   ·rw[if_neg e2] at h
    cases h; exact ⟨h1,h2,afJ _,h3⟩
theorem Lq {k:Nat} (fj:Lj w k):Mi w k 7 (kN (bp k)):=fun ts hg=>by
 cases e:kN (bp k) ts with
 | error e'=>trivial
 | ok x=>
   obtain ⟨m,r⟩:=x
   obtain ⟨n,r1,e1,e⟩:=aH e
   obtain ⟨b1,b2,b3,b4⟩:=((Lp hw fj).low (l:=7) (by omega)).of hg e1
   obtain ⟨m1,m2,m3,m4⟩:=xp hw fj _ n r1 r m b1 b2 b4 e
   exact ⟨m1,m2,by show cost w (bW m 7) + cost w r≤cost w ts; omega,m4⟩
theorem Pa {k:Nat} (fj:Lj w k):Mi w k 6 (wB (bp k)):=pj hw (OZ (by decide)) (Lq hw fj)
theorem Lr {k:Nat} (fj:Lj w k):Mi w k 5 (ke (bp k)):=pj hw (OZ (by decide)) (Pa hw fj)
theorem Pb {k:Nat} (fj:Lj w k):Mi w k 4 (nq (bp k)):=fun ts hg=>by
 have hj:=Lr hw fj
 cases e:nq (bp k) ts with
 | error e'=>trivial
 | ok x=>
   obtain ⟨m,r⟩:=x
   obtain ⟨n,r1,e1,e⟩:=aH e
   obtain ⟨b1,b2,b3,b4⟩:=hj.of hg e1
   by_cases ho:fE mA r1=true
   ·rw[if_pos ho] at e
    obtain ⟨c,r2,e2,e⟩:=aH e
    cases e
    obtain ⟨c1,c2,c3,c4⟩:=hj.of (b4.tl (ag (ep ho))) e2
    have dH:eb mA (hd r1).text≠0:=by
     unfold fE at ho
     simp only[ae5,decide_eq_true_eq] at ho
     exact ho.1
    have pX:∀ s,eb mA s≠0→eH (eb mA s)=some (cF s,4,5,5):=abd (by decide)
    have hb:=pX _ dH
    have hf:=n9 hb
    have kE:jm (.mk (eb mA (hd r1).text) [] 0 (hd r1).at_ [n,c])=4:=hf.mB
    have GZ:=bk hw b4 (ep ho)
    refine ⟨?_,?_,?_,c4⟩
    ·show okB _=true
     rw[okB.eq_def]
     simp only[hb,b1,c1]
     decide
    ·show bT _ 4≤k
     unfold bT iI
     rw[kE,pd hb]
     simp
     omega
    ·show cost w (bW _ 4) + _≤_
     rw[eX,kE,if_neg (air _),jJ hb,aG,cost]
     show _ + cost w r≤_
     omega
   ·rw[if_neg ho] at e
    cases e
    exact ⟨b1,ah8 (AH (l:=4) (l':=5) _ (by omega)) b2,ah8 (Nat.add_le_add_right (tV (w:=w) (l:=4) (l':=5) _ (by omega)) _) b3,b4⟩
theorem Gb {k:Nat} (fj:Lj w k):Mi w k 3 (fX (bp k)):=fun ts hg=>by
 unfold fX
 by_cases hb:aY [110,111,116] ts=true
 ·rw[if_pos hb]
  cases e:ea (bp k) [110,111,116] (fun x=>bd x.2 fun n=>ret (Nd.mk 33 [] 0 (hd ts).at_ [n])) ts with
  | error e'=>trivial
  | ok x=>
    obtain ⟨m,r⟩:=x
    have e0:=oh e
    clear e
    obtain ⟨j,hj,_,e⟩:=e0
    subst hj
    obtain ⟨n,r1,e1,e⟩:=aH e
    cases e
    have hc:=bk hw hg hb
    have t1:cF [110,111,116]=bh [110,111,116]:=rfl
    rw[t1] at hc
    obtain ⟨a1,a2,a3,a4⟩:=(fj j rfl).2.of (hg.tl (ag hb)) e1
    have kE:jm (.mk 33 [] 0 (hd ts).at_ [n])=3:=rfl
    refine ⟨?_,?_,?_,a4⟩
    ·show okB _=true
     rw[okB.eq_def]
     show (decide (([]:Bs)=[]) && decide (0=0) && okB n)=true
     simp[a1]
    ·show bT _ 3≤j + 1
     unfold bT iI
     rw[kE,rZ]
     simp; omega
    ·show cost w (bW _ 3) + _≤_
     rw[eX,kE,if_neg (air _),kU,cost]
     show _ + cost w r≤_
     omega
 ·rw[if_neg hb]
  exact (Pb hw fj).low (by omega) ts hg
theorem Pc {k:Nat} (fj:Lj w k):Mi w k 2 (wC (bp k)):=pj hw (OZ (by decide)) (Gb hw fj)
theorem UQ {k:Nat} (fj:Lj w k):Mi w k 1 (Kc (bp k)):=pj hw (OZ (by decide)) (Pc hw fj)
theorem CE {k:Nat} (fj:Lj w k):Mi w k 0 (aJ (bp k)):=fun ts hg=>by
 unfold aJ
 by_cases hb:aY [105,102] ts=true
 ·rw[if_pos hb]
  cases e:ea (bp k) [105,102] (fun x=>bd x.1 fun a=>bd (aU [116,104,101,110]) fun _=>bd x.1 fun b=>bd (aU [101,108,115,101]) fun _=>bd x.1 fun c=>ret (Nd.mk 30 [] 0 (hd ts).at_ [a,b,c])) ts with
  | error e'=>trivial
  | ok x=>
    obtain ⟨m,r⟩:=x
    have e0:=oh e
    clear e
    obtain ⟨j,hj,_,e⟩:=e0
    subst hj
    have hz:=(fj j rfl).1
    obtain ⟨a,r1,e1,e⟩:=aH e
    obtain ⟨_,r2,e2,e⟩:=aH e
    obtain ⟨b,r3,e3,e⟩:=aH e
    obtain ⟨_,r4,e4,e⟩:=aH e
    obtain ⟨c,r5,e5,e⟩:=aH e
    cases e
    have hc:=bk hw hg hb
    obtain ⟨a1,a2,a3,a4⟩:=iX hz (hg.tl (ag hb)) e1
    obtain ⟨f1,f2⟩:=bR hw a4 e2
    obtain ⟨b1,b2,b3,b4⟩:=iX hz f2 e3
    obtain ⟨g1,g2⟩:=bR hw b4 e4
    obtain ⟨c1,c2,c3,c4⟩:=iX hz g2 e5
    have t1:cF [105,102]=bh [105,102]:=rfl
    have t2:cF [116,104,101,110]=bh [116,104,101,110]:=rfl
    have t3:cF [101,108,115,101]=bh [101,108,115,101]:=rfl
    rw[t1] at hc
    rw[t2] at f1
    rw[t3] at g1
    have kE:jm (.mk 30 [] 0 (hd ts).at_ [a,b,c])=0:=rfl
    refine ⟨?_,?_,?_,c4⟩
    ·show okB _=true
     rw[okB.eq_def]
     show (decide (([]:Bs)=[]) && decide (0=0) && okB a && okB b && okB c)=true
     simp[a1,b1,c1]
    ·show bT _ 0≤j + 1
     rw[zi,xm]; omega
    ·show cost w (bW _ 0) + cost w r≤_
     rw[zh,oa,cost,aG,cost,aG,cost]
     omega
 ·rw[if_neg hb]
  exact (UQ hw fj).low (by omega) ts hg
theorem loM:∀ k:Nat,Lj w k
 | 0=>fun j hj=>by omega
 | k + 1=>fun j hj=>by
   obtain rfl:j=k:=by omega
   exact ⟨CE hw (loM j),Gb hw (loM j)⟩
theorem si {k:Nat} {ts r:List Tk} {n:Nd} (hg:Gt ts) (e:aJ (bp k) ts= .ok (n,r)):okB n=true∧gu n≤k∧cost w (cp n) + cost w r≤cost w ts∧Gt r:=iX (CE hw (loM hw k)) hg e
end
def ak:Nd→Bs
 | .mk _ t _ _ _=>t
def numOf:Nd→Int
 | .mk _ _ n _ _=>n
def aL:Nd→List Nd
 | .mk _ _ _ _ ks=>ks
def dQ (x:Nd):Bool:=decide (kindOf x=47) && decide (numOf x=0) && (aL x).isEmpty && bM (ak x)
def mh (x:Nd):Bool:=decide (kindOf x=44) && decide (ak x=[]) && (aL x).isEmpty && decide (-1000000000000000≤numOf x) && decide (numOf x≤1000000000000000)
def lj (x:Nd):Bool:=decide (ak x=[]) && decide (numOf x=0)
def jQ (x:Nd):Bool:=decide (kindOf x=20) && lj x && !(aL x).isEmpty && (aL x).all dQ
def aP (ks:List Nd):List Nd:=ks.takeWhile fun x=>decide (kindOf x=47)
def bt (ks:List Nd):List Nd:=ks.dropWhile fun x=>decide (kindOf x=47)
def cG:Bool→List Nd→List Tk
 | _,[]=>[]
 | first,a :: r=>(if first then [] else [aM [44]]) ++ oZ (ak a) :: cG false r
def dN (ks:List Nd):List Tk:=if ks.isEmpty then [] else eK :: (cG true ks ++ [cR])
def yG (x:Nd):List Tk:=aM [59] :: (cG true (aL x).dropLast ++ [aM [61,62],oZ (((aL x).getLast?.map ak).getD [])])
def fF:List Nd→List Tk
 | []=>[]
 | x :: r=>yG x ++ fF r
mutual
def eC:Nd→List Tk
 | .mk k t n p ks=>
   if k=21 then [dS t]
   else if k=10 then [bh [102,108,97,103]]
   else if k=18 then [bh [114,101,103,105,115,116,101,114]]
   else if k=13 then bh [115,101,116] :: dN ks
   else if k=17 then bh [102,108,97,116] :: dN ks
   else if k=14 then bh [109,97,112] :: (dN ks.dropLast ++ ((nv ks).getLast?.getD []))
   else if k=11 then bh [109,97,120] :: eK :: (dc ((ks.map numOf).getD 0 0) ++ aM [44] :: (dc ((ks.map numOf).getD 1 0) ++ [cR]))
   else if k=12 then bh [109,105,110] :: eK :: (dc ((ks.map numOf).getD 0 0) ++ aM [44] :: (dc ((ks.map numOf).getD 1 0) ++ [cR]))
   else if k=16 then bh [108,101,120] :: eK :: ((nv ks).getD 0 [] ++ aM [44] :: ((nv ks).getD 1 [] ++ [cR]))
   else if k=15 then aM [123] :: (fG true ks ++ [aM [125]])
   else if k=19 then bh [99,108,111,115,101,100] :: eK :: (cG true (aP ks) ++ (fF (bt ks) ++ [cR]))
   else []
def nv:List Nd→List (List Tk)
 | []=>[]
 | x :: r=>eC x :: nv r
def fG:Bool→List Nd→List Tk
 | _,[]=>[]
 | first,x :: r=>(if first then [] else [aM [44]]) ++ (zl x ++ fG false r)
def zl:Nd→List Tk
 | .mk k t n p ks=>dS t :: aM [58] :: ((nv ks).getD 0 [])
end
mutual
def cV:Nd→Bool
 | .mk k t n p ks=>
   if k=21 then aT t && decide (n=0) && ks.isEmpty
   else decide (t=[]) && decide (n=0) && (
   if k=10 then ks.isEmpty
   else if k=18 then ks.isEmpty
   else if k=13 then ks.all dQ
   else if k=17 then ks.all dQ
   else if k=14 then ks.dropLast.all dQ && ((fw ks).getLast?.getD false)
   else if k=11 then decide (ks.length=2) && ks.all mh
   else if k=12 then decide (ks.length=2) && ks.all mh
   else if k=16 then decide (ks.length=2) && (fw ks).all id
   else if k=15 then !ks.isEmpty && fb ks
   else if k=19 then (aP ks).all dQ && (bt ks).all jQ
   else false)
def fw:List Nd→List Bool
 | []=>[]
 | x :: r=>cV x :: fw r
def fb:List Nd→Bool
 | []=>true
 | x :: r=>uQ x && fb r
def uQ:Nd→Bool
 | .mk k t n p ks=>decide (k=22) && aT t && decide (n=0) && decide (ks.length=1) && (fw ks).all id
end
mutual
def gM:Nd→Nat
 | .mk k t n p ks=>
   if k=14 then ((nw ks).getLast?.getD 0) + 1
   else if k=16 then max ((nw ks).getD 0 0) ((nw ks).getD 1 0) + 1
   else if k=15 then nx ks + 1
   else 0
def nw:List Nd→List Nat
 | []=>[]
 | x :: r=>gM x :: nw r
def nx:List Nd→Nat
 | []=>0
 | x :: r=>max (Ls x) (nx r)
def Ls:Nd→Nat
 | .mk k t n p ks=>(nw ks).getD 0 0
end
inductive IJ:Nd→Prop
 | named {n p:Int} {t:Bs} (ht:aT t=true) (hn:n=0):IJ (.mk 21 t n p [])
 | flag {n p:Int} {t:Bs} (ht:t=[]) (hn:n=0):IJ (.mk 10 t n p [])
 | register {n p:Int} {t:Bs} (ht:t=[]) (hn:n=0):IJ (.mk 18 t n p [])
 | set {n p:Int} {t:Bs} {ks:List Nd} (ht:t=[]) (hn:n=0) (hk:ks.all dQ=true):IJ (.mk 13 t n p ks)
 | flat {n p:Int} {t:Bs} {ks:List Nd} (ht:t=[]) (hn:n=0) (hk:ks.all dQ=true):IJ (.mk 17 t n p ks)
 | map {n p:Int} {t:Bs} {ks:List Nd} {x:Nd} (ht:t=[]) (hn:n=0) (hk:ks.all dQ=true) (hx:cV x=true):IJ (.mk 14 t n p (ks ++ [x]))
 | max {n p:Int} {t:Bs} {a b:Nd} (ht:t=[]) (hn:n=0) (ha:mh a=true) (hb:mh b=true):IJ (.mk 11 t n p [a,b])
 | min {n p:Int} {t:Bs} {a b:Nd} (ht:t=[]) (hn:n=0) (ha:mh a=true) (hb:mh b=true):IJ (.mk 12 t n p [a,b])
 | lex {n p:Int} {t:Bs} {a b:Nd} (ht:t=[]) (hn:n=0) (ha:cV a=true) (hb:cV b=true):IJ (.mk 16 t n p [a,b])
 | prod {n p:Int} {t:Bs} {a:Nd} {ks:List Nd} (ht:t=[]) (hn:n=0) (ha:uQ a=true) (hk:fb ks=true):IJ (.mk 15 t n p (a :: ks))
 | closed {n p:Int} {t:Bs} {ks:List Nd} (ht:t=[]) (hn:n=0) (h1:(aP ks).all dQ=true) (h2:(bt ks).all jQ=true):IJ (.mk 19 t n p ks)
theorem sj:∀ (l:List Nd) (x:Nd),fw (l ++ [x])=fw l ++ [cV x]
 | [],x=>by rw[ahv,fw,fw]; rfl
 | y :: l,x=>by rw[ahm,fw,fw,sj l x]; rfl
theorem CF:∀ (l:List Nd) (x:Nd),nv (l ++ [x])=nv l ++ [eC x]
 | [],x=>by rw[ahv,nv,nv]; rfl
 | y :: l,x=>by rw[ahm,nv,nv,CF l x]; rfl
theorem CG:∀ (l:List Nd) (x:Nd),nw (l ++ [x])=nw l ++ [gM x]
 | [],x=>by rw[ahv,nw,nw]; rfl
 | y :: l,x=>by rw[ahm,nw,nw,CG l x]; rfl
theorem ic:∀ {x:Nd},cV x=true→IJ x
 | .mk k t n p ks,h=>by
   rw[cV.eq_def] at h
   simp only at h
   by_cases k0:k=21
   ·subst k0
    rw[if_pos rfl] at h
    simp only[ae5,decide_eq_true_eq,ah6] at h
    obtain ⟨⟨h1,h2⟩,rfl⟩:=h
    exact .named h1 h2
   rw[if_neg k0] at h
   simp only[ae5,decide_eq_true_eq] at h
   obtain ⟨⟨ht,hn⟩,h⟩:=h
   by_cases k1:k=10
   ·subst k1
    rw[if_pos rfl] at h
    simp only[ah6] at h
    subst h
    exact .flag ht hn
   rw[if_neg k1] at h
   by_cases k2:k=18
   ·subst k2
    rw[if_pos rfl] at h
    simp only[ah6] at h
    subst h
    exact .register ht hn
   rw[if_neg k2] at h
   by_cases k3:k=13
   ·subst k3; rw[if_pos rfl] at h; exact .set ht hn h
   rw[if_neg k3] at h
   by_cases k4:k=17
   ·subst k4; rw[if_pos rfl] at h; exact .flat ht hn h
   rw[if_neg k4] at h
   by_cases k5:k=14
   ·subst k5
    rw[if_pos rfl] at h
    simp only[ae5] at h
    cases jk:ks with
    | nil=>rw[jk,fw] at h; exact absurd h.2 (by decide)
    | cons a r=>
      have dH:ks≠[]:=by rw[jk]; simp
      have e:=(aiq dH).symm
      rw[← jk,e]
      rw[e,sj,List.getLast?_append] at h
      rw[aio] at h
      exact .map ht hn h.1 (by simpa using h.2)
   rw[if_neg k5] at h
   by_cases k6:k=11
   ·subst k6
    rw[if_pos rfl] at h
    simp only[ae5,decide_eq_true_eq] at h
    match ks,h with
    | [a,b],h=>
      have h:=h.2
      simp only[afb,aiH,ait,ae5] at h
      exact .max ht hn h.1 h.2
   rw[if_neg k6] at h
   by_cases k7:k=12
   ·subst k7
    rw[if_pos rfl] at h
    simp only[ae5,decide_eq_true_eq] at h
    match ks,h with
    | [a,b],h=>
      have h:=h.2
      simp only[afb,aiH,ait,ae5] at h
      exact .min ht hn h.1 h.2
   rw[if_neg k7] at h
   by_cases k8:k=16
   ·subst k8
    rw[if_pos rfl] at h
    simp only[ae5,decide_eq_true_eq] at h
    match ks,h with
    | [a,b],h=>
      have h:=h.2
      rw[fw,fw,fw] at h
      simp only[afb,aiH,ait,ae5,id] at h
      exact .lex ht hn h.1 h.2
   rw[if_neg k8] at h
   by_cases k9:k=15
   ·subst k9
    rw[if_pos rfl] at h
    simp only[ae5] at h
    match ks,h with
    | a :: r,h=>
      have h:=h.2
      rw[fb,ae5] at h
      exact .prod ht hn h.1 h.2
   rw[if_neg k9] at h
   by_cases Wm:k=19
   ·subst Wm
    rw[if_pos rfl,ae5] at h
    exact .closed ht hn h.1 h.2
   rw[if_neg Wm] at h
   cases h
section
variable {n p:Int} {t:Bs} {a b x:Nd} {ks:List Nd}
theorem jR:eC (.mk 21 t n p ks)=[dS t]:=by rw[eC.eq_def]; rfl
theorem lX:eC (.mk 10 t n p ks)=[bh [102,108,97,103]]:=by rw[eC.eq_def]; rfl
theorem gi:eC (.mk 18 t n p ks)=[bh [114,101,103,105,115,116,101,114]]:=by rw[eC.eq_def]; rfl
theorem pq:eC (.mk 13 t n p ks)=bh [115,101,116] :: dN ks:=by rw[eC.eq_def]; rfl
theorem lY:eC (.mk 17 t n p ks)=bh [102,108,97,116] :: dN ks:=by rw[eC.eq_def]; rfl
theorem pr:eC (.mk 14 t n p (ks ++ [x]))=bh [109,97,112] :: (dN ks ++ eC x):=by
 have e:eC (.mk 14 t n p (ks ++ [x]))=bh [109,97,112] :: (dN (ks ++ [x]).dropLast ++ ((nv (ks ++ [x])).getLast?.getD [])):=by rw[eC.eq_def]; rfl
 rw[e,aio,CF,List.getLast?_append]; rfl
theorem pt:eC (.mk 11 t n p [a,b])=bh [109,97,120] :: eK :: (dc (numOf a) ++ aM [44] :: (dc (numOf b) ++ [cR])):=by rw[eC.eq_def]; rfl
theorem pv:eC (.mk 12 t n p [a,b])=bh [109,105,110] :: eK :: (dc (numOf a) ++ aM [44] :: (dc (numOf b) ++ [cR])):=by rw[eC.eq_def]; rfl
theorem pw:eC (.mk 16 t n p [a,b])=bh [108,101,120] :: eK :: (eC a ++ aM [44] :: (eC b ++ [cR])):=by
 have e:eC (.mk 16 t n p [a,b])=bh [108,101,120] :: eK :: ((nv [a,b]).getD 0 [] ++ aM [44] :: ((nv [a,b]).getD 1 [] ++ [cR])):=by rw[eC.eq_def]; rfl
 rw[e,nv,nv,nv]; rfl
theorem lZ:eC (.mk 15 t n p ks)=aM [123] :: (fG true ks ++ [aM [125]]):=by rw[eC.eq_def]; rfl
theorem iS:eC (.mk 19 t n p ks)=bh [99,108,111,115,101,100] :: eK :: (cG true (aP ks) ++ (fF (bt ks) ++ [cR])):=by rw[eC.eq_def]; rfl
theorem xq {k:Int}:zl (.mk k t n p [x])=dS t :: aM [58] :: eC x:=by rw[zl,nv]; rfl
theorem sk:gM (.mk 14 t n p (ks ++ [x]))=gM x + 1:=by
 have e:gM (.mk 14 t n p (ks ++ [x]))=((nw (ks ++ [x])).getLast?.getD 0) + 1:=by rw[gM.eq_def]; rfl
 rw[e,CG,List.getLast?_append]; rfl
theorem so:gM (.mk 16 t n p [a,b])=max (gM a) (gM b) + 1:=by
 have e:gM (.mk 16 t n p [a,b])=max ((nw [a,b]).getD 0 0) ((nw [a,b]).getD 1 0) + 1:=by rw[gM.eq_def]; rfl
 rw[e,nw,nw,nw]; rfl
theorem om:gM (.mk 15 t n p ks)=nx ks + 1:=by rw[gM.eq_def]; rfl
theorem xr {k:Int}:Ls (.mk k t n p [x])=gM x:=by rw[Ls,nw]; rfl
theorem sr:∀ {m:Nd},uQ m=true→∃ t p x,m= .mk 22 t 0 p [x]∧aT t=true∧cV x=true
 | .mk k t n p ks,h=>by
   rw[uQ] at h
   simp only[ae5,decide_eq_true_eq] at h
   obtain ⟨⟨⟨⟨rfl,h2⟩,rfl⟩,h4⟩,h5⟩:=h
   match ks,h4,h5 with
   | [x],_,h5=>
     rw[fw,fw] at h5
     exact ⟨t,p,x,rfl,h2,by simpa using h5⟩
theorem gN:∀ {m:Nd},dQ m=true→∃ t p,m= .mk 47 t 0 p []∧bM t=true
 | .mk k t n p ks,h=>by
   unfold dQ at h
   simp only[ae5,decide_eq_true_eq,ah6] at h
   obtain ⟨⟨⟨h1,h2⟩,h3⟩,h4⟩:=h
   have h1:k=47:=h1
   have h2:n=0:=h2
   have h3:ks=[]:=h3
   subst h1 h2 h3
   exact ⟨t,p,rfl,h4⟩
theorem gj:∀ {m:Nd},mh m=true→∃ n p,m= .mk 44 [] n p []∧-1000000000000000≤n∧n≤1000000000000000
 | .mk k t n p ks,h=>by
   unfold mh at h
   simp only[ae5,decide_eq_true_eq,ah6] at h
   obtain ⟨⟨⟨⟨h1,h2⟩,h3⟩,h4⟩,h5⟩:=h
   have h1:k=44:=h1
   have h2:t=[]:=h2
   have h3:ks=[]:=h3
   subst h1 h2 h3
   exact ⟨n,p,rfl,h4,h5⟩
end
theorem xu {t:Bs} (Y:List Tk):ey (oZ t :: Y)= .ok (.mk 47 t 0 0 [],Y):=rfl
theorem xv {Y:List Tk} (hY:aY [44] Y=false):∀ (qs:List Nd) (f:Nat) (l:List Nd),qs.all dQ=true→qs.length≤f→∃ m,bI qs m∧dM f l (cG false qs ++ Y)= .ok (l ++ m,Y)
 | [],0,l,_,_=>⟨[],bI.nil,by rw[cG,ah7]; rfl⟩
 | [],f + 1,l,_,_=>⟨[],bI.nil,by
   rw[cG,ahv,ah7]
   simp only[dM]
   rw[if_neg (by rw[hY]; decide)]⟩
 | q :: qs,0,l,_,h=>by simp at h
 | q :: qs,f + 1,l,ho,h=>by
   rw[afb,ae5] at ho
   obtain ⟨t,p,rfl,_⟩:=gN ho.1
   obtain ⟨m,h1,h2⟩:=xv hY qs f (l ++ [.mk 47 t 0 0 []]) ho.2 (by simpa using h)
   refine ⟨.mk 47 t 0 0 [] :: m,bI.cons (ik rfl rfl rfl bI.nil) h1,?_⟩
   have e:cG false (.mk 47 t 0 p [] :: qs) ++ Y=aM [44] :: oZ t :: (cG false qs ++ Y):=by rw[cG]; rfl
   rw[e]
   simp only[dM]
   rw[if_pos (dT (s:=[44]) (t:=aM [44]) (.inr rfl) rfl _)]
   show bd ey _ (oZ t :: (cG false qs ++ Y))=_
   rw[az (xu _),h2]
   simp
theorem CH:∀ (qs:List Nd),qs.length≤(cG false qs).length
 | []=>ahn _
 | q :: qs=>by
   have:=CH qs
   rw[cG]
   simp only[afK,ah1]
   omega
theorem qB {Y:List Tk} (hY:aY [44] Y=false) {q:Nd} {qs:List Nd} (h:(q :: qs).all dQ=true):∃ m,bI (q :: qs) m∧ej (cG true (q :: qs) ++ Y)= .ok (m,Y):=by
 rw[afb,ae5] at h
 obtain ⟨t,p,rfl,_⟩:=gN h.1
 obtain ⟨m,h1,h2⟩:=xv hY qs (cG false qs ++ Y).length [.mk 47 t 0 0 []] h.2 (by have:=CH qs; simp; omega)
 refine ⟨.mk 47 t 0 0 [] :: m,bI.cons (ik rfl rfl rfl bI.nil) h1,?_⟩
 have e:cG true (.mk 47 t 0 p [] :: qs) ++ Y=oZ t :: (cG false qs ++ Y):=by rw[cG]; rfl
 rw[e]
 unfold ej
 rw[az (xu _)]
 exact h2
theorem qC {Y:List Tk} (hY:aY [40] Y=false) {qs:List Nd} (h:qs.all dQ=true):∃ m,bI qs m∧bJ (dN qs ++ Y)= .ok (m,Y):=by
 cases qs with
 | nil=>
   refine ⟨[],bI.nil,?_⟩
   show bJ Y=_
   unfold bJ
   rw[if_neg (by rw[hY]; decide)]
 | cons q qs=>
   obtain ⟨m,h1,h2⟩:=qB (Y:=cR :: Y) (kq (by decide) _) h
   refine ⟨m,h1,?_⟩
   have e:dN (q :: qs) ++ Y=eK :: (cG true (q :: qs) ++ cR :: Y):=by
    show eK :: (cG true (q :: qs) ++ [cR]) ++ Y=_
    simp
   rw[e]
   unfold bJ
   rw[if_pos (dT (s:=[40]) (t:=eK) (.inr rfl) rfl _)]
   show bd ej _ (cG true (q :: qs) ++ cR :: Y)=_
   rw[az h2,az (vF Y)]; rfl
theorem AJ {n:Int} (h1:-1000000000000000≤n) (h2:n≤1000000000000000) (Y:List Tk):ig (dc n ++ Y)= .ok (.mk 44 [] n 0 [],Y):=by
 unfold dc
 by_cases AG:n < 0
 ·rw[if_pos AG]
  show ig (aM [45] :: vD (-n) :: Y)=_
  unfold ig
  rw[if_pos (dT (s:=[45]) (t:=aM [45]) (.inr rfl) rfl _)]
  have t1:cK 3 (vD (-n) :: Y)= .ok (vD (-n),Y):=rfl
  show bd (cK 3) _ (vD (-n) :: Y)=_
  rw[az t1]
  have hw:afd.wrap (0 - (vD (-n)).n)=n:=by
   show afd.wrap (0 - -n)=n
   rw[aV _ (by omega) (by omega)]; omega
  show ret (Nd.mk 44 [] (afd.wrap (0 - (vD (-n)).n)) 0 []) Y=_
  rw[hw]; rfl
 ·rw[if_neg AG]; rfl
theorem py (r:List Tk):aU [40] (eK :: r)= .ok (0,r):=cZ [40] r
theorem EL {q:PP Nd} {A B Y:List Tk} {a b:Nd} (ha:q (A ++ aM [44] :: (B ++ cR :: Y))= .ok (a,aM [44] :: (B ++ cR :: Y))) (hb:q (B ++ cR :: Y)= .ok (b,cR :: Y)) :
 lh q (eK :: (A ++ aM [44] :: (B ++ [cR])) ++ Y)= .ok ([a,b],Y):=by
 have e:eK :: (A ++ aM [44] :: (B ++ [cR])) ++ Y=eK :: (A ++ aM [44] :: (B ++ cR :: Y)):=by simp
 rw[e]
 unfold lh
 rw[az (py _),az ha,az (cZ [44] _),az hb,az (vF Y)]
 rfl
theorem Pd {Y:List Tk} {x:Nd} (h:jQ x=true):∃ x',cU x x'∧jx ((yG x).tail ++ Y)= .ok (x',Y):=by
 obtain ⟨k,t,n,p,ks⟩:=x
 unfold jQ lj at h
 simp only[ae5,decide_eq_true_eq] at h
 obtain ⟨⟨⟨h1,h2,h3⟩,h4⟩,h5⟩:=h
 have h1:k=20:=h1
 have h2:t=[]:=h2
 have h3:n=0:=h3
 subst h1 h2 h3
 have dH:ks≠[]:=by
  intro q
  subst q
  simp[aL] at h4
 have ek:=(aiq dH).symm
 generalize Wn:ks.dropLast=qs at *
 generalize ks.getLast dH=c at *
 subst ek
 have h5:(qs ++ [c]).all dQ=true:=h5
 rw[aid,ae5] at h5
 obtain ⟨h6,h7⟩:=h5
 have h7:dQ c=true:=by simpa using h7
 obtain ⟨tc,pc,rfl,_⟩:=gN h7
 have e:(yG (.mk 20 [] 0 p (qs ++ [.mk 47 tc 0 pc []]))).tail ++ Y=cG true qs ++ aM [61,62] :: oZ tc :: Y:=by
  unfold yG aL
  simp only[List.tail_cons,aio,List.getLast?_append,List.getLast?_singleton,Option.some_or,Option.map_some,Option.getD_some]
  simp[ak]
 rw[e]
 have hq:∃ m,bI qs m∧kH (cG true qs ++ aM [61,62] :: oZ tc :: Y)= .ok (m,aM [61,62] :: oZ tc :: Y):=by
  cases qs with
  | nil=>exact ⟨[],bI.nil,rfl⟩
  | cons q r=>
    obtain ⟨m,m1,m2⟩:=qB (Y:=aM [61,62] :: oZ tc :: Y) (kq (by decide) _) h6
    refine ⟨m,m1,?_⟩
    unfold kH
    rw[if_pos,m2]
    rw[cG]; rfl
 obtain ⟨m,m1,m2⟩:=hq
 refine ⟨.mk 20 [] 0 (hd (cG true qs ++ aM [61,62] :: oZ tc :: Y)).at_ (m ++ [.mk 47 tc 0 0 []]),ik rfl rfl rfl (m1.app (bI.one (ik rfl rfl rfl bI.nil))),?_⟩
 unfold jx
 rw[az m2,az (cZ [61,62] _),az (xu Y)]
 rfl
theorem CI (x:Nd) (Y:List Tk):yG x ++ Y=aM [59] :: ((yG x).tail ++ Y):=rfl
theorem CJ {Y:List Tk} (hY:aY [59] Y=false):∀ (rs:List Nd) (f:Nat) (l:List Nd),rs.all jQ=true→rs.length≤f→∃ m,bI rs m∧eU f l (fF rs ++ Y)= .ok (l ++ m,Y)
 | [],0,l,_,_=>⟨[],bI.nil,by rw[fF,ah7]; rfl⟩
 | [],f + 1,l,_,_=>⟨[],bI.nil,by
   rw[fF,ahv,ah7]
   simp only[eU]
   rw[if_neg (by rw[hY]; decide)]⟩
 | x :: rs,0,l,_,h=>by simp at h
 | x :: rs,f + 1,l,ho,h=>by
   rw[afb,ae5] at ho
   obtain ⟨x',x1,x2⟩:=Pd (Y:=fF rs ++ Y) ho.1
   obtain ⟨m,h1,h2⟩:=CJ hY rs f (l ++ [x']) ho.2 (by simpa using h)
   refine ⟨x' :: m,bI.cons x1 h1,?_⟩
   rw[fF,ahw,CI]
   simp only[eU]
   rw[if_pos (dT (s:=[59]) (t:=aM [59]) (.inr rfl) rfl _)]
   show bd jx _ ((yG x).tail ++ (fF rs ++ Y))=_
   rw[az x2,h2]
   simp
theorem CK:∀ (rs:List Nd),rs.length≤(fF rs).length
 | []=>ahn _
 | x :: rs=>by
   have:=CK rs
   rw[fF]
   unfold yG
   simp only[afK,ah1]
   omega
theorem pz (ks:List Nd):ks=aP ks ++ bt ks:=(List.takeWhile_append_dropWhile).symm
theorem HO {Y:List Tk} {ks:List Nd} (h1:(aP ks).all dQ=true) (h2:(bt ks).all jQ=true):∃ m,bI ks m∧gg (eK :: (cG true (aP ks) ++ (fF (bt ks) ++ [cR])) ++ Y)= .ok (m,Y):=by
 have e:eK :: (cG true (aP ks) ++ (fF (bt ks) ++ [cR])) ++ Y=eK :: (cG true (aP ks) ++ (fF (bt ks) ++ cR :: Y)):=by simp
 rw[e]
 have hh:aY [44] (fF (bt ks) ++ cR :: Y)=false∧(hd (fF (bt ks) ++ cR :: Y)).kind≠4:=by
  cases bt ks with
  | nil=>rw[fF]; exact ⟨kq (t:=cR) (by decide) _,by show (5:Int)≠4; decide⟩
  | cons x r=>rw[fF,ahw,CI]; exact ⟨kq (t:=aM [59]) (by decide) _,by show (5:Int)≠4; decide⟩
 have hq:∃ m,bI (aP ks) m∧kH (cG true (aP ks) ++ (fF (bt ks) ++ cR :: Y))= .ok (m,fF (bt ks) ++ cR :: Y):=by
  cases hl:aP ks with
  | nil=>
    refine ⟨[],bI.nil,?_⟩
    rw[cG,ahv]
    unfold kH
    rw[if_neg hh.2]
  | cons q r=>
    rw[hl] at h1
    obtain ⟨m,m1,m2⟩:=qB hh.1 h1
    refine ⟨m,m1,?_⟩
    unfold kH
    rw[if_pos,m2]
    rw[cG]; rfl
 obtain ⟨m,m1,m2⟩:=hq
 obtain ⟨m',m3,m4⟩:=CJ (Y:=cR :: Y) (kq (by decide) _) (bt ks) (fF (bt ks) ++ cR :: Y).length m h2 (by have:=CK (bt ks); simp; omega)
 refine ⟨m ++ m',by
  have:=m1.app m3
  rw[← pz] at this; exact this,?_⟩
 unfold gg
 rw[az (py _),az m2]
 show bd (eU (fF (bt ks) ++ cR :: Y).length m) _ _=_
 rw[az m4,az (vF Y)]
 rfl
theorem abe (k:Nat):dW (k + 1)=some (bV (dW k)):=by
 show some (gX k)=_
 rw[fg]
def RtL (x:Nd):Prop:=cV x=true→∀ k,gM x≤k→∀ Y,aY [40] Y=false→∃ x',cU x x'∧bV (dW k) (eC x ++ Y)= .ok (x',Y)
theorem HP {x:Nd} (h:cV x=true) (Y:List Tk):aY [40] (eC x ++ Y)=false:=by
 have hs:=ic h
 cases hs with
 | named=>rw[jR]; rfl
 | flag=>rw[lX]; rfl
 | register=>rw[gi]; rfl
 | set=>rw[pq]; rfl
 | flat=>rw[lY]; rfl
 | map=>rw[pr]; rfl
 | max=>rw[pt]; rfl
 | min=>rw[pv]; rfl
 | lex=>rw[pw]; rfl
 | prod=>rw[lZ]; rfl
 | closed=>rw[iS]; rfl
section
variable {N:Nat} (ih:∀ x,aq x≤N→RtL x)
include ih
theorem Lu {m:Nd} (hs:aq m≤N) (ho:uQ m=true) {k:Nat} (hk:Ls m≤k) {Y:List Tk} (hY:aY [40] Y=false):∃ m',cU m m'∧vi (bV (dW k)) (zl m ++ Y)= .ok (m',Y):=by
 obtain ⟨t,p,x,rfl,ht,hx⟩:=sr ho
 rw[xr] at hk
 rw[xq]
 simp only[aq,aA] at hs
 obtain ⟨x',h1,h2⟩:=ih x (by omega) hx k hk Y hY
 refine ⟨.mk 22 t 0 0 [x'],ik rfl rfl rfl (bI.one h1),?_⟩
 unfold vi
 show bd (cK 1) _ (dS t :: aM [58] :: (eC x ++ Y))=_
 have t1:cK 1 (dS t :: aM [58] :: (eC x ++ Y))= .ok (dS t,aM [58] :: (eC x ++ Y)):=rfl
 rw[az t1,az (cZ [58] _),az h2]
 rfl
theorem Gc {k:Nat} {Y:List Tk}:∀ (ks:List Nd) (a:Nd) (f:Nat) (l:List Nd),aq a≤N→aA ks≤N→uQ a=true→fb ks=true→Ls a≤k→nx ks≤k→ks.length < f→
 ∃ m,bI (a :: ks) m∧lM (bV (dW k)) f l (zl a ++ (fG false ks ++ aM [125] :: Y))= .ok (l ++ m,aM [125] :: Y)
 | [],a,0,l,_,_,_,_,_,_,h=>by omega
 | [],a,f + 1,l,h1,h2,h3,h4,h5,h6,h7=>by
   obtain ⟨a',e1,e2⟩:=Lu ih h1 h3 h5 (Y:=aM [125] :: Y) rfl
   refine ⟨[a'],bI.one e1,?_⟩
   rw[fG,ahv]
   simp only[lM]
   rw[az e2]
   rfl
 | b :: r,a,0,l,_,_,_,_,_,_,h=>by omega
 | b :: r,a,f + 1,l,h1,h2,h3,h4,h5,h6,h7=>by
   simp only[aA] at h2
   simp only[afK] at h7
   rw[fb,ae5] at h4
   rw[nx] at h6
   have e:fG false (b :: r) ++ aM [125] :: Y=aM [44] :: (zl b ++ (fG false r ++ aM [125] :: Y)):=by
    rw[fG]; simp
   obtain ⟨a',e1,e2⟩:=Lu ih h1 h3 h5 (Y:=aM [44] :: (zl b ++ (fG false r ++ aM [125] :: Y))) rfl
   obtain ⟨m,e3,e4⟩:=Gc (k:=k) (Y:=Y) r b f (l ++ [a']) (by omega) (by omega) h4.1 h4.2 (by omega) (by omega) (by omega)
   refine ⟨a' :: m,bI.cons e1 e3,?_⟩
   rw[e]
   simp only[lM]
   rw[az e2]
   show (if aY [44] (aM [44] :: _)=true then lM _ f (l ++ [a']) _ else _)=_
   rw[if_pos (dT (s:=[44]) (t:=aM [44]) (.inr rfl) rfl _)]
   show lM _ f (l ++ [a']) (zl b ++ (fG false r ++ aM [125] :: Y))=_
   rw[e4]
   simp
end
theorem CL:∀ (ks:List Nd),ks.length≤(fG false ks).length
 | []=>ahn _
 | a :: r=>by
   have:=CL r
   rw[fG]
   simp only[afK,ah1,ae6,if_false]
   simp; omega
theorem Gd:∀ (N:Nat) (x:Nd),aq x≤N→RtL x
 | 0,x,h=>by cases x; simp only[aq] at h; omega
 | N + 1,x,h=>by
   have ih:=Gd N
   intro ho k hk Y hY
   have hs:=ic ho
   cases hs with
   | @named n p t ht hn=>rw[jR]; exact ⟨.mk 21 t 0 0 [],ik rfl rfl hn bI.nil,rfl⟩
   | @flag n p t ht hn=>rw[lX]; exact ⟨.mk 10 [] 0 0 [],ik rfl ht hn bI.nil,rfl⟩
   | @register n p t ht hn=>rw[gi]; exact ⟨.mk 18 [] 0 0 [],ik rfl ht hn bI.nil,rfl⟩
   | @set n p t ks ht hn FK=>
     rw[pq]
     obtain ⟨m,m1,m2⟩:=qC hY FK
     refine ⟨.mk 13 [] 0 0 m,ik rfl ht hn m1,?_⟩
     have e:bV (dW k) (bh [115,101,116] :: dN ks ++ Y)=bd bJ (fun l=>ret (Nd.mk 13 [] 0 0 l)) (dN ks ++ Y):=rfl
     rw[e,az m2]; rfl
   | @flat n p t ks ht hn FK=>
     rw[lY]
     obtain ⟨m,m1,m2⟩:=qC hY FK
     refine ⟨.mk 17 [] 0 0 m,ik rfl ht hn m1,?_⟩
     have e:bV (dW k) (bh [102,108,97,116] :: dN ks ++ Y)=bd bJ (fun l=>ret (Nd.mk 17 [] 0 0 l)) (dN ks ++ Y):=rfl
     rw[e,az m2]; rfl
   | @map n p t ks x ht hn FK hx=>
     rw[sk] at hk
     rw[pr]
     obtain ⟨k,rfl⟩:∃ k',k=k' + 1:=⟨k - 1,by omega⟩
     have dO:aq x≤N:=by
      simp only[aq] at h
      have Wp:∀ l:List Nd,aA (l ++ [x])=aA l + aq x:=by
       intro l
       induction l with
       | nil=>simp[aA]
       | cons y l UR=>rw[ahm,aA,aA,UR]; omega
      rw[Wp] at h
      omega
     obtain ⟨x',x1,x2⟩:=ih x dO hx k (by omega) Y hY
     obtain ⟨m,m1,m2⟩:=qC (HP hx Y) FK
     refine ⟨.mk 14 [] 0 0 (m ++ [x']),ik rfl ht hn (m1.app (bI.one x1)),?_⟩
     have e1:bh [109,97,112] :: (dN ks ++ eC x) ++ Y=bh [109,97,112] :: (dN ks ++ (eC x ++ Y)):=by simp
     rw[e1]
     have e:bV (dW (k + 1)) (bh [109,97,112] :: (dN ks ++ (eC x ++ Y)))=bd bJ (fun l=>bd (gX k) fun y=>ret (Nd.mk 14 [] 0 0 (l ++ [y]))) (dN ks ++ (eC x ++ Y)):=rfl
     rw[e,az m2,fg,az x2]; rfl
   | @max n p t a b ht hn ha hb=>
     rw[pt]
     obtain ⟨na,pa,rfl,a1,a2⟩:=gj ha
     obtain ⟨nb,pb,rfl,b1,b2⟩:=gj hb
     refine ⟨.mk 11 [] 0 0 [.mk 44 [] na 0 [],.mk 44 [] nb 0 []],ik rfl ht hn (bI.two (ik rfl rfl rfl bI.nil) (ik rfl rfl rfl bI.nil)),?_⟩
     have e:∀ Z,bV (dW k) (bh [109,97,120] :: Z)=bd (lh ig) (fun l=>ret (Nd.mk 11 [] 0 0 l)) Z:=fun Z=>rfl
     have en:∀ (q z:Int),numOf (.mk 44 [] q z [])=q:=fun _ _=>rfl
     rw[ahm,e,en,en,az (EL (AJ a1 a2 _) (AJ b1 b2 _))]; rfl
   | @min n p t a b ht hn ha hb=>
     rw[pv]
     obtain ⟨na,pa,rfl,a1,a2⟩:=gj ha
     obtain ⟨nb,pb,rfl,b1,b2⟩:=gj hb
     refine ⟨.mk 12 [] 0 0 [.mk 44 [] na 0 [],.mk 44 [] nb 0 []],ik rfl ht hn (bI.two (ik rfl rfl rfl bI.nil) (ik rfl rfl rfl bI.nil)),?_⟩
     have e:∀ Z,bV (dW k) (bh [109,105,110] :: Z)=bd (lh ig) (fun l=>ret (Nd.mk 12 [] 0 0 l)) Z:=fun Z=>rfl
     have en:∀ (q z:Int),numOf (.mk 44 [] q z [])=q:=fun _ _=>rfl
     rw[ahm,e,en,en,az (EL (AJ a1 a2 _) (AJ b1 b2 _))]; rfl
   | @lex n p t a b ht hn ha hb=>
     rw[so] at hk
     rw[pw]
     simp only[aq,aA] at h
     obtain ⟨k,rfl⟩:∃ k',k=k' + 1:=⟨k - 1,by omega⟩
     obtain ⟨b',b1,b2⟩:=ih b (by omega) hb k (by omega) (cR :: Y) rfl
     obtain ⟨a',a1,a2⟩:=ih a (by omega) ha k (by omega) (aM [44] :: (eC b ++ cR :: Y)) rfl
     refine ⟨.mk 16 [] 0 0 [a',b'],ik rfl ht hn (bI.two a1 b1),?_⟩
     have e:∀ Z,bV (dW (k + 1)) (bh [108,101,120] :: Z)=bd (lh (gX k)) (fun l=>ret (Nd.mk 16 [] 0 0 l)) Z:=fun Z=>rfl
     rw[ahm,e,fg,az (EL a2 b2)]; rfl
   | @prod n p t a ks ht hn ha FK=>
     rw[om,nx] at hk
     rw[lZ]
     simp only[aq,aA] at h
     obtain ⟨k,rfl⟩:∃ k',k=k' + 1:=⟨k - 1,by omega⟩
     have e1:aM [123] :: (fG true (a :: ks) ++ [aM [125]]) ++ Y=aM [123] :: (zl a ++ (fG false ks ++ aM [125] :: Y)):=by
      rw[fG]; simp
     rw[e1]
     obtain ⟨m,m1,m2⟩:=Gc ih (k:=k) (Y:=Y) ks a ((zl a ++ (fG false ks ++ aM [125] :: Y)).length + 1) [] (by omega) (by omega) ha FK (by omega) (by omega) (by have:=CL ks; simp; omega)
     refine ⟨.mk 15 [] 0 0 m,ik rfl ht hn m1,?_⟩
     have e:∀ Z,bV (dW (k + 1)) (aM [123] :: Z)=bd (kR (gX k)) (fun l=>ret (Nd.mk 15 [] 0 0 l)) Z:=fun Z=>rfl
     have e2:kR (bV (dW k)) (zl a ++ (fG false ks ++ aM [125] :: Y))= .ok (m,Y):=by
      unfold kR
      rw[az m2,az (cZ [125] Y)]; rfl
     rw[e,fg,az e2]; rfl
   | @closed n p t ks ht hn h1 h2=>
     rw[iS]
     obtain ⟨m,m1,m2⟩:=HO (Y:=Y) h1 h2
     refine ⟨.mk 19 [] 0 0 m,ik rfl ht hn m1,?_⟩
     have e:∀ Z,bV (dW k) (bh [99,108,111,115,101,100] :: Z)=bd gg (fun l=>ret (Nd.mk 19 [] 0 0 l)) Z:=fun Z=>rfl
     rw[ahm,e,az m2]; rfl
theorem AK {x:Nd} (ho:cV x=true) {k:Nat} (hk:gM x≤k) {Y:List Tk} (hY:aY [40] Y=false):∃ x',cU x x'∧bV (dW k) (eC x ++ Y)= .ok (x',Y):=Gd _ x (afJ _) ho k hk Y hY
section
variable {w:Tk→Nat} (hw:Wo w)
include hw
theorem tX {ts r:List Tk} {q:Nd} (hg:Gt ts) (e:ey ts= .ok (q,r)):dQ q=true∧cost w ts=w (oZ (ak q)) + cost w r∧Gt r:=by
 obtain ⟨t,r1,e1,e2⟩:=aH e
 cases e2
 obtain ⟨h1,h2,h3⟩:=xo hw hg e1
 exact ⟨by show (decide ((47:Int)=47) && decide ((0:Int)=0) && ([]:List Nd).isEmpty && bM t.text)=true; rw[h1]; rfl,h2,h3⟩
theorem uR:∀ (f:Nat) (l:List Nd) (ts r:List Tk) (m:List Nd),Gt ts→dM f l ts= .ok (m,r)→∃ m',m=l ++ m'∧m'.all dQ=true∧cost w (cG false m') + cost w r≤cost w ts∧Gt r
 | 0,l,ts,r,m,hg,e=>by
   cases e
   exact ⟨[],by simp,rfl,by rw[cG,cost]; omega,hg⟩
 | f + 1,l,ts,r,m,hg,e=>by
   simp only[dM] at e
   by_cases hc:aY [44] ts=true
   ·rw[if_pos hc] at e
    obtain ⟨q,r1,e1,e⟩:=aH e
    have jG:=bk hw hg hc
    have t1:cF [44]=aM [44]:=rfl
    rw[t1] at jG
    obtain ⟨a1,a2,a3⟩:=tX hw (hg.tl (ag hc)) e1
    obtain ⟨m',rfl,b1,b2,b3⟩:=uR f _ r1 r m a3 e
    refine ⟨q :: m',by simp,by rw[afb,a1,b1]; rfl,?_,b3⟩
    have e3:cG false (q :: m')=aM [44] :: oZ (ak q) :: cG false m':=by rw[cG]; rfl
    rw[e3]
    simp only[cost]; omega
   ·rw[if_neg hc] at e
    cases e
    exact ⟨[],by simp,rfl,by rw[cG,cost]; omega,hg⟩
theorem uS {ts r:List Tk} {m:List Nd} (hg:Gt ts) (e:ej ts= .ok (m,r)):m≠[]∧m.all dQ=true∧cost w (cG true m) + cost w r≤cost w ts∧Gt r:=by
 unfold ej at e
 obtain ⟨q,r1,e1,e⟩:=aH e
 obtain ⟨a1,a2,a3⟩:=tX hw hg e1
 obtain ⟨m',rfl,b1,b2,b3⟩:=uR hw _ _ r1 r m a3 e
 refine ⟨by simp,?_,?_,b3⟩
 ·show (q :: m').all dQ=true
  rw[afb,a1,b1]; rfl
 ·have e3:cG true ([q] ++ m')=oZ (ak q) :: cG false m':=by
   show cG true (q :: m')=_
   rw[cG]; rfl
  rw[e3,cost]; omega
theorem ot {ts r:List Tk} {m:List Nd} (hg:Gt ts) (e:bJ ts= .ok (m,r)):m.all dQ=true∧cost w (dN m) + cost w r≤cost w ts∧Gt r:=by
 unfold bJ at e
 by_cases hc:aY [40] ts=true
 ·rw[if_pos hc] at e
  obtain ⟨l,r1,e1,e⟩:=aH e
  obtain ⟨c,r2,e2,e⟩:=aH e
  cases e
  have jG:=bk hw hg hc
  obtain ⟨a0,a1,a2,a3⟩:=uS hw (hg.tl (ag hc)) e1
  obtain ⟨b1,b2⟩:=bR hw a3 e2
  have t1:cF [40]=eK:=rfl
  have t2:cF [41]=cR:=rfl
  rw[t1] at jG
  rw[t2] at b1
  refine ⟨a1,?_,b2⟩
  unfold dN
  rw[if_neg (by simpa using a0),cost,aG]
  simp only[cost]; omega
 ·rw[if_neg hc] at e
  cases e
  exact ⟨rfl,by show cost w [] + _≤_; rw[cost]; omega,hg⟩
theorem CM {ts r:List Tk} {m:List Nd} (hg:Gt ts) (e:kH ts= .ok (m,r)):m.all dQ=true∧cost w (cG true m) + cost w r≤cost w ts∧Gt r:=by
 unfold kH at e
 by_cases hc:(hd ts).kind=4
 ·rw[if_pos hc] at e
  obtain ⟨_,h1,h2,h3⟩:=uS hw hg e
  exact ⟨h1,h2,h3⟩
 ·rw[if_neg hc] at e
  cases e
  exact ⟨rfl,by rw[cG,cost]; omega,hg⟩
theorem Lw {ts r:List Tk} {x:Nd} (hg:Gt ts) (e:jx ts= .ok (x,r)):jQ x=true∧cost w (yG x).tail + cost w r≤cost w ts∧Gt r:=by
 unfold jx at e
 obtain ⟨q,r1,e1,e⟩:=aH e
 obtain ⟨c,r2,e2,e⟩:=aH e
 obtain ⟨d,r3,e3,e⟩:=aH e
 cases e
 obtain ⟨a1,a2,a3⟩:=CM hw hg e1
 obtain ⟨b1,b2⟩:=bR hw a3 e2
 obtain ⟨c1,c2,c3⟩:=tX hw b2 e3
 have t1:cF [61,62]=aM [61,62]:=rfl
 rw[t1] at b1
 refine ⟨?_,?_,c3⟩
 ·show (decide ((20:Int)=20) && (decide (([]:Bs)=[]) && decide ((0:Int)=0)) && !(q ++ [d]).isEmpty && (q ++ [d]).all dQ)=true
  rw[aid,a1,afb,c1]
  simp
 ·have et:(yG (.mk 20 [] 0 (hd ts).at_ (q ++ [d]))).tail=cG true q ++ [aM [61,62],oZ (ak d)]:=by
   unfold yG aL
   simp
  rw[et,aG]
  simp only[cost]; omega
theorem xw:∀ (f:Nat) (l:List Nd) (ts r:List Tk) (m:List Nd),Gt ts→eU f l ts= .ok (m,r)→∃ m',m=l ++ m'∧m'.all jQ=true∧cost w (fF m') + cost w r≤cost w ts∧Gt r
 | 0,l,ts,r,m,hg,e=>by
   cases e
   exact ⟨[],by simp,rfl,by rw[fF,cost]; omega,hg⟩
 | f + 1,l,ts,r,m,hg,e=>by
   simp only[eU] at e
   by_cases hc:aY [59] ts=true
   ·rw[if_pos hc] at e
    obtain ⟨q,r1,e1,e⟩:=aH e
    have jG:=bk hw hg hc
    have t1:cF [59]=aM [59]:=rfl
    rw[t1] at jG
    obtain ⟨a1,a2,a3⟩:=Lw hw (hg.tl (ag hc)) e1
    obtain ⟨m',rfl,b1,b2,b3⟩:=xw f _ r1 r m a3 e
    refine ⟨q :: m',by simp,by rw[afb,a1,b1]; rfl,?_,b3⟩
    have e3:fF (q :: m')=aM [59] :: ((yG q).tail ++ fF m'):=by rw[fF]; rfl
    rw[e3,cost,aG]; omega
   ·rw[if_neg hc] at e
    cases e
    exact ⟨[],by simp,rfl,by rw[fF,cost]; omega,hg⟩
omit hw in
theorem CN:∀ {qs rs:List Nd},qs.all dQ=true→rs.all jQ=true→aP (qs ++ rs)=qs∧bt (qs ++ rs)=rs
 | [],[],_,_=>⟨rfl,rfl⟩
 | [],x :: rs,_,h=>by
   rw[afb,ae5] at h
   have hk:kindOf x=20:=by
    have:=h.1
    unfold jQ at this
    simp only[ae5,decide_eq_true_eq] at this
    exact this.1.1.1
   unfold aP bt
   rw[ahv,ahr,ahz]
   rw[if_neg (by rw[hk]; decide),if_neg (by rw[hk]; decide)]
   exact ⟨rfl,rfl⟩
 | q :: qs,rs,h,h'=>by
   rw[afb,ae5] at h
   have hk:kindOf q=47:=by
    have:=h.1
    unfold dQ at this
    simp only[ae5,decide_eq_true_eq] at this
    exact this.1.1.1
   obtain ⟨h1,h2⟩:=CN h.2 h'
   unfold aP bt at *
   rw[ahm,ahr,ahz]
   rw[if_pos (by rw[hk]; decide),if_pos (by rw[hk]; decide),h1,h2]
   exact ⟨rfl,rfl⟩
theorem EM {ts r:List Tk} {m:List Nd} (hg:Gt ts) (e:gg ts= .ok (m,r)):(aP m).all dQ=true∧(bt m).all jQ=true∧cost w (eK :: (cG true (aP m) ++ (fF (bt m) ++ [cR]))) + cost w r≤cost w ts∧Gt r:=by
 unfold gg at e
 obtain ⟨_,r1,e1,e⟩:=aH e
 obtain ⟨q,r2,e2,e⟩:=aH e
 obtain ⟨l,r3,e3,e⟩:=aH e
 obtain ⟨_,r4,e4,e⟩:=aH e
 cases e
 obtain ⟨a1,a2⟩:=bR hw hg e1
 obtain ⟨b1,b2,b3⟩:=CM hw a2 e2
 obtain ⟨rs,rfl,c1,c2,c3⟩:=xw hw _ _ r2 r3 _ b3 e3
 obtain ⟨d1,d2⟩:=bR hw c3 e4
 obtain ⟨f1,f2⟩:=CN b1 c1
 have t1:cF [40]=eK:=rfl
 have t2:cF [41]=cR:=rfl
 rw[t1] at a1
 rw[t2] at d1
 rw[f1,f2]
 refine ⟨b1,c1,?_,d2⟩
 rw[cost,aG,aG]
 simp only[cost]; omega
def Wq (w:Tk→Nat) (k:Nat) (ts:List Tk):Except kc (Nd × List Tk)→Prop
 | .error _=>True
 | .ok x=>cV x.1=true∧gM x.1≤k∧cost w (eC x.1) + cost w x.2≤cost w ts∧Gt x.2
omit hw in
theorem Rj {k p:Int} {m:List Nd} (hk:k=13∨k=17) (h:m.all dQ=true):cV (.mk k [] 0 p m)=true∧gM (.mk k [] 0 p m)=0:=by
 rcases hk with rfl | rfl
 ·exact ⟨by rw[cV.eq_def]; show (true && true && m.all dQ)=true; rw[h]; rfl,by rw[gM.eq_def]; rfl⟩
 ·exact ⟨by rw[cV.eq_def]; show (true && true && m.all dQ)=true; rw[h]; rfl,by rw[gM.eq_def]; rfl⟩
omit hw in
theorem Ly {n p:Int} (h1:-1000000000000000≤n) (h2:n≤1000000000000000):mh (.mk 44 [] n p [])=true:=by
 show (decide ((44:Int)=44) && decide (([]:Bs)=[]) && ([]:List Nd).isEmpty && decide (-1000000000000000≤n) && decide (n≤1000000000000000))=true
 simp[h1,h2]
theorem CO {ts r:List Tk} {x:Nd} (hg:Gt ts) (e:ig ts= .ok (x,r)):mh x=true∧cost w (dc (numOf x)) + cost w r≤cost w ts∧Gt r:=by
 have h:=Ga hw 0 ts hg
 rw[e] at h
 obtain ⟨h1,_,h3,h4⟩:=h
 have hx:∃ n p,x= .mk 44 [] n p []:=by
  unfold ig at e
  split at e
  ·obtain ⟨t,r1,e1,e2⟩:=aH e
   cases e2; exact ⟨_,_,rfl⟩
  ·obtain ⟨t,r1,e1,e2⟩:=aH e
   cases e2; exact ⟨_,_,rfl⟩
 obtain ⟨n,p,rfl⟩:=hx
 have hc:=kp h1
 cases hc with
 | int ht h1 h2=>
   have kE:jm (.mk 44 [] n p [])=8:=rfl
   have h3:cost w (bW (.mk 44 [] n p []) 8) + cost w r≤cost w ts:=h3
   rw[eX,kE,if_neg (air _),jK] at h3
   exact ⟨Ly h1 h2,h3,h4⟩
 | word DK=>simp[dx] at DK
theorem AL {α:Type} {q:PP Nd} {tkf:Nd→List Tk} {okf:Nd→Prop} (hq:∀ ts r x,Gt ts→q ts= .ok (x,r)→okf x∧cost w (tkf x) + cost w r≤cost w ts∧Gt r) {ts r:List Tk} {m:List Nd} (hg:Gt ts) (e:lh q ts= .ok (m,r)) :
 ∃ a b,m=[a,b]∧okf a∧okf b∧cost w (eK :: (tkf a ++ aM [44] :: (tkf b ++ [cR]))) + cost w r≤cost w ts∧Gt r:=by
 unfold lh at e
 obtain ⟨_,r1,e1,e⟩:=aH e
 obtain ⟨a,r2,e2,e⟩:=aH e
 obtain ⟨_,r3,e3,e⟩:=aH e
 obtain ⟨b,r4,e4,e⟩:=aH e
 obtain ⟨_,r5,e5,e⟩:=aH e
 cases e
 obtain ⟨a1,a2⟩:=bR hw hg e1
 obtain ⟨b1,b2,b3⟩:=hq _ _ _ a2 e2
 obtain ⟨c1,c2⟩:=bR hw b3 e3
 obtain ⟨d1,d2,d3⟩:=hq _ _ _ c2 e4
 obtain ⟨f1,f2⟩:=bR hw d3 e5
 have t1:cF [40]=eK:=rfl
 have t2:cF [41]=cR:=rfl
 have t3:cF [44]=aM [44]:=rfl
 rw[t1] at a1
 rw[t2] at f1
 rw[t3] at c1
 refine ⟨a,b,rfl,b1,d1,?_,f2⟩
 rw[cost,aG,cost,aG]
 simp only[cost]; omega
section
variable {k:Nat} (fj:∀ j,k=j + 1→∀ ts,Gt ts→Wq w j ts (bV (dW j) ts))
include fj
omit hw in
theorem EN {j:Nat} (hj:k=j + 1) {ts r:List Tk} {x:Nd} (hg:Gt ts) (e:bV (dW j) ts= .ok (x,r)):cV x=true∧gM x≤j∧cost w (eC x) + cost w r≤cost w ts∧Gt r:=by
 have:=fj j hj ts hg
 rw[e] at this; exact this
theorem Pe {j:Nat} (hj:k=j + 1) {ts r:List Tk} {x:Nd} (hg:Gt ts) (e:vi (bV (dW j)) ts= .ok (x,r)):uQ x=true∧Ls x≤j∧cost w (zl x) + cost w r≤cost w ts∧Gt r:=by
 obtain ⟨t,r1,e1,e⟩:=aH e
 obtain ⟨_,r2,e2,e⟩:=aH e
 obtain ⟨y,r3,e3,e⟩:=aH e
 cases e
 obtain ⟨a1,a2,a3⟩:=gh hw hg e1
 obtain ⟨b1,b2⟩:=bR hw a3 e2
 obtain ⟨c1,c2,c3,c4⟩:=EN fj hj b2 e3
 have t1:cF [58]=aM [58]:=rfl
 rw[t1] at b1
 refine ⟨?_,?_,?_,c4⟩
 ·rw[uQ,fw,fw,a1,c1]; rfl
 ·rw[xr]; exact c2
 ·rw[xq]
  simp only[cost]; omega
theorem CP {j:Nat} (hj:k=j + 1):∀ (f:Nat) (l:List Nd) (ts r:List Tk) (m:List Nd),ts.length≤f→Gt ts→lM (bV (dW j)) f l ts= .ok (m,r)→∃ a m',m=l ++ a :: m'∧fb (a :: m')=true∧nx (a :: m')≤j∧cost w (zl a ++ fG false m') + cost w r≤cost w ts∧Gt r
 | 0,l,ts,r,m,hf,hg,e=>by have:=aho.2 hg.ne; omega
 | f + 1,l,ts,r,m,hf,hg,e=>by
   simp only[lM] at e
   obtain ⟨a,r1,e1,e⟩:=aH e
   obtain ⟨a1,a2,a3,a4⟩:=Pe hw fj hj hg e1
   have l1:=(Av (Aq (Ew j))).of e1
   by_cases hc:aY [44] r1=true
   ·rw[if_pos hc] at e
    have jG:=bk hw a4 hc
    have t1:cF [44]=aM [44]:=rfl
    rw[t1] at jG
    have l2:=gE hc
    obtain ⟨b,m',rfl,b1,b2,b3,b4⟩:=CP hj f _ _ r m (by omega) (a4.tl (ag hc)) e
    refine ⟨a,b :: m',by simp,?_,?_,?_,b4⟩
    ·rw[fb,a1,b1]; rfl
    ·rw[nx]; omega
    ·have e3:fG false (b :: m')=aM [44] :: (zl b ++ fG false m'):=by rw[fG]; simp
     rw[e3,aG,cost]; omega
   ·rw[if_neg hc] at e
    cases e
    refine ⟨a,[],rfl,?_,?_,?_,a4⟩
    ·rw[fb,a1,fb]; rfl
    ·rw[nx,nx]; omega
    ·rw[fG,ah7]; exact a3
theorem CQ (ts:List Tk) (hg:Gt ts):Wq w k ts (bV (dW k) ts):=by
 unfold bV
 have ite:∀ {c:Prop} [Decidable c] {x y:Except kc (Nd × List Tk)},(c→Wq w k ts x)→(¬ c→Wq w k ts y)→Wq w k ts (if c then x else y):=fun {c _ x y} h1 h2=>by
  by_cases h:c
  ·rw[if_pos h]; exact h1 h
  ·rw[if_neg h]; exact h2 h
 have inv:∀ {s:Bs} {body:PP Nd→PP Nd} {r:List Tk} {a:Nd},ea (dW k) s body ts= .ok (a,r)→∃ j,k=j + 1∧aY s ts=true∧body (bV (dW j)) ts.tail= .ok (a,r):=fun {s body r a} h=>by
  unfold ea at h
  split at h
  ·rename_i e
   cases k with
   | zero=>cases h
   | succ j=>
     rw[abe] at h
     exact ⟨j,rfl,e,h⟩
  ·cases h
 refine ite (fun _=>?_) fun _=>?_
 ·cases e:dn 21 ts with
  | error e'=>trivial
  | ok x=>
    obtain ⟨n,r⟩:=x
    obtain ⟨t,r1,e1,e2⟩:=aH e
    cases e2
    obtain ⟨h1,h2,h3⟩:=gh hw hg e1
    refine ⟨?_,?_,?_,h3⟩
    ·show cV _=true
     rw[cV.eq_def]
     show (aT t.text && decide ((0:Int)=0) && ([]:List Nd).isEmpty)=true
     rw[h1]; rfl
    ·show gM _≤k
     rw[gM.eq_def]; exact ahn _
    ·show cost w (eC _) + cost w r≤_
     rw[jR]
     simp only[cost]; omega
 refine ite (fun hb=>?_) fun _=>?_
 ·refine ⟨by show cV _=true; rw[cV.eq_def]; rfl,by show gM _≤k; rw[gM.eq_def]; exact ahn _,?_,hg.tl (ag hb)⟩
  show cost w (eC _) + cost w ts.tail≤_
  rw[lX,bk hw hg hb]
  have t1:cF [102,108,97,103]=bh [102,108,97,103]:=rfl
  rw[t1]
  simp only[cost]; omega
 refine ite (fun hb=>?_) fun _=>?_
 ·refine ⟨by show cV _=true; rw[cV.eq_def]; rfl,by show gM _≤k; rw[gM.eq_def]; exact ahn _,?_,hg.tl (ag hb)⟩
  show cost w (eC _) + cost w ts.tail≤_
  rw[gi,bk hw hg hb]
  have t1:cF [114,101,103,105,115,116,101,114]=bh [114,101,103,105,115,116,101,114]:=rfl
  rw[t1]
  simp only[cost]; omega
 refine ite (fun hb=>?_) fun _=>?_
 ·cases e:bd bJ (fun l=>ret (Nd.mk 13 [] 0 (hd ts).at_ l)) ts.tail with
  | error e'=>trivial
  | ok x=>
    obtain ⟨n,r⟩:=x
    obtain ⟨l,r1,e1,e⟩:=aH e
    cases e
    obtain ⟨a1,a2,a3⟩:=ot hw (hg.tl (ag hb)) e1
    obtain ⟨h1,h2⟩:=Rj (k:=13) (p:=(hd ts).at_) (.inl rfl) a1
    refine ⟨h1,by show gM _≤k; rw[h2]; exact ahn _,?_,a3⟩
    show cost w (eC _) + cost w r≤_
    rw[pq,bk hw hg hb]
    have t1:cF [115,101,116]=bh [115,101,116]:=rfl
    rw[t1,cost]; omega
 refine ite (fun hb=>?_) fun _=>?_
 ·cases e:bd bJ (fun l=>ret (Nd.mk 17 [] 0 (hd ts).at_ l)) ts.tail with
  | error e'=>trivial
  | ok x=>
    obtain ⟨n,r⟩:=x
    obtain ⟨l,r1,e1,e⟩:=aH e
    cases e
    obtain ⟨a1,a2,a3⟩:=ot hw (hg.tl (ag hb)) e1
    obtain ⟨h1,h2⟩:=Rj (k:=17) (p:=(hd ts).at_) (.inr rfl) a1
    refine ⟨h1,by show gM _≤k; rw[h2]; exact ahn _,?_,a3⟩
    show cost w (eC _) + cost w r≤_
    rw[lY,bk hw hg hb]
    have t1:cF [102,108,97,116]=bh [102,108,97,116]:=rfl
    rw[t1,cost]; omega
 refine ite (fun _=>?_) fun _=>?_
 ·cases e:ea (dW k) [109,97,112] (fun x=>bd bJ fun l=>bd x fun y=>ret (Nd.mk 14 [] 0 (hd ts).at_ (l ++ [y]))) ts with
  | error e'=>trivial
  | ok x=>
    obtain ⟨n,r⟩:=x
    have e0:=inv e
    clear e
    obtain ⟨j,hj,hb,e⟩:=e0
    obtain ⟨l,r1,e1,e⟩:=aH e
    obtain ⟨y,r2,e2,e⟩:=aH e
    cases e
    obtain ⟨a1,a2,a3⟩:=ot hw (hg.tl (ag hb)) e1
    obtain ⟨b1,b2,b3,b4⟩:=EN fj hj a3 e2
    refine ⟨?_,?_,?_,b4⟩
    ·show cV _=true
     rw[cV.eq_def]
     show (true && true && ((l ++ [y]).dropLast.all dQ && ((fw (l ++ [y])).getLast?.getD false)))=true
     rw[aio,sj,a1,List.getLast?_append]
     simp[b1]
    ·show gM _≤k
     rw[sk]; omega
    ·show cost w (eC _) + cost w r≤_
     rw[pr,bk hw hg hb,cost,aG]
     have t1:cF [109,97,112]=bh [109,97,112]:=rfl
     rw[t1]; omega
 refine ite (fun hb=>?_) fun _=>?_
 ·cases e:bd (lh ig) (fun l=>ret (Nd.mk 11 [] 0 (hd ts).at_ l)) ts.tail with
  | error e'=>trivial
  | ok x=>
    obtain ⟨n,r⟩:=x
    obtain ⟨l,r1,e1,e⟩:=aH e
    cases e
    obtain ⟨a,b,rfl,a1,a2,a3,a4⟩:=AL (α:=Nat) hw (tkf:=fun x=>dc (numOf x)) (okf:=fun x=>mh x=true) (fun ts r x hg e=>CO hw hg e) (hg.tl (ag hb)) e1
    refine ⟨?_,by show gM _≤k; rw[gM.eq_def]; exact ahn _,?_,a4⟩
    ·show cV _=true
     rw[cV.eq_def]
     show (true && true && (true && [a,b].all mh))=true
     simp[a1,a2]
    ·show cost w (eC _) + cost w r≤_
     rw[pt,bk hw hg hb,cost]
     have t1:cF [109,97,120]=bh [109,97,120]:=rfl
     rw[t1]; omega
 refine ite (fun hb=>?_) fun _=>?_
 ·cases e:bd (lh ig) (fun l=>ret (Nd.mk 12 [] 0 (hd ts).at_ l)) ts.tail with
  | error e'=>trivial
  | ok x=>
    obtain ⟨n,r⟩:=x
    obtain ⟨l,r1,e1,e⟩:=aH e
    cases e
    obtain ⟨a,b,rfl,a1,a2,a3,a4⟩:=AL (α:=Nat) hw (tkf:=fun x=>dc (numOf x)) (okf:=fun x=>mh x=true) (fun ts r x hg e=>CO hw hg e) (hg.tl (ag hb)) e1
    refine ⟨?_,by show gM _≤k; rw[gM.eq_def]; exact ahn _,?_,a4⟩
    ·show cV _=true
     rw[cV.eq_def]
     show (true && true && (true && [a,b].all mh))=true
     simp[a1,a2]
    ·show cost w (eC _) + cost w r≤_
     rw[pv,bk hw hg hb,cost]
     have t1:cF [109,105,110]=bh [109,105,110]:=rfl
     rw[t1]; omega
 refine ite (fun _=>?_) fun _=>?_
 ·cases e:ea (dW k) [108,101,120] (fun x=>bd (lh x) fun l=>ret (Nd.mk 16 [] 0 (hd ts).at_ l)) ts with
  | error e'=>trivial
  | ok x=>
    obtain ⟨n,r⟩:=x
    have e0:=inv e
    clear e
    obtain ⟨j,hj,hb,e⟩:=e0
    obtain ⟨l,r1,e1,e⟩:=aH e
    cases e
    obtain ⟨a,b,rfl,a1,a2,a3,a4⟩:=AL (α:=Nat) hw (tkf:=eC) (okf:=fun x=>cV x=true∧gM x≤j) (fun ts r x hg e=>by
     obtain ⟨q1,q2,q3,q4⟩:=EN fj hj hg e
     exact ⟨⟨q1,q2⟩,q3,q4⟩) (hg.tl (ag hb)) e1
    refine ⟨?_,?_,?_,a4⟩
    ·show cV _=true
     rw[cV.eq_def]
     show (true && true && (true && (fw [a,b]).all id))=true
     rw[fw,fw,fw,a1.1,a2.1]; rfl
    ·show gM _≤k
     rw[so]; omega
    ·show cost w (eC _) + cost w r≤_
     rw[pw,bk hw hg hb,cost]
     have t1:cF [108,101,120]=bh [108,101,120]:=rfl
     rw[t1]; omega
 refine ite (fun _=>?_) fun _=>?_
 ·cases e:ea (dW k) [123] (fun x=>bd (kR x) fun l=>ret (Nd.mk 15 [] 0 (hd ts).at_ l)) ts with
  | error e'=>trivial
  | ok x=>
    obtain ⟨n,r⟩:=x
    have e0:=inv e
    clear e
    obtain ⟨j,hj,hb,e⟩:=e0
    obtain ⟨l,r1,e1,e⟩:=aH e
    cases e
    unfold kR at e1
    obtain ⟨m,r2,e2,e1⟩:=aH e1
    obtain ⟨_,r3,e3,e1⟩:=aH e1
    cases e1
    obtain ⟨a,m',rfl,a1,a2,a3,a4⟩:=CP hw fj hj _ _ _ _ _ (Nat.le_succ _) (hg.tl (ag hb)) e2
    obtain ⟨b1,b2⟩:=bR hw a4 e3
    have t1:cF [123]=aM [123]:=rfl
    have t2:cF [125]=aM [125]:=rfl
    rw[t2] at b1
    rw[ahv]
    refine ⟨?_,?_,?_,b2⟩
    ·show cV _=true
     rw[cV.eq_def]
     show (true && true && (true && fb (a :: m')))=true
     rw[a1]; rfl
    ·show gM _≤k
     rw[om]; omega
    ·show cost w (eC _) + _≤_
     have e4:fG true (a :: m')=zl a ++ fG false m':=by rw[fG]; simp
     rw[lZ,bk hw hg hb,t1,cost,e4,aG]
     simp only[cost]; omega
 refine ite (fun hb=>?_) fun _=>trivial
 cases e:bd gg (fun l=>ret (Nd.mk 19 [] 0 (hd ts).at_ l)) ts.tail with
 | error e'=>trivial
 | ok x=>
   obtain ⟨n,r⟩:=x
   obtain ⟨l,r1,e1,e⟩:=aH e
   cases e
   obtain ⟨a1,a2,a3,a4⟩:=EM hw (hg.tl (ag hb)) e1
   refine ⟨?_,by show gM _≤k; rw[gM.eq_def]; exact ahn _,?_,a4⟩
   ·show cV _=true
    rw[cV.eq_def]
    show (true && true && ((aP l).all dQ && (bt l).all jQ))=true
    rw[a1,a2]; rfl
   ·show cost w (eC _) + cost w r≤_
    rw[iS,bk hw hg hb,cost]
    have t1:cF [99,108,111,115,101,100]=bh [99,108,111,115,101,100]:=rfl
    rw[t1]; omega
end
theorem Ge:∀ (k:Nat) (ts:List Tk),Gt ts→Wq w k ts (bV (dW k) ts)
 | 0,ts,hg=>CQ hw (fun j hj=>by omega) ts hg
 | k + 1,ts,hg=>CQ hw (fun j hj=>by
   obtain rfl:j=k:=by omega
   exact Ge j) ts hg
theorem Gf {k:Nat} {ts r:List Tk} {x:Nd} (hg:Gt ts) (e:bV (dW k) ts= .ok (x,r)):cV x=true∧gM x≤k∧cost w (eC x) + cost w r≤cost w ts∧Gt r:=by
 have:=Ge hw k ts hg
 rw[e] at this; exact this
end
def kr (ks:List Nd):Option (List Nd × Nd × Nd):=match ks.reverse with
 | e :: o :: ps=>some (ps.reverse,o,e)
 | _=>none
theorem du (ps:List Nd) (o e:Nd):kr (ps ++ [o,e])=some (ps,o,e):=by
 unfold kr
 simp
theorem EO {ks ps:List Nd} {o e:Nd} (h:kr ks=some (ps,o,e)):ks=ps ++ [o,e]:=by
 unfold kr at h
 split at h
 ·rename_i e' o' ps' hr
  simp only[ae9.injEq,Prod.mk.injEq] at h
  obtain ⟨rfl,rfl,rfl⟩:=h
  have:=congrArg List.reverse hr
  simpa using this
 ·cases h
def cC (n:Int):Bs:=if n=1 then [105,110,116] else if n=2 then [98,111,111,108] else if n=3 then [110,97,109,101] else [110,97,109,101,115]
def qD (n:Int):Bool:=decide (1≤n) && decide (n≤4)
def kI (x:Nd):Bool:=decide (kindOf x=6) && aT (ak x) && (aL x).isEmpty && qD (numOf x)
def su (x:Nd):Bool:=decide (kindOf x=48) && aT (ak x) && decide (numOf x=0) && (aL x).isEmpty
def l0 (x:Nd):List Tk:=[dS (ak x),aM [58],bh (cC (numOf x))]
def dv:Bool→List Nd→List Tk
 | _,[]=>[]
 | first,x :: r=>(if first then [] else [aM [44]]) ++ (l0 x ++ dv false r)
def l4:Nd→Bool
 | .mk k t n _ ks=>aT t && (
   if k=2∨k=3 then decide (n=0) && (match ks with
    | [y]=>cV y
    | _=>false)
   else if k=4∨k=5 then (match kr ks with
    | some (ps,o,e)=>ps.all kI && su o && okB e && (if k=4 then decide (n=0) else qD n)
    | none=>false)
   else false)
theorem ku (k n p:Int) (t:Bs) (ks:List Nd):l4 (.mk k t n p ks)=(aT t && (
 if k=2∨k=3 then decide (n=0) && (match ks with
  | [y]=>cV y
  | _=>false)
 else if k=4∨k=5 then (match kr ks with
  | some (ps,o,e)=>ps.all kI && su o && okB e && (if k=4 then decide (n=0) else qD n)
  | none=>false)
 else false)):=rfl
def Bh:Nd→List Tk
 | .mk k t n _ ks=>
   if k=2 then bh [108,97,116,116,105,99,101] :: dS t :: aM [61] :: (ks.map eC).getD 0 []
   else if k=3 then bh [111,98,106,101,99,116] :: dS t :: aM [58] :: (ks.map eC).getD 0 []
   else match kr ks with
    | some (ps,o,e)=>bh (if k=4 then [117,112,100,97,116,101] else [113,117,101,114,121]) :: dS t :: eK :: (dv true ps ++ cR :: bh [111,110] :: dS (ak o) :: ((if k=5 then [aM [58],bh (cC n)] else []) ++ aM [61] :: cp e))
    | none=>[]
def zm:Nd→Nat
 | .mk k _ _ _ ks=>if k=2∨k=3 then (ks.map gM).getD 0 0 else match kr ks with
   | some (_,_,e)=>gu e
   | none=>0
def jj:List Nd→List Tk
 | []=>[]
 | x :: r=>Bh x ++ aM [59] :: jj r
inductive DcC:Nd→Prop
 | Rk {p:Int} {t:Bs} {y:Nd} (ht:aT t=true) (hy:cV y=true):DcC (.mk 2 t 0 p [y])
 | obj {p:Int} {t:Bs} {y:Nd} (ht:aT t=true) (hy:cV y=true):DcC (.mk 3 t 0 p [y])
 | Rm {p:Int} {t:Bs} {ps:List Nd} {o e:Nd} (ht:aT t=true) (hp:ps.all kI=true) (ho:su o=true) (he:okB e=true):DcC (.mk 4 t 0 p (ps ++ [o,e]))
 | Rn {n p:Int} {t:Bs} {ps:List Nd} {o e:Nd} (ht:aT t=true) (hp:ps.all kI=true) (ho:su o=true) (he:okB e=true) (hn:qD n=true):DcC (.mk 5 t n p (ps ++ [o,e]))
theorem iT:∀ {x:Nd},l4 x=true→DcC x
 | .mk k t n p ks,h=>by
   rw[ku,ae5] at h
   obtain ⟨ht,h⟩:=h
   by_cases h1:k=2∨k=3
   ·rw[if_pos h1,ae5,decide_eq_true_eq] at h
    obtain ⟨rfl,h⟩:=h
    match ks,h with
    | [y],h=>
      rcases h1 with rfl | rfl
      ·exact .Rk ht h
      ·exact .obj ht h
   ·rw[if_neg h1] at h
    by_cases h2:k=4∨k=5
    ·rw[if_pos h2] at h
     cases hp:kr ks with
     | none=>rw[hp] at h; cases h
     | some y=>
       obtain ⟨ps,o,e⟩:=y
       rw[hp] at h
       simp only[ae5] at h
       obtain ⟨⟨⟨a1,a2⟩,a3⟩,a4⟩:=h
       rw[EO hp]
       rcases h2 with rfl | rfl
       ·rw[if_pos rfl,decide_eq_true_eq] at a4
        subst a4
        exact .Rm ht a1 a2 a3
       ·rw[if_neg (by decide)] at a4
        exact .Rn ht a1 a2 a3 a4
    ·rw[if_neg h2] at h; cases h
section
variable {n p:Int} {t:Bs} {ps:List Nd} {o e y:Nd}
theorem mM:Bh (.mk 2 t n p [y])=bh [108,97,116,116,105,99,101] :: dS t :: aM [61] :: eC y:=rfl
theorem mN:Bh (.mk 3 t n p [y])=bh [111,98,106,101,99,116] :: dS t :: aM [58] :: eC y:=rfl
theorem mO:Bh (.mk 4 t n p (ps ++ [o,e]))=bh [117,112,100,97,116,101] :: dS t :: eK :: (dv true ps ++ cR :: bh [111,110] :: dS (ak o) :: aM [61] :: cp e):=by
 rw[Bh,if_neg (by decide),if_neg (by decide)]
 simp only[du]
 rfl
theorem mP:Bh (.mk 5 t n p (ps ++ [o,e]))=bh [113,117,101,114,121] :: dS t :: eK :: (dv true ps ++ cR :: bh [111,110] :: dS (ak o) :: aM [58] :: bh (cC n) :: aM [61] :: cp e):=by
 rw[Bh,if_neg (by decide),if_neg (by decide)]
 simp only[du]
 rfl
theorem pA {k:Int} (hk:k=2∨k=3):zm (.mk k t n p [y])=gM y:=by
 rw[zm,if_pos hk]; rfl
theorem tY {k:Int} (hk:k=4∨k=5):zm (.mk k t n p (ps ++ [o,e]))=gu e:=by
 rw[zm,if_neg (by omega)]
 simp only[du]
theorem vJ:∀ {x:Nd},kI x=true→∃ t n p,x= .mk 6 t n p []∧aT t=true∧qD n=true
 | .mk k t n p ks,h=>by
   unfold kI at h
   simp only[ae5,decide_eq_true_eq,ah6] at h
   obtain ⟨⟨⟨h1,h2⟩,h3⟩,h4⟩:=h
   have h1:k=6:=h1
   have h3:ks=[]:=h3
   subst h1 h3
   exact ⟨t,n,p,rfl,h2,h4⟩
theorem mQ:∀ {x:Nd},su x=true→∃ t p,x= .mk 48 t 0 p []∧aT t=true
 | .mk k t n p ks,h=>by
   unfold su at h
   simp only[ae5,decide_eq_true_eq,ah6] at h
   obtain ⟨⟨⟨h1,h2⟩,h3⟩,h4⟩:=h
   have h1:k=48:=h1
   have h3:n=0:=h3
   have h4:ks=[]:=h4
   subst h1 h3 h4
   exact ⟨t,p,rfl,h2⟩
end
theorem AM {n:Int} (h:qD n=true) (Y:List Tk):eV (bh (cC n) :: Y)= .ok (n,Y):=by
 unfold qD at h
 simp only[ae5,decide_eq_true_eq] at h
 obtain rfl | rfl | rfl | rfl:n=1∨n=2∨n=3∨n=4:=by omega
 all_goals rfl
theorem CR {x:Nd} (h:kI x=true) (Y:List Tk):∃ x',cU x x'∧eA (l0 x ++ Y)= .ok (x',Y):=by
 obtain ⟨t,n,p,rfl,ht,hn⟩:=vJ h
 refine ⟨.mk 6 t n 0 [],ik rfl rfl rfl bI.nil,?_⟩
 show bd (cK 1) _ (dS t :: aM [58] :: bh (cC n) :: Y)=_
 have t1:cK 1 (dS t :: aM [58] :: bh (cC n) :: Y)= .ok (dS t,aM [58] :: bh (cC n) :: Y):=rfl
 rw[az t1,az (cZ [58] _),az (AM hn Y)]; rfl
theorem zn {Y:List Tk}:∀ (ps:List Nd) (a:Nd) (f:Nat) (l:List Nd),kI a=true→ps.all kI=true→ps.length < f→∃ m,bI (a :: ps) m∧fL eA f l (l0 a ++ (dv false ps ++ cR :: Y))= .ok (l ++ m,Y)
 | [],a,0,l,_,_,h=>by omega
 | [],a,f + 1,l,h1,h2,h=>by
   obtain ⟨a',e1,e2⟩:=CR h1 (cR :: Y)
   refine ⟨[a'],bI.one e1,?_⟩
   rw[dv,ahv]
   simp only[fL]
   rw[az e2]
   have ec:dF (cR :: Y)= .ok (false,Y):=rfl
   rw[az ec]; rfl
 | b :: r,a,0,l,_,_,h=>by omega
 | b :: r,a,f + 1,l,h1,h2,h=>by
   rw[afb,ae5] at h2
   have e:dv false (b :: r) ++ cR :: Y=aM [44] :: (l0 b ++ (dv false r ++ cR :: Y)):=by
    rw[dv]; simp
   obtain ⟨a',e1,e2⟩:=CR h1 (aM [44] :: (l0 b ++ (dv false r ++ cR :: Y)))
   obtain ⟨m,e3,e4⟩:=zn (Y:=Y) r b f (l ++ [a']) h2.1 h2.2 (by simpa using h)
   refine ⟨a' :: m,bI.cons e1 e3,?_⟩
   rw[e]
   simp only[fL]
   rw[az e2]
   have ec:dF (aM [44] :: (l0 b ++ (dv false r ++ cR :: Y)))= .ok (true,l0 b ++ (dv false r ++ cR :: Y)):=rfl
   rw[az ec]
   simp only[if_true]
   rw[e4]
   simp
theorem CS:∀ (ps:List Nd),ps.length≤(dv false ps).length
 | []=>ahn _
 | a :: r=>by
   have:=CS r
   rw[dv]
   simp only[afK,ah1,ae6,if_false]
   simp; omega
theorem sw {ps:List Nd} (h:ps.all kI=true) (Y:List Tk):∃ m,bI ps m∧dY eA (dv true ps ++ cR :: Y)= .ok (m,Y):=by
 cases ps with
 | nil=>exact ⟨[],bI.nil,rfl⟩
 | cons a r=>
   rw[afb,ae5] at h
   have e2:dv true (a :: r) ++ cR :: Y=l0 a ++ (dv false r ++ cR :: Y):=by
    rw[dv]; simp
   rw[e2]
   obtain ⟨m,e3,e4⟩:=zn (Y:=Y) r a (l0 a ++ (dv false r ++ cR :: Y)).length [] h.1 h.2 (by have:=CS r; simp; omega)
   refine ⟨m,e3,?_⟩
   unfold dY
   have:aY [41] (l0 a ++ (dv false r ++ cR :: Y))=false:=rfl
   rw[this,if_neg (by decide),e4]; rfl
theorem vK {x:Nd} (h:su x=true) (Y:List Tk):∃ x',cU x x'∧dn 48 (dS (ak x) :: Y)= .ok (x',Y):=by
 obtain ⟨t,p,rfl,ht⟩:=mQ h
 exact ⟨.mk 48 t 0 0 [],ik rfl rfl rfl bI.nil,rfl⟩
theorem sC (Y:List Tk):xi 0 (aM [59] :: Y):=mL (t:=aM [59]) (by decide) Y
theorem US {x:Nd} (ho:l4 x=true) (hk:zm x≤64) (Y:List Tk):∃ x',cU x x'∧eE (Bh x ++ aM [59] :: Y)= .ok (x',Y):=by
 have hs:=iT ho
 cases hs with
 | @Rk p t y ht hy=>
   rw[pA (.inl rfl)] at hk
   rw[mM]
   obtain ⟨y',y1,y2⟩:=AK hy hk (Y:=aM [59] :: Y) rfl
   refine ⟨.mk 2 t 0 0 [y'],ik rfl rfl rfl (bI.one y1),?_⟩
   have e:eE (bh [108,97,116,116,105,99,101] :: dS t :: aM [61] :: eC y ++ aM [59] :: Y)=bd (aU [61]) (fun _=>bd (gX 64) fun x=>bd (aU [59]) fun _=>ret (Nd.mk 2 t 0 0 [x])) (aM [61] :: (eC y ++ aM [59] :: Y)):=rfl
   rw[e,az (cZ [61] _),fg,az y2,az (cZ [59] _)]; rfl
 | @obj p t y ht hy=>
   rw[pA (.inr rfl)] at hk
   rw[mN]
   obtain ⟨y',y1,y2⟩:=AK hy hk (Y:=aM [59] :: Y) rfl
   refine ⟨.mk 3 t 0 0 [y'],ik rfl rfl rfl (bI.one y1),?_⟩
   have e:eE (bh [111,98,106,101,99,116] :: dS t :: aM [58] :: eC y ++ aM [59] :: Y)=bd (aU [58]) (fun _=>bd (gX 64) fun x=>bd (aU [59]) fun _=>ret (Nd.mk 3 t 0 0 [x])) (aM [58] :: (eC y ++ aM [59] :: Y)):=rfl
   rw[e,az (cZ [58] _),fg,az y2,az (cZ [59] _)]; rfl
 | @Rm p t ps o e ht hp u3 he=>
   rw[tY (.inl rfl)] at hk
   rw[mO]
   obtain ⟨e',e1,e2⟩:=vG he hk (sC Y)
   obtain ⟨o',o1,o2⟩:=vK u3 (aM [61] :: (cp e ++ aM [59] :: Y))
   obtain ⟨m,m1,m2⟩:=sw hp (bh [111,110] :: dS (ak o) :: aM [61] :: (cp e ++ aM [59] :: Y))
   refine ⟨.mk 4 t 0 0 (m ++ [o'] ++ [e']),ik rfl rfl rfl ?_,?_⟩
   ·have:ps ++ [o,e]=ps ++ [o] ++ [e]:=by simp
    rw[this]
    exact (m1.app (bI.one o1)).app (bI.one e1)
   ·have q:bh [117,112,100,97,116,101] :: dS t :: eK :: (dv true ps ++ cR :: bh [111,110] :: dS (ak o) :: aM [61] :: cp e) ++ aM [59] :: Y=bh [117,112,100,97,116,101] :: dS t :: eK :: (dv true ps ++ cR :: (bh [111,110] :: dS (ak o) :: aM [61] :: (cp e ++ aM [59] :: Y))):=by simp
    rw[q]
    have ed:∀ Z,eE (bh [117,112,100,97,116,101] :: dS t :: Z)=(bd (aU [40]) fun _=>bd (dY eA) fun ps=>bd (aU [111,110]) fun _=>bd (dn 48) fun o=>
     bd (ret 0) fun n=>bd (aU [61]) fun _=>bd (aJ (bp 64)) fun e=>bd (aU [59]) fun _=>ret (Nd.mk 4 t n 0 (ps ++ [o] ++ [e]))) Z:=fun Z=>rfl
    have er:(ret 0:PP Int) (aM [61] :: (cp e ++ aM [59] :: Y))= .ok (0,aM [61] :: (cp e ++ aM [59] :: Y)):=rfl
    rw[ed,az (py _),az m2,az (ph _ _),az o2,az er]
    rw[az (cZ [61] _),az e2,az (cZ [59] _)]; rfl
 | @Rn n p t ps o e ht hp u3 he hn=>
   rw[tY (.inr rfl)] at hk
   rw[mP]
   obtain ⟨e',e1,e2⟩:=vG he hk (sC Y)
   obtain ⟨o',o1,o2⟩:=vK u3 (aM [58] :: bh (cC n) :: aM [61] :: (cp e ++ aM [59] :: Y))
   obtain ⟨m,m1,m2⟩:=sw hp (bh [111,110] :: dS (ak o) :: aM [58] :: bh (cC n) :: aM [61] :: (cp e ++ aM [59] :: Y))
   refine ⟨.mk 5 t n 0 (m ++ [o'] ++ [e']),ik rfl rfl rfl ?_,?_⟩
   ·have:ps ++ [o,e]=ps ++ [o] ++ [e]:=by simp
    rw[this]
    exact (m1.app (bI.one o1)).app (bI.one e1)
   ·have q:bh [113,117,101,114,121] :: dS t :: eK :: (dv true ps ++ cR :: bh [111,110] :: dS (ak o) :: aM [58] :: bh (cC n) :: aM [61] :: cp e) ++ aM [59] :: Y=bh [113,117,101,114,121] :: dS t :: eK :: (dv true ps ++ cR :: (bh [111,110] :: dS (ak o) :: aM [58] :: bh (cC n) :: aM [61] :: (cp e ++ aM [59] :: Y))):=by simp
    rw[q]
    have ed:∀ Z,eE (bh [113,117,101,114,121] :: dS t :: Z)=(bd (aU [40]) fun _=>bd (dY eA) fun ps=>bd (aU [111,110]) fun _=>bd (dn 48) fun o=>
     bd (bd (aU [58]) fun _=>eV) fun n=>bd (aU [61]) fun _=>bd (aJ (bp 64)) fun e=>bd (aU [59]) fun _=>ret (Nd.mk 5 t n 0 (ps ++ [o] ++ [e]))) Z:=fun Z=>rfl
    have es:(bd (aU [58]) fun _=>eV) (aM [58] :: bh (cC n) :: aM [61] :: (cp e ++ aM [59] :: Y))= .ok (n,aM [61] :: (cp e ++ aM [59] :: Y)):=by
     rw[az (cZ [58] _),AM hn]
    rw[ed,az (py _),az m2,az (ph _ _),az o2,az es,az (cZ [61] _),az e2,az (cZ [59] _)]; rfl
theorem HQ {x:Nd} (ho:l4 x=true) (Y:List Tk):(hd (Bh x ++ Y)).kind≠6:=by
 have hs:=iT ho
 cases hs with
 | Rk=>rw[mM]; show (2:Int)≠6; decide
 | obj=>rw[mN]; show (2:Int)≠6; decide
 | Rm=>rw[mO]; show (2:Int)≠6; decide
 | Rn=>rw[mP]; show (2:Int)≠6; decide
section
variable {w:Tk→Nat} (hw:Wo w)
include hw
theorem CT {ts r:List Tk} {n:Int} (hg:Gt ts) (e:eV ts= .ok (n,r)):qD n=true∧cost w ts=w (bh (cC n)) + cost w r∧Gt r:=by
 have one:∀ {s:Bs} {c:Int},aY s ts=true→cF s=bh (cC c)→qD c=true→qD c=true∧cost w ts=w (bh (cC c)) + cost w ts.tail∧Gt ts.tail:=fun {s c} hb ht hc=>⟨hc,by rw[bk hw hg hb,ht],hg.tl (ag hb)⟩
 unfold eV at e
 split at e
 ·rename_i hb; cases e; exact one hb rfl rfl
 split at e
 ·rename_i hb; cases e; exact one hb rfl rfl
 split at e
 ·rename_i hb; cases e; exact one hb rfl rfl
 split at e
 ·rename_i hb; cases e; exact one hb rfl rfl
 ·cases e
theorem HR {ts r:List Tk} {x:Nd} (hg:Gt ts) (e:eA ts= .ok (x,r)):kI x=true∧cost w (l0 x) + cost w r≤cost w ts∧Gt r:=by
 obtain ⟨t,r1,e1,e⟩:=aH e
 obtain ⟨_,r2,e2,e⟩:=aH e
 obtain ⟨n,r3,e3,e⟩:=aH e
 cases e
 obtain ⟨a1,a2,a3⟩:=gh hw hg e1
 obtain ⟨b1,b2⟩:=bR hw a3 e2
 obtain ⟨c1,c2,c3⟩:=CT hw b2 e3
 have t1:cF [58]=aM [58]:=rfl
 rw[t1] at b1
 refine ⟨?_,?_,c3⟩
 ·show (decide ((6:Int)=6) && aT t.text && ([]:List Nd).isEmpty && qD n)=true
  rw[a1,c1]; rfl
 ·show cost w [dS t.text,aM [58],bh (cC n)] + cost w r≤_
  simp only[cost]; omega
theorem xz:∀ (f:Nat) (l:List Nd) (ts r:List Tk) (m:List Nd),ts.length≤f→Gt ts→fL eA f l ts= .ok (m,r)→∃ a m',m=l ++ a :: m'∧(a :: m').all kI=true∧cost w (l0 a ++ dv false m') + w cR + cost w r≤cost w ts∧Gt r
 | 0,l,ts,r,m,hf,hg,_=>by have:=aho.2 hg.ne; omega
 | f + 1,l,ts,r,m,hf,hg,e=>by
   simp only[fL] at e
   obtain ⟨a,r1,e1,e⟩:=aH e
   obtain ⟨c,r2,e2,e⟩:=aH e
   obtain ⟨a1,a2,a3⟩:=HR hw hg e1
   have l1:=tP.of e1
   have l2:=lN e2
   unfold dF at e2
   by_cases hc:aY [44] r1=true
   ·rw[if_pos hc] at e2
    cases e2
    have jG:=bk hw a3 hc
    simp only[if_true] at e
    obtain ⟨b,m',rfl,b1,b2,b3⟩:=xz f _ _ r m (by omega) (a3.tl (ag hc)) e
    have ht:cF [44]=aM [44]:=rfl
    rw[ht] at jG
    refine ⟨a,b :: m',by simp,by rw[afb,a1,b1]; rfl,?_,b3⟩
    have e3:dv false (b :: m')=aM [44] :: (l0 b ++ dv false m'):=by rw[dv]; simp
    rw[e3,aG,cost]; omega
   ·rw[if_neg hc] at e2
    obtain ⟨c',r3,e3,e4⟩:=aH e2
    cases e4
    obtain ⟨b1,b2⟩:=bR hw a3 e3
    simp only[ae6,if_false] at e
    cases e
    have ht:cF [41]=cR:=rfl
    rw[ht] at b1
    refine ⟨a,[],rfl,by rw[afb,a1]; rfl,?_,b2⟩
    rw[dv,ah7]; omega
theorem HS {ts r:List Tk} {m:List Nd} (hg:Gt ts) (e:dY eA ts= .ok (m,r)):m.all kI=true∧cost w (dv true m) + w cR + cost w r≤cost w ts∧Gt r:=by
 unfold dY at e
 by_cases hc:aY [41] ts=true
 ·rw[if_pos hc] at e
  cases e
  have jG:=bk hw hg hc
  have ht:cF [41]=cR:=rfl
  rw[ht] at jG
  exact ⟨rfl,by rw[dv,cost]; omega,hg.tl (ag hc)⟩
 ·rw[if_neg hc] at e
  obtain ⟨a,m',rfl,b1,b2,b3⟩:=xz hw _ [] ts r m (afJ _) hg e
  have e3:dv true (a :: m')=l0 a ++ dv false m':=by rw[dv]; simp
  exact ⟨b1,by rw[ahv,e3]; exact b2,b3⟩
theorem HT {ts r:List Tk} {x:Nd} (hg:Gt ts) (e:dn 48 ts= .ok (x,r)):su x=true∧cost w ts=w (dS (ak x)) + cost w r∧Gt r:=by
 obtain ⟨t,r1,e1,e⟩:=aH e
 cases e
 obtain ⟨a1,a2,a3⟩:=gh hw hg e1
 refine ⟨?_,a2,a3⟩
 show (decide ((48:Int)=48) && aT t.text && decide ((0:Int)=0) && ([]:List Nd).isEmpty)=true
 rw[a1]; rfl
theorem CU {a k:Int} {s:Bs} {c:Tk} (hs:cF s=c) {ts r:List Tk} {x:Nd} (hg:Gt ts) (e:Eu a k s ts= .ok (x,r)) :
 ∃ t y,x= .mk k t 0 a [y]∧aT t=true∧cV y=true∧gM y≤64∧cost w (dS t :: c :: eC y) + w (aM [59]) + cost w r≤cost w ts∧Gt r:=by
 obtain ⟨t,r1,e1,e⟩:=aH e
 obtain ⟨_,r2,e2,e⟩:=aH e
 obtain ⟨y,r3,e3,e⟩:=aH e
 obtain ⟨_,r4,e4,e⟩:=aH e
 cases e
 rw[fg] at e3
 obtain ⟨a1,a2,a3⟩:=gh hw hg e1
 obtain ⟨b1,b2⟩:=bR hw a3 e2
 obtain ⟨c1,c2,c3,c4⟩:=Gf hw b2 e3
 obtain ⟨d1,d2⟩:=bR hw c4 e4
 have t1:cF [59]=aM [59]:=rfl
 rw[t1] at d1
 rw[hs] at b1
 refine ⟨t.text,y,rfl,a1,c1,c2,?_,d2⟩
 simp only[cost]; omega
theorem zo {a k:Int} {ts r:List Tk} {x:Nd} (hg:Gt ts) (e:wK a k ts= .ok (x,r)) :
 ∃ t n ps o b,x= .mk k t n a (ps ++ [o,b])∧aT t=true∧ps.all kI=true∧su o=true∧okB b=true∧gu b≤64∧(if k=5 then qD n=true else n=0)∧
   cost w (dS t :: eK :: (dv true ps ++ cR :: bh [111,110] :: dS (ak o) :: ((if k=5 then [aM [58],bh (cC n)] else []) ++ aM [61] :: cp b))) + w (aM [59]) + cost w r≤cost w ts∧Gt r:=by
 obtain ⟨t,r1,e1,e⟩:=aH e
 obtain ⟨_,r2,e2,e⟩:=aH e
 obtain ⟨ps,r3,e3,e⟩:=aH e
 obtain ⟨_,r4,e4,e⟩:=aH e
 obtain ⟨o,r5,e5,e⟩:=aH e
 obtain ⟨n,r6,e6,e⟩:=aH e
 obtain ⟨_,r7,e7,e⟩:=aH e
 obtain ⟨b,r8,e8,e⟩:=aH e
 obtain ⟨_,r9,e9,e⟩:=aH e
 cases e
 obtain ⟨a1,a2,a3⟩:=gh hw hg e1
 obtain ⟨b1,b2⟩:=bR hw a3 e2
 obtain ⟨c1,c2,c3⟩:=HS hw b2 e3
 obtain ⟨d1,d2⟩:=bR hw c3 e4
 obtain ⟨f1,f2,f3⟩:=HT hw d2 e5
 have h6:(if k=5 then qD n=true else n=0)∧cost w r5=cost w (if k=5 then [aM [58],bh (cC n)] else []) + cost w r6∧Gt r6:=by
  by_cases hk:k=5
  ·rw[if_pos hk] at e6
   rw[if_pos hk,if_pos hk]
   obtain ⟨_,q,g1,g2⟩:=aH e6
   obtain ⟨i1,i2⟩:=bR hw f3 g1
   obtain ⟨j1,j2,j3⟩:=CT hw i2 g2
   have t1:cF [58]=aM [58]:=rfl
   rw[t1] at i1
   exact ⟨j1,by simp only[cost]; omega,j3⟩
  ·rw[if_neg hk] at e6
   rw[if_neg hk,if_neg hk]
   cases e6
   exact ⟨rfl,by simp only[cost]; omega,f3⟩
 obtain ⟨k1,k2,k3⟩:=h6
 obtain ⟨l1,l2⟩:=bR hw k3 e7
 obtain ⟨m1,m2,m3,m4⟩:=si hw l2 e8
 obtain ⟨n1,n2⟩:=bR hw m4 e9
 have t1:cF [40]=eK:=rfl
 have t2:cF [111,110]=bh [111,110]:=rfl
 have t3:cF [61]=aM [61]:=rfl
 have t4:cF [59]=aM [59]:=rfl
 rw[t1] at b1
 rw[t2] at d1
 rw[t3] at l1
 rw[t4] at n1
 refine ⟨t.text,n,ps,o,b,by simp,a1,c1,f1,m1,m2,k1,?_,n2⟩
 simp only[cost,aG]; omega
theorem Pf {ts r:List Tk} {x:Nd} (hg:Gt ts) (e:eE ts= .ok (x,r)):l4 x=true∧zm x≤64∧cost w (Bh x) + w (aM [59]) + cost w r≤cost w ts∧Gt r:=by
 unfold eE at e
 split at e
 ·rename_i hb
  have hc:=bk hw hg hb
  obtain ⟨t,y,rfl,a1,a2,a3,a4,a5⟩:=CU hw (c:=aM [61]) rfl (hg.tl (ag hb)) e
  have t1:cF [108,97,116,116,105,99,101]=bh [108,97,116,116,105,99,101]:=rfl
  rw[t1] at hc
  refine ⟨by show (aT t && (true && cV y))=true; rw[a1,a2]; rfl,a3,?_,a5⟩
  rw[mM,cost]; omega
 split at e
 ·rename_i hb
  have hc:=bk hw hg hb
  obtain ⟨t,y,rfl,a1,a2,a3,a4,a5⟩:=CU hw (c:=aM [58]) rfl (hg.tl (ag hb)) e
  have t1:cF [111,98,106,101,99,116]=bh [111,98,106,101,99,116]:=rfl
  rw[t1] at hc
  refine ⟨by show (aT t && (true && cV y))=true; rw[a1,a2]; rfl,a3,?_,a5⟩
  rw[mN,cost]; omega
 split at e
 ·rename_i hb
  have hc:=bk hw hg hb
  obtain ⟨t,n,ps,o,b,rfl,a1,a2,a3,a4,a5,a6,a7,a8⟩:=zo hw (hg.tl (ag hb)) e
  have t1:cF [117,112,100,97,116,101]=bh [117,112,100,97,116,101]:=rfl
  rw[t1] at hc
  rw[if_neg (by decide)] at a6 a7
  refine ⟨?_,by rw[tY (.inl rfl)]; exact a5,?_,a8⟩
  ·rw[ku,if_neg (by decide),if_pos (.inl rfl)]
   simp only[du]
   show (aT t && (ps.all kI && su o && okB b && decide (n=0)))=true
   rw[a1,a2,a3,a4,a6]; rfl
  ·rw[mO,cost]
   rw[ahv] at a7
   omega
 split at e
 ·rename_i hb
  have hc:=bk hw hg hb
  obtain ⟨t,n,ps,o,b,rfl,a1,a2,a3,a4,a5,a6,a7,a8⟩:=zo hw (hg.tl (ag hb)) e
  have t1:cF [113,117,101,114,121]=bh [113,117,101,114,121]:=rfl
  rw[t1] at hc
  rw[if_pos rfl] at a6 a7
  refine ⟨?_,by rw[tY (.inr rfl)]; exact a5,?_,a8⟩
  ·rw[ku,if_neg (by decide),if_pos (.inr rfl)]
   simp only[du]
   show (aT t && (ps.all kI && su o && okB b && qD n))=true
   rw[a1,a2,a3,a4,a6]; rfl
  ·rw[mP,cost]
   have e5:([aM [58],bh (cC n)]:List Tk) ++ aM [61] :: cp b=aM [58] :: bh (cC n) :: aM [61] :: cp b:=rfl
   rw[e5] at a7
   omega
 ·cases e
theorem xA:∀ (f:Nat) (l:List Nd) (ts r:List Tk) (m:List Nd),Gt ts→jd f l ts= .ok (m,r)→∃ ds,m=l ++ ds∧(∀ x ∈ ds,l4 x=true∧zm x≤64)∧cost w (jj ds) + cost w r≤cost w ts∧Gt r
 | 0,l,ts,r,m,hg,e=>by
   cases e
   exact ⟨[],by simp,by simp,by rw[jj,cost]; omega,hg⟩
 | f + 1,l,ts,r,m,hg,e=>by
   simp only[jd] at e
   by_cases hk:(hd ts).kind=6
   ·rw[if_pos hk] at e
    cases e
    exact ⟨[],by simp,by simp,by rw[jj,cost]; omega,hg⟩
   ·rw[if_neg hk] at e
    obtain ⟨x,r1,e1,e⟩:=aH e
    obtain ⟨a1,a2,a3,a4⟩:=Pf hw hg e1
    obtain ⟨ds,rfl,b1,b2,b3⟩:=xA f _ r1 r m a4 e
    refine ⟨x :: ds,by simp,?_,?_,b3⟩
    ·intro y hy
     rcases afa.1 hy with rfl | hy
     ·exact ⟨a1,a2⟩
     ·exact b1 y hy
    ·rw[jj,aG,cost]; omega
end
def Hs (z:Bs):Prop:=z=[]∨bg (z.getD 0 0)=false
def Sep (t:Tk) (s:Bs):Prop:=(t.kind=4∨t.kind=5∨Hs s)∧(t.kind=5→t.text.length=2∨s=[]∨cj [t.text.getD 0 0,s.getD 0 0]=false)
theorem ky {p:UInt8→Bool} {w s:Bs} (hw:w.all p=true) (hs:s=[]∨p (s.getD 0 0)=false):(w ++ s).takeWhile p=w:=by
 rw[List.takeWhile_append_of_pos (afg.1 hw)]
 have:s.takeWhile p=[]:=by
  cases s with
  | nil=>rfl
  | cons c r=>
    rcases hs with h | h
    ·cases h
    ·rw[ahr]
     have h:p c=false:=h
     rw[h]; rfl
 rw[this,ah7]
theorem Lz {c:UInt8} (h:bg c=false):dh c=false:=by
 unfold bg at h
 simp only[Bool.or_eq_false_iff] at h
 exact h.2.1
theorem Pg {t:Tk} (h:lp t=true) (h6:t.kind≠6) {s:Bs} (hs:Sep t s):cl (fM t ++ s)= .ok t.kind t.text t.n (fM t).length:=by
 have Re:∀ g ∈ la,bM g=true:=by decide
 have word:∀ w:Bs,bM w=true→Hs s→cl (w ++ s)= .ok (if ve w then 2 else 1) w 0 w.length:=by
  intro w hv hh
  unfold bM at hv
  simp only[ae5,decide_eq_true_eq] at hv
  obtain ⟨v1,v2,v3,v4⟩:=hv
  cases w with
  | nil=>simp at v1
  | cons c r=>
    have hc:fV c=true:=v3
    have e:=ky v4 hh
    rw[ahm] at e ⊢
    simp only[cl,hc,if_true]
    rw[e]
    unfold wi
    rw[if_neg (by omega)]
 obtain ⟨k,tx,n,a⟩:=t
 have hp:=h
 unfold lp at hp
 simp only[ae5,Bool.or_eq_true,decide_eq_true_eq] at hp h6
 obtain ⟨hn,hp⟩:=hp
 obtain ⟨gK,jl⟩:=hs
 simp only at gK jl
 by_cases k1:k=1
 ·subst k1
  simp only[if_true,ae5,afo] at hp
  have kD:n=0:=by omega
  subst kD
  show cl (tx ++ s)=_
  rw[word tx hp.1 (by rcases gK with q | q | q; omega; omega; exact q),hp.2]; rfl
 rw[if_neg k1] at hp
 by_cases k2:k=2
 ·subst k2
  rw[if_pos rfl] at hp
  have kD:n=0:=by omega
  subst kD
  show cl (tx ++ s)=_
  have hv:=Re tx (by unfold ve at hp; simpa using hp)
  rw[word tx hv (by rcases gK with q | q | q; omega; omega; exact q),hp]; rfl
 rw[if_neg k2] at hp
 by_cases k3:k=3
 ·subst k3
  simp only[if_true,ae5,decide_eq_true_eq] at hp
  obtain ⟨rfl,h0,h1⟩:=hp
  obtain ⟨u,rfl⟩:∃ u:Nat,n=u:=⟨n.toNat,by omega⟩
  have rr:fM ⟨3,[],(u:Int),a⟩=ah5 u:=by
   rw[AE,km]
  rw[rr]
  obtain ⟨d1,d2,d3,d4⟩:=K3 u
  show cl (ah5 u ++ s)= .ok 3 [] (u:Int) _
  have hh:s=[]∨dh (s.getD 0 0)=false:=by
   rcases gK with q | q | q
   ·omega
   ·omega
   ·exact q.imp id Lz
  generalize ah5 u=w at *
  cases w with
  | nil=>exact absurd rfl d3
  | cons c r=>
    have hc:dh c=true:=by rw[afb,ae5] at d1; exact d1.1
    have hl:fV c=false:=by
     rw[rX] at hc
     simp[fV]; omega
    have e:=ky d1 hh
    rw[ahm] at e ⊢
    simp only[cl,hl,hc,ae6,if_false,if_true]
    rw[e]
    unfold yx
    rw[if_neg (fun q=>d4 q.1 q.2),if_neg (by rw[d2]; omega),d2]
 rw[if_neg k3] at hp
 have kD:n=0:=by omega
 subst kD
 by_cases k4:k=4
 ·subst k4
  rw[if_pos rfl] at hp
  show cl (39 :: (tx ++ [39]) ++ s)= .ok 4 tx 0 (39 :: (tx ++ [39])).length
  have hv:=hp
  unfold bM at hv
  simp only[ae5,decide_eq_true_eq] at hv
  have dk:∀ x ∈ tx,bg x=true:=afg.1 hv.2.2.2
  have a1:fV 39=false:=by decide
  have a2:dh 39=false:=by decide
  have a3:((UInt8.toNat 39:Nat):Int)=39:=by decide
  have e0:39 :: (tx ++ [39]) ++ s=39 :: (tx ++ 39 :: s):=by simp
  rw[e0]
  simp only[cl,a1,a2,a3,ae6,if_false,if_true]
  have e1:(tx ++ 39 :: s).takeWhile bg=tx:=ky (afg.2 dk) (.inr (by show bg 39=false; decide))
  have e2:(tx ++ 39 :: s).dropWhile bg=39 :: s:=by
   rw[List.dropWhile_append_of_pos dk,ahz,if_neg (by decide)]
  rw[e1,e2]
  unfold wj
  rw[if_neg (by simp),if_pos hp]
  simp
 rw[if_neg k4] at hp
 by_cases k5:k=5
 ·subst k5
  rw[if_pos rfl] at hp
  show cl (tx ++ s)= .ok 5 tx 0 tx.length
  have jl:=jl rfl
  have Bz:tx ∈ eP:=by unfold cj at hp; simpa using hp
  have key:∀ g ∈ eP,(g.length=1∨g.length=2)∧fV (g.getD 0 0)=false∧dh (g.getD 0 0)=false∧¬ ((g.getD 0 0).toNat:Int)=39:=by decide
  obtain ⟨g1,g2,g3,g4⟩:=key tx Bz
  match tx,g1,g2,g3,g4,hp,jl with
  | [c],_,g2,g3,g4,hp,jl=>
    have g2:fV c=false:=g2
    have g3:dh c=false:=g3
    have g4:¬ (c.toNat:Int)=39:=g4
    rw[ahm,ahv]
    simp only[cl,g2,g3,g4,ae6,if_false]
    unfold rA
    have n2:¬ (2≤(c :: s).length∧cj ((c :: s).take 2)=true):=by
     rintro ⟨q1,q2⟩
     cases s with
     | nil=>simp at q1
     | cons d r=>
       rcases jl with q | q | q
       ·simp at q
       ·cases q
       ·have q:cj [c,d]=false:=q
        have:(c :: d :: r).take 2=[c,d]:=by simp
        rw[this,q] at q2; cases q2
    rw[if_neg n2,if_pos (by show cj ([c])=true; exact hp)]
    rfl
  | [c,d],_,g2,g3,g4,hp,jl=>
    have g2:fV c=false:=g2
    have g3:dh c=false:=g3
    have g4:¬ (c.toNat:Int)=39:=g4
    rw[ahm]
    simp only[cl,g2,g3,g4,ae6,if_false]
    unfold rA
    have:(c :: ([d] ++ s)).take 2=[c,d]:=by simp
    rw[if_pos ⟨by simp,by rw[this]; exact hp⟩,this]
    rfl
 ·rw[if_neg k5,if_neg h6] at hp
  cases hp
theorem Lx.tk {t:Tk} (h:lp t=true) (h6:t.kind≠6) {s:Bs} {T:List Tk} (hs:Lx s T) (hq:Sep t s):Lx (fM t ++ s) (t :: T):=fun o=>by
 obtain ⟨dH,QU⟩:=rY h h6 s
 have tE:=aho.2 dH
 obtain ⟨T',h1,h2⟩:=hs.at (f:=(fM t ++ s).length) (by simp; omega) (o + (fM t).length)
 rw[jP,QU,aic,Pg h h6 hq]
 simp only
 rw[if_neg h6,Nat.zero_add,List.drop_left,Nat.add_zero,h1]
 exact ⟨_,rfl,mK ⟨rfl,rfl,rfl⟩ h2⟩
section
variable {s:Bs} {T:List Tk}
theorem Lx.kw {w:Bs} (h:ve w=true) (hs:Lx s T) (hh:Hs s):Lx (w ++ s) (bh w :: T):=by
 have hp:lp (bh w)=true:=by
  show (_ && ve w)=true
  rw[h]; rfl
 exact Lx.tk (t:=bh w) hp (by show (2:Int)≠6; decide) hs ⟨.inr (.inr hh),fun q=>absurd (show (2:Int)=5 from q) (by decide)⟩
theorem Lx.nm {w:Bs} (h:aT w=true) (hs:Lx s T) (hh:Hs s):Lx (w ++ s) (dS w :: T):=by
 have hp:lp (dS w)=true:=by
  show (_ && aT w)=true
  rw[h]; rfl
 exact Lx.tk (t:=dS w) hp (by show (1:Int)≠6; decide) hs ⟨.inr (.inr hh),fun q=>absurd (show (1:Int)=5 from q) (by decide)⟩
theorem Lx.qt {w:Bs} (h:bM w=true) (hs:Lx s T):Lx (39 :: (w ++ 39 :: s)) (oZ w :: T):=by
 have hp:lp (oZ w)=true:=by
  show (_ && bM w)=true
  rw[h]; rfl
 have:=Lx.tk (t:=oZ w) hp (by show (4:Int)≠6; decide) hs ⟨.inl rfl,fun q=>absurd (show (4:Int)=5 from q) (by decide)⟩
 have e:fM (oZ w) ++ s=39 :: (w ++ 39 :: s):=by
  show 39 :: (w ++ [39]) ++ s=_
  simp
 rw[e] at this; exact this
theorem Lx.num {n:Int} (h0:0≤n) (h1:n≤1000000000000000) (hs:Lx s T) (hh:Hs s):Lx (ah4 n ++ s) (vD n :: T):=by
 have hp:lp (vD n)=true:=by
  show (_ && (decide (([]:Bs)=[]) && (decide (0≤n) && decide (n≤1000000000000000))))=true
  simp[h0,h1,vD]
 exact Lx.tk (t:=vD n) hp (by show (3:Int)≠6; decide) hs ⟨.inr (.inr hh),fun q=>absurd (show (3:Int)=5 from q) (by decide)⟩
def lone:Bs:=[40,41,44,46,91,93,58,59,43,45,123,125]
theorem Lx.sg {c:UInt8} (h:c ∈ lone) (hs:Lx s T):Lx (c :: s) (aM [c] :: T):=by
 have hp:∀ c ∈ lone,lp (aM [c])=true:=by decide
 have hn:∀ c ∈ lone,∀ d,cj [c,d]=false:=by
  intro c hc d
  unfold cj
  simp only[lone,afa,List.not_mem_nil,or_false] at hc
  rcases hc with rfl | rfl | rfl | rfl | rfl | rfl | rfl | rfl | rfl | rfl | rfl | rfl <;> simp[eP]
 exact Lx.tk (t:=aM [c]) (hp c h) (by show (5:Int)≠6; decide) hs ⟨.inr (.inl rfl),fun _=>.inr (.inr (hn c h _))⟩
theorem Lx.sg2 {w:Bs} (h:cj w=true) (h2:w.length=2) (hs:Lx s T):Lx (w ++ s) (aM w :: T):=by
 have hp:lp (aM w)=true:=by
  show (_ && cj w)=true
  rw[h]; rfl
 exact Lx.tk (t:=aM w) hp (by show (5:Int)≠6; decide) hs ⟨.inr (.inl rfl),fun _=>.inl h2⟩
theorem Lx.bl (hs:Lx s T):Lx (32 :: s) T:=Lx.blank (by decide) hs
theorem iJ:Hs (32 :: s):=.inr (by show bg 32=false; decide)
theorem bH {c:UInt8} (h:c ∈ lone) (hc:c≠45):Hs (c :: s):=by
 have:∀ c ∈ lone,c≠45→bg c=false:=by decide
 exact .inr (this c h hc)
end
theorem Lx.op {k:Int} {o:Tk} {lv l r:Nat} (hb:eH k=some (o,lv,l,r)) {s:Bs} {T:List Tk} (hs:Lx s T):Lx (32 :: (fM o ++ 32 :: s)) (o :: T):=by
 have hf:=(n9 hb).po
 exact Lx.bl (Lx.tok hf.1 hf.2 (Lx.bl hs))
def ou (b:Bool) (s:Bs):Bs:=if b then 40 :: (s ++ [41]) else s
mutual
def sB:Nd→Bs
 | .mk k t n _ ks=>match eH k with
   | some (o,_,l,r)=>(match ks with
     | [a,b]=>ou (decide (jm a < l)) (sB a) ++ 32 :: (fM o ++ 32 :: ou (decide (jm b < r)) (sB b))
     | _=>[])
   | none=>
     if k=30 then (match ks with
      | [a,b,c]=>[105,102] ++ 32 :: (sB a ++ 32 :: ([116,104,101,110] ++ 32 :: (sB b ++ 32 :: ([101,108,115,101] ++ 32 :: sB c))))
      | _=>[])
     else if k=33 then (match ks with
      | [a]=>[110,111,116] ++ 32 :: ou (decide (jm a < 3)) (sB a)
      | _=>[])
     else if k=42 then (match ks with
      | [a]=>ou (decide (jm a < 7)) (sB a) ++ 46 :: t
      | _=>[])
     else if k=43 then (match ks with
      | [a,b]=>ou (decide (jm a < 7)) (sB a) ++ 91 :: (sB b ++ [93])
      | _=>[])
     else if k=44 then ah4 n
     else if k=47 then 39 :: (t ++ [39])
     else if k=48 then t
     else if k=51 then t ++ 40 :: (sA t true ks ++ [41])
     else match dx k with
      | some w=>w
      | none=>[]
def sA (fn:Bs):Bool→List Nd→Bs
 | _,[]=>[]
 | first,a :: r=>(if first then [] else [44,32]) ++ (sG fn a ++ sA fn false r)
def sG (fn:Bs):Nd→Bs
 | .mk k t n p ks=>if fn=[114,101,99] then (match ks with
  | [x]=>t ++ 58 :: 32 :: sB x
  | _=>[])
  else if fn=[109,97,112] then (match ks with
   | [x,y]=>sB x ++ 58 :: 32 :: sB y
   | _=>[])
  else sB (.mk k t n p ks)
end
def iU (n:Nd) (req:Nat):Bs:=ou (decide (jm n < req)) (sB n)
theorem fZ (x:Nd):iU x 0=sB x:=by simp[iU,ou]
section
variable {k n p:Int} {t:Bs} {a b c:Nd} {ks:List Nd} {o:Tk} {lv l r:Nat}
theorem jt (h:eH k=some (o,lv,l,r)):sB (.mk k t n p [a,b])=iU a l ++ 32 :: (fM o ++ 32 :: iU b r):=by
 rw[sB.eq_def]; simp only[h]; rfl
theorem xB:sB (.mk 30 t n p [a,b,c])=[105,102] ++ 32 :: (sB a ++ 32 :: ([116,104,101,110] ++ 32 :: (sB b ++ 32 :: ([101,108,115,101] ++ 32 :: sB c)))):=by
 rw[sB.eq_def]; rfl
theorem qE:sB (.mk 33 t n p [a])=[110,111,116] ++ 32 :: iU a 3:=by
 rw[sB.eq_def]; rfl
theorem l5:sB (.mk 42 t n p [a])=iU a 7 ++ 46 :: t:=by
 rw[sB.eq_def]; rfl
theorem l6:sB (.mk 43 t n p [a,b])=iU a 7 ++ 91 :: (sB b ++ [93]):=by
 rw[sB.eq_def]; rfl
theorem qF:sB (.mk 44 t n p ks)=ah4 n:=by
 rw[sB.eq_def]; rfl
theorem l8:sB (.mk 47 t n p ks)=39 :: (t ++ [39]):=by
 rw[sB.eq_def]; rfl
theorem eu:sB (.mk 48 t n p ks)=t:=by
 rw[sB.eq_def]; rfl
theorem pB:sB (.mk 51 t n p ks)=t ++ 40 :: (sA t true ks ++ [41]):=by
 rw[sB.eq_def]; rfl
theorem gO {w:Bs} (h:dx k=some w):sB (.mk k t n p ks)=w:=by
 have hk:k=45∨k=46∨k=49∨k=50:=by
  unfold dx at h
  repeat' split at h
  all_goals first
   | (cases h; done)
   | omega
 rcases hk with rfl | rfl | rfl | rfl <;> (rw[sB.eq_def]; cases h; rfl)
end
theorem l9 {fn:Bs} (h1:fn≠[114,101,99]) (h2:fn≠[109,97,112]) (a:Nd):sG fn a=sB a:=by
 obtain ⟨k,t,n,p,ks⟩:=a
 rw[sG.eq_def]; simp only[h1,h2,if_false]
theorem tZ {k n p:Int} {t:Bs} {x:Nd}:sG [114,101,99] (.mk k t n p [x])=t ++ 58 :: 32 :: sB x:=by rw[sG.eq_def]; rfl
theorem ua {k n p:Int} {t:Bs} {x y:Nd}:sG [109,97,112] (.mk k t n p [x,y])=sB x ++ 58 :: 32 :: sB y:=by rw[sG.eq_def]; rfl
theorem jS {fn:Bs}:∀ {a:Nd},lU fn a=true→(fn=[114,101,99]∧∃ t p x,a= .mk 52 t 0 p [x]∧aT t=true∧okB x=true)∨(fn=[109,97,112]∧∃ p x y,a= .mk 52 [] 0 p [x,y]∧okB x=true∧okB y=true)∨(fn≠[114,101,99]∧fn≠[109,97,112]∧okB a=true)
 | .mk k t n p ks,h=>by
   rw[lU.eq_def] at h
   simp only at h
   by_cases h1:fn=[114,101,99]
   ·rw[if_pos h1] at h
    match ks,h with
    | [x],h=>
      simp only[ae5,decide_eq_true_eq] at h
      obtain ⟨⟨⟨rfl,a2⟩,rfl⟩,a4⟩:=h
      exact .inl ⟨h1,t,p,x,rfl,a2,a4⟩
   rw[if_neg h1] at h
   by_cases h2:fn=[109,97,112]
   ·rw[if_pos h2] at h
    match ks,h with
    | [x,y],h=>
      simp only[ae5,decide_eq_true_eq] at h
      obtain ⟨⟨⟨⟨rfl,rfl⟩,rfl⟩,a3⟩,a4⟩:=h
      exact .inr (.inl ⟨h2,p,x,y,rfl,a3,a4⟩)
   rw[if_neg h2] at h
   exact .inr (.inr ⟨h1,h2,h⟩)
theorem xC {n:Int} (h1:-1000000000000000≤n) (h2:n≤1000000000000000) {s:Bs} {T:List Tk} (hs:Lx s T) (hh:Hs s):Lx (ah4 n ++ s) (dc n ++ T):=by
 unfold dc
 by_cases AG:n < 0
 ·rw[if_pos AG]
  have e:ah4 n=45 :: ah4 (-n):=by
   unfold ah4
   rw[if_pos AG,if_neg (by omega)]
   congr 2; omega
  rw[e]
  exact Lx.sg (c:=45) (by decide) (Lx.num (by omega) (by omega) hs hh)
 ·rw[if_neg AG]
  exact Lx.num (by omega) h2 hs hh
def vj (s:Bs) (T:List Tk):Prop:=∀ z Z,Hs z→Lx z Z→Lx (s ++ z) (T ++ Z)
theorem vj.wrap {s:Bs} {T:List Tk} (b:Bool) (h:vj s T):vj (ou b s) (kT b T):=by
 cases b
 ·exact h
 ·intro z Z hz hZ
  show Lx (40 :: (s ++ [41]) ++ z) (eK :: (T ++ [cR]) ++ Z)
  have e1:40 :: (s ++ [41]) ++ z=40 :: (s ++ 41 :: z):=by simp
  have e2:eK :: (T ++ [cR]) ++ Z=eK :: (T ++ cR :: Z):=by simp
  rw[e1,e2]
  exact Lx.open (h _ _ (bH (by decide) (by decide)) (Lx.close hZ))
theorem Gg:∀ (N:Nat) (x:Nd),aq x≤N→okB x=true→vj (sB x) (cp x)
 | 0,x,h,_=>by cases x; simp only[aq] at h; omega
 | N + 1,x,h,ho=>by
   have ih:=Gg N
   have at_:∀ (a:Nd) (q:Nat),aq a≤N→okB a=true→vj (iU a q) (bW a q):=fun a q ha ho=>(ih a ha ho).wrap _
   have hs:=kp ho
   cases hs with
   | @bin kk n p t a b o lv l r hb ht hn ha yj=>
     simp only[aq,aA] at h
     rw[jt hb,jJ hb]
     intro z Z hz hZ
     have e1:iU a l ++ 32 :: (fM o ++ 32 :: iU b r) ++ z=iU a l ++ 32 :: (fM o ++ 32 :: (iU b r ++ z)):=by simp
     have e2:bW a l ++ o :: bW b r ++ Z=bW a l ++ o :: (bW b r ++ Z):=by simp
     rw[e1,e2]
     exact at_ a l (by omega) ha _ _ iJ (Lx.op hb (at_ b r (by omega) yj z Z hz hZ))
   | @cond n p t a b c ht hn ha hb hc=>
     simp only[aq,aA] at h
     rw[xB,oa]
     intro z Z hz hZ
     have e1:[105,102] ++ 32 :: (sB a ++ 32 :: ([116,104,101,110] ++ 32 :: (sB b ++ 32 :: ([101,108,115,101] ++ 32 :: sB c)))) ++ z=[105,102] ++ 32 :: (sB a ++ 32 :: ([116,104,101,110] ++ 32 :: (sB b ++ 32 :: ([101,108,115,101] ++ 32 :: (sB c ++ z))))):=by simp
     have e2:bh [105,102] :: (cp a ++ bh [116,104,101,110] :: (cp b ++ bh [101,108,115,101] :: cp c)) ++ Z=bh [105,102] :: (cp a ++ bh [116,104,101,110] :: (cp b ++ bh [101,108,115,101] :: (cp c ++ Z))):=by simp
     rw[e1,e2]
     exact Lx.kw rfl (Lx.bl (ih a (by omega) ha _ _ iJ (Lx.bl (Lx.kw rfl (Lx.bl (ih b (by omega) hb _ _ iJ (Lx.bl (Lx.kw rfl (Lx.bl (ih c (by omega) hc z Z hz hZ)) iJ)))) iJ)))) iJ
   | @not n p t a ht hn ha=>
     simp only[aq,aA] at h
     rw[qE,kU]
     intro z Z hz hZ
     have e1:[110,111,116] ++ 32 :: iU a 3 ++ z=[110,111,116] ++ 32 :: (iU a 3 ++ z):=by simp
     rw[e1]
     exact Lx.kw rfl (Lx.bl (at_ a 3 (by omega) ha z Z hz hZ)) iJ
   | @field n p t a ht hn ha=>
     simp only[aq,aA] at h
     rw[l5,hU]
     intro z Z hz hZ
     have e2:bW a 7 ++ [aM [46],dS t] ++ Z=bW a 7 ++ aM [46] :: dS t :: Z:=by simp
     rw[ahw,ahm,e2]
     exact at_ a 7 (by omega) ha _ _ (bH (by decide) (by decide)) (Lx.sg (by decide) (Lx.nm ht hZ hz))
   | @index n p t a b ht hn ha hb=>
     simp only[aq,aA] at h
     rw[l6,hX]
     intro z Z hz hZ
     have e1:iU a 7 ++ 91 :: (sB b ++ [93]) ++ z=iU a 7 ++ 91 :: (sB b ++ 93 :: z):=by simp
     have e2:bW a 7 ++ aM [91] :: (cp b ++ [aM [93]]) ++ Z=bW a 7 ++ aM [91] :: (cp b ++ aM [93] :: Z):=by simp
     rw[e1,e2]
     exact at_ a 7 (by omega) ha _ _ (bH (by decide) (by decide)) (Lx.sg (by decide) (ih b (by omega) hb _ _ (bH (by decide) (by decide)) (Lx.sg (by decide) hZ)))
   | @int n p t ht h1 h2=>
     rw[qF,jK]
     exact fun z Z hz hZ=>xC h1 h2 hZ hz
   | @quote n p t ht hn=>
     rw[l8,ia]
     intro z Z hz hZ
     have e1:39 :: (t ++ [39]) ++ z=39 :: (t ++ 39 :: z):=by simp
     rw[e1]
     exact Lx.qt ht hZ
   | @name n p t ht hn=>
     rw[eu,jg]
     exact fun z Z hz hZ=>Lx.nm ht hZ hz
   | @call n p t ks ht hn hk=>
     rw[pB,jh]
     simp only[aq] at h
     intro z Z hz hZ
     have e1:t ++ 40 :: (sA t true ks ++ [41]) ++ z=t ++ 40 :: (sA t true ks ++ 41 :: z):=by simp
     have e2:bh t :: eK :: (jy t true ks ++ [cR]) ++ Z=bh t :: eK :: (jy t true ks ++ cR :: Z):=by simp
     rw[e1,e2]
     have Re:∀ f ∈ aZ,ve f=true:=by decide
     have arg:∀ a:Nd,aq a≤N→lU t a=true→vj (sG t a) (qT t a):=fun a UT hoa=>by
      rcases jS hoa with ⟨rfl,tt,pp,y,rfl,q1,q2⟩ | ⟨rfl,pp,y,u,rfl,q1,q2⟩ | ⟨q1,q2,q3⟩
      ·simp only[aq,aA] at UT
       rw[tZ,pk.1]
       intro z Z hz hZ
       rw[ahw,ahm,ahm,ahm,ahm]
       exact Lx.nm q1 (Lx.sg (by decide) (Lx.bl (ih y (by omega) q2 z Z hz hZ))) (bH (by decide) (by decide))
      ·simp only[aq,aA] at UT
       rw[ua,pn.1]
       intro z Z hz hZ
       rw[ahw,ahm,ahm,ahw,ahm]
       exact ih y (by omega) q1 _ _ (bH (by decide) (by decide)) (Lx.sg (by decide) (Lx.bl (ih u (by omega) q2 z Z hz hZ)))
      ·rw[l9 q1 q2,(ib q1 q2 a).2.2]
       exact ih a UT q3
     have args:∀ (ks:List Nd) (z:Bs) (Z:List Tk),aA ks≤N→nu t ks=true→Hs z→Lx z Z→Hs (sA t false ks ++ z)∧Lx (sA t false ks ++ z) (jy t false ks ++ Z):=by
      intro ks
      induction ks with
      | nil=>
        intro z Z _ _ hz hZ
        rw[sA,jy]; exact ⟨hz,hZ⟩
      | cons a r UR=>
        intro z Z dO ho hz hZ
        simp only[aA] at dO
        rw[nu,ae5] at ho
        obtain ⟨i1,i2⟩:=UR z Z (by omega) ho.2 hz hZ
        have e1:sA t false (a :: r) ++ z=44 :: 32 :: (sG t a ++ (sA t false r ++ z)):=by rw[sA]; simp
        have e2:jy t false (a :: r) ++ Z=aM [44] :: (qT t a ++ (jy t false r ++ Z)):=by rw[jy]; simp
        rw[e1,e2]
        exact ⟨bH (by decide) (by decide),Lx.sg (by decide) (Lx.bl (arg a (by omega) ho.1 _ _ i1 i2))⟩
     refine Lx.kw (Re t ht) (Lx.open ?_) (bH (by decide) (by decide))
     cases ks with
     | nil=>rw[sA,jy]; exact Lx.close hZ
     | cons a r=>
       simp only[aA] at h
       rw[nu,ae5] at hk
       obtain ⟨i1,i2⟩:=args r (41 :: z) (cR :: Z) (by omega) hk.2 (bH (by decide) (by decide)) (Lx.close hZ)
       have e1:sA t true (a :: r) ++ 41 :: z=sG t a ++ (sA t false r ++ 41 :: z):=by rw[sA]; simp
       have e2:jy t true (a :: r) ++ cR :: Z=qT t a ++ (jy t false r ++ cR :: Z):=by rw[jy]; simp
       rw[e1,e2]
       exact arg a (by omega) hk.1 _ _ i1 i2
   | @word kk n p t w hw hb ht hn=>
     rw[gO hw,ji hw]
     have hk:ve w=true:=by
      unfold dx at hw
      repeat' split at hw
      all_goals first
       | (cases hw; done)
       | (cases hw; rfl)
     exact fun z Z hz hZ=>Lx.kw hk hZ hz
theorem lxB {x:Nd} (ho:okB x=true):vj (sB x) (cp x):=Gg _ x (afJ _) ho
theorem Ph {x:Nd} (ho:okB x=true):Lx (sB x) (cp x ++ [eT]):=by
 have:=lxB ho [] [eT] (.inl rfl) Lx.nil
 rw[ah7] at this; exact this
def lk:Bool→List Nd→Bs
 | _,[]=>[]
 | first,a :: r=>(if first then [] else [44,32]) ++ 39 :: (ak a ++ 39 :: lk false r)
def iB (ks:List Nd):Bs:=if ks.isEmpty then [] else 40 :: (lk true ks ++ [41])
def sR (x:Nd):Bs:=59 :: 32 :: (lk true (aL x).dropLast ++ ((if (aL x).dropLast.isEmpty then [] else [32]) ++ 61 :: 62 :: 32 :: 39 :: (((aL x).getLast?.map ak).getD [] ++ [39])))
def vk:List Nd→Bs
 | []=>[]
 | x :: r=>sR x ++ vk r
mutual
def sL:Nd→Bs
 | .mk k t n p ks=>
   if k=21 then t
   else if k=10 then [102,108,97,103]
   else if k=18 then [114,101,103,105,115,116,101,114]
   else if k=13 then [115,101,116] ++ iB ks
   else if k=17 then [102,108,97,116] ++ iB ks
   else if k=14 then [109,97,112] ++ (iB ks.dropLast ++ 32 :: ((Bi ks).getLast?.getD []))
   else if k=11 then [109,97,120] ++ 40 :: (ah4 ((ks.map numOf).getD 0 0) ++ 44 :: 32 :: (ah4 ((ks.map numOf).getD 1 0) ++ [41]))
   else if k=12 then [109,105,110] ++ 40 :: (ah4 ((ks.map numOf).getD 0 0) ++ 44 :: 32 :: (ah4 ((ks.map numOf).getD 1 0) ++ [41]))
   else if k=16 then [108,101,120] ++ 40 :: ((Bi ks).getD 0 [] ++ 44 :: 32 :: ((Bi ks).getD 1 [] ++ [41]))
   else if k=15 then 123 :: (ti true ks ++ [125])
   else if k=19 then [99,108,111,115,101,100] ++ 40 :: (lk true (aP ks) ++ (vk (bt ks) ++ [41]))
   else []
def Bi:List Nd→List Bs
 | []=>[]
 | x :: r=>sL x :: Bi r
def ti:Bool→List Nd→Bs
 | _,[]=>[]
 | first,x :: r=>(if first then [] else [44,32]) ++ (sM x ++ ti false r)
def sM:Nd→Bs
 | .mk k t n p ks=>t ++ 58 :: 32 :: ((Bi ks).getD 0 [])
end
theorem Gh:∀ (l:List Nd) (x:Nd),Bi (l ++ [x])=Bi l ++ [sL x]
 | [],x=>by rw[ahv,Bi,Bi]; rfl
 | y :: l,x=>by rw[ahm,Bi,Bi,Gh l x]; rfl
section
variable {n p:Int} {t:Bs} {a b x:Nd} {ks:List Nd}
theorem ma:sL (.mk 21 t n p ks)=t:=by rw[sL.eq_def]; rfl
theorem pC:sL (.mk 10 t n p ks)=[102,108,97,103]:=by rw[sL.eq_def]; rfl
theorem ie:sL (.mk 18 t n p ks)=[114,101,103,105,115,116,101,114]:=by rw[sL.eq_def]; rfl
theorem ov:sL (.mk 13 t n p ks)=[115,101,116] ++ iB ks:=by rw[sL.eq_def]; rfl
theorem mR:sL (.mk 17 t n p ks)=[102,108,97,116] ++ iB ks:=by rw[sL.eq_def]; rfl
theorem ub:sL (.mk 14 t n p (ks ++ [x]))=[109,97,112] ++ (iB ks ++ 32 :: sL x):=by
 have e:sL (.mk 14 t n p (ks ++ [x]))=[109,97,112] ++ (iB (ks ++ [x]).dropLast ++ 32 :: ((Bi (ks ++ [x])).getLast?.getD [])):=by rw[sL.eq_def]; rfl
 rw[e,aio,Gh,List.getLast?_append]; rfl
theorem uc:sL (.mk 11 t n p [a,b])=[109,97,120] ++ 40 :: (ah4 (numOf a) ++ 44 :: 32 :: (ah4 (numOf b) ++ [41])):=by rw[sL.eq_def]; rfl
theorem ud:sL (.mk 12 t n p [a,b])=[109,105,110] ++ 40 :: (ah4 (numOf a) ++ 44 :: 32 :: (ah4 (numOf b) ++ [41])):=by rw[sL.eq_def]; rfl
theorem ue:sL (.mk 16 t n p [a,b])=[108,101,120] ++ 40 :: (sL a ++ 44 :: 32 :: (sL b ++ [41])):=by
 have e:sL (.mk 16 t n p [a,b])=[108,101,120] ++ 40 :: ((Bi [a,b]).getD 0 [] ++ 44 :: 32 :: ((Bi [a,b]).getD 1 [] ++ [41])):=by rw[sL.eq_def]; rfl
 rw[e,Bi,Bi,Bi]; rfl
theorem pD:sL (.mk 15 t n p ks)=123 :: (ti true ks ++ [125]):=by rw[sL.eq_def]; rfl
theorem jT:sL (.mk 19 t n p ks)=[99,108,111,115,101,100] ++ 40 :: (lk true (aP ks) ++ (vk (bt ks) ++ [41])):=by rw[sL.eq_def]; rfl
theorem xD {k:Int}:sM (.mk k t n p [x])=t ++ 58 :: 32 :: sL x:=by rw[sM,Bi]; rfl
end
theorem zp:∀ (qs:List Nd) (z:Bs) (Z:List Tk),qs.all dQ=true→Hs z→Lx z Z→Hs (lk false qs ++ z)∧Lx (lk false qs ++ z) (cG false qs ++ Z)
 | [],z,Z,_,hz,hZ=>⟨hz,hZ⟩
 | q :: qs,z,Z,ho,hz,hZ=>by
   rw[afb,ae5] at ho
   obtain ⟨t,p,rfl,ht⟩:=gN ho.1
   obtain ⟨i1,i2⟩:=zp qs z Z ho.2 hz hZ
   have e1:lk false (.mk 47 t 0 p [] :: qs) ++ z=44 :: 32 :: 39 :: (t ++ 39 :: (lk false qs ++ z)):=by rw[lk]; simp[ak]
   have e2:cG false (.mk 47 t 0 p [] :: qs) ++ Z=aM [44] :: oZ t :: (cG false qs ++ Z):=by rw[cG]; rfl
   rw[e1,e2]
   exact ⟨bH (by decide) (by decide),Lx.sg (by decide) (Lx.bl (Lx.qt ht i2))⟩
theorem qG {q:Nd} {qs:List Nd} {z:Bs} {Z:List Tk} (ho:(q :: qs).all dQ=true) (hz:Hs z) (hZ:Lx z Z):Lx (lk true (q :: qs) ++ z) (cG true (q :: qs) ++ Z):=by
 rw[afb,ae5] at ho
 obtain ⟨t,p,rfl,ht⟩:=gN ho.1
 obtain ⟨i1,i2⟩:=zp qs z Z ho.2 hz hZ
 have e1:lk true (.mk 47 t 0 p [] :: qs) ++ z=39 :: (t ++ 39 :: (lk false qs ++ z)):=by rw[lk]; simp[ak]
 have e2:cG true (.mk 47 t 0 p [] :: qs) ++ Z=oZ t :: (cG false qs ++ Z):=by rw[cG]; rfl
 rw[e1,e2]
 exact Lx.qt ht i2
theorem EP {qs:List Nd} {z:Bs} {Z:List Tk} (ho:qs.all dQ=true) (hz:Hs z) (hZ:Lx z Z):Hs (iB qs ++ z)∧Lx (iB qs ++ z) (dN qs ++ Z):=by
 cases qs with
 | nil=>exact ⟨hz,hZ⟩
 | cons q qs=>
   have e1:iB (q :: qs) ++ z=40 :: (lk true (q :: qs) ++ 41 :: z):=by
    show 40 :: (lk true (q :: qs) ++ [41]) ++ z=_
    simp
   have e2:dN (q :: qs) ++ Z=eK :: (cG true (q :: qs) ++ cR :: Z):=by
    show eK :: (cG true (q :: qs) ++ [cR]) ++ Z=_
    simp
   rw[e1,e2]
   exact ⟨bH (by decide) (by decide),Lx.open (qG ho (bH (by decide) (by decide)) (Lx.close hZ))⟩
theorem Pj {x:Nd} {z:Bs} {Z:List Tk} (h:jQ x=true) (hz:Hs z) (hZ:Lx z Z):Lx (sR x ++ z) (yG x ++ Z):=by
 obtain ⟨k,t,n,p,ks⟩:=x
 unfold jQ lj at h
 simp only[ae5,decide_eq_true_eq] at h
 obtain ⟨⟨_,h4⟩,h5⟩:=h
 have dH:ks≠[]:=by
  intro q
  subst q
  simp[aL] at h4
 have ek:=(aiq dH).symm
 generalize Wn:ks.dropLast=qs at *
 generalize ks.getLast dH=c at *
 subst ek
 have h5:(qs ++ [c]).all dQ=true:=h5
 rw[aid,ae5] at h5
 obtain ⟨h6,h7⟩:=h5
 have h7:dQ c=true:=by simpa using h7
 obtain ⟨tc,pc,rfl,htc⟩:=gN h7
 have e2:yG (.mk k t n p (qs ++ [.mk 47 tc 0 pc []])) ++ Z=aM [59] :: (cG true qs ++ aM [61,62] :: oZ tc :: Z):=by
  unfold yG aL
  simp[ak]
 have e1:sR (.mk k t n p (qs ++ [.mk 47 tc 0 pc []])) ++ z=59 :: 32 :: (lk true qs ++ ((if qs.isEmpty then [] else [32]) ++ ([61,62] ++ 32 :: 39 :: (tc ++ 39 :: z)))):=by
  unfold sR aL
  simp[ak]
 rw[e1,e2]
 have hb:Lx ([61,62] ++ 32 :: 39 :: (tc ++ 39 :: z)) (aM [61,62] :: oZ tc :: Z):=Lx.sg2 (by decide) rfl (Lx.bl (Lx.qt htc hZ))
 refine Lx.sg (by decide) (Lx.bl ?_)
 cases qs with
 | nil=>exact hb
 | cons q r=>exact qG h6 iJ (Lx.bl hb)
theorem CV:∀ (rs:List Nd) (z:Bs) (Z:List Tk),rs.all jQ=true→Hs z→Lx z Z→Hs (vk rs ++ z)∧Lx (vk rs ++ z) (fF rs ++ Z)
 | [],z,Z,_,hz,hZ=>⟨hz,hZ⟩
 | x :: rs,z,Z,ho,hz,hZ=>by
   rw[afb,ae5] at ho
   obtain ⟨i1,i2⟩:=CV rs z Z ho.2 hz hZ
   rw[vk,fF,ahw,ahw]
   exact ⟨.inr rfl,Pj ho.1 i1 i2⟩
theorem Gi:∀ (N:Nat) (x:Nd),aq x≤N→cV x=true→vj (sL x) (eC x)
 | 0,x,h,_=>by cases x; simp only[aq] at h; omega
 | N + 1,x,h,ho=>by
   have ih:=Gi N
   have hs:=ic ho
   cases hs with
   | @named n p t ht hn=>rw[ma,jR]; exact fun z Z hz hZ=>Lx.nm ht hZ hz
   | @flag n p t ht hn=>rw[pC,lX]; exact fun z Z hz hZ=>Lx.kw rfl hZ hz
   | @register n p t ht hn=>rw[ie,gi]; exact fun z Z hz hZ=>Lx.kw rfl hZ hz
   | @set n p t ks ht hn hk=>
     rw[ov,pq]
     intro z Z hz hZ
     obtain ⟨i1,i2⟩:=EP hk hz hZ
     have e1:[115,101,116] ++ iB ks ++ z=[115,101,116] ++ (iB ks ++ z):=ahw ..
     have e2:bh [115,101,116] :: dN ks ++ Z=bh [115,101,116] :: (dN ks ++ Z):=rfl
     rw[e1,e2]
     exact Lx.kw rfl i2 i1
   | @flat n p t ks ht hn hk=>
     rw[mR,lY]
     intro z Z hz hZ
     obtain ⟨i1,i2⟩:=EP hk hz hZ
     have e1:[102,108,97,116] ++ iB ks ++ z=[102,108,97,116] ++ (iB ks ++ z):=ahw ..
     have e2:bh [102,108,97,116] :: dN ks ++ Z=bh [102,108,97,116] :: (dN ks ++ Z):=rfl
     rw[e1,e2]
     exact Lx.kw rfl i2 i1
   | @map n p t ks x ht hn hk hx=>
     have dO:aq x≤N:=by
      simp only[aq] at h
      have Wp:∀ l:List Nd,aA (l ++ [x])=aA l + aq x:=by
       intro l
       induction l with
       | nil=>simp[aA]
       | cons y l UR=>rw[ahm,aA,aA,UR]; omega
      rw[Wp] at h
      omega
     rw[ub,pr]
     intro z Z hz hZ
     obtain ⟨i1,i2⟩:=EP hk iJ (Lx.bl (ih x dO hx z Z hz hZ))
     have e1:[109,97,112] ++ (iB ks ++ 32 :: sL x) ++ z=[109,97,112] ++ (iB ks ++ 32 :: (sL x ++ z)):=by simp
     have e2:bh [109,97,112] :: (dN ks ++ eC x) ++ Z=bh [109,97,112] :: (dN ks ++ (eC x ++ Z)):=by simp
     rw[e1,e2]
     exact Lx.kw rfl i2 i1
   | @max n p t a b ht hn ha hb=>
     obtain ⟨na,pa,rfl,a1,a2⟩:=gj ha
     obtain ⟨nb,pb,rfl,b1,b2⟩:=gj hb
     rw[uc,pt]
     intro z Z hz hZ
     have en:∀ (q z:Int),numOf (.mk 44 [] q z [])=q:=fun _ _=>rfl
     rw[en,en]
     have e1:[109,97,120] ++ 40 :: (ah4 na ++ 44 :: 32 :: (ah4 nb ++ [41])) ++ z=[109,97,120] ++ 40 :: (ah4 na ++ 44 :: 32 :: (ah4 nb ++ 41 :: z)):=by simp
     have e2:bh [109,97,120] :: eK :: (dc na ++ aM [44] :: (dc nb ++ [cR])) ++ Z=bh [109,97,120] :: eK :: (dc na ++ aM [44] :: (dc nb ++ cR :: Z)):=by simp
     rw[e1,e2]
     exact Lx.kw rfl (Lx.open (xC a1 a2 (Lx.sg (by decide) (Lx.bl (xC b1 b2 (Lx.close hZ) (bH (by decide) (by decide))))) (bH (by decide) (by decide)))) (bH (by decide) (by decide))
   | @min n p t a b ht hn ha hb=>
     obtain ⟨na,pa,rfl,a1,a2⟩:=gj ha
     obtain ⟨nb,pb,rfl,b1,b2⟩:=gj hb
     rw[ud,pv]
     intro z Z hz hZ
     have en:∀ (q z:Int),numOf (.mk 44 [] q z [])=q:=fun _ _=>rfl
     rw[en,en]
     have e1:[109,105,110] ++ 40 :: (ah4 na ++ 44 :: 32 :: (ah4 nb ++ [41])) ++ z=[109,105,110] ++ 40 :: (ah4 na ++ 44 :: 32 :: (ah4 nb ++ 41 :: z)):=by simp
     have e2:bh [109,105,110] :: eK :: (dc na ++ aM [44] :: (dc nb ++ [cR])) ++ Z=bh [109,105,110] :: eK :: (dc na ++ aM [44] :: (dc nb ++ cR :: Z)):=by simp
     rw[e1,e2]
     exact Lx.kw rfl (Lx.open (xC a1 a2 (Lx.sg (by decide) (Lx.bl (xC b1 b2 (Lx.close hZ) (bH (by decide) (by decide))))) (bH (by decide) (by decide)))) (bH (by decide) (by decide))
   | @lex n p t a b ht hn ha hb=>
     simp only[aq,aA] at h
     rw[ue,pw]
     intro z Z hz hZ
     have e1:[108,101,120] ++ 40 :: (sL a ++ 44 :: 32 :: (sL b ++ [41])) ++ z=[108,101,120] ++ 40 :: (sL a ++ 44 :: 32 :: (sL b ++ 41 :: z)):=by simp
     have e2:bh [108,101,120] :: eK :: (eC a ++ aM [44] :: (eC b ++ [cR])) ++ Z=bh [108,101,120] :: eK :: (eC a ++ aM [44] :: (eC b ++ cR :: Z)):=by simp
     rw[e1,e2]
     exact Lx.kw rfl (Lx.open (ih a (by omega) ha _ _ (bH (by decide) (by decide)) (Lx.sg (by decide) (Lx.bl (ih b (by omega) hb _ _ (bH (by decide) (by decide)) (Lx.close hZ)))))) (bH (by decide) (by decide))
   | @prod n p t a ks ht hn ha hk=>
     simp only[aq,aA] at h
     rw[pD,lZ]
     intro z Z hz hZ
     have mem:∀ m:Nd,aq m≤N→uQ m=true→vj (sM m) (zl m):=fun m P3 hom=>by
      obtain ⟨tt,pp,y,rfl,q1,q2⟩:=sr hom
      simp only[aq,aA] at P3
      rw[xD,xq]
      intro z Z hz hZ
      rw[ahw,ahm,ahm,ahm,ahm]
      exact Lx.nm q1 (Lx.sg (by decide) (Lx.bl (ih y (by omega) q2 z Z hz hZ))) (bH (by decide) (by decide))
     have ad5:∀ (ks:List Nd) (z:Bs) (Z:List Tk),aA ks≤N→fb ks=true→Hs z→Lx z Z→Hs (ti false ks ++ z)∧Lx (ti false ks ++ z) (fG false ks ++ Z):=by
      intro ks
      induction ks with
      | nil=>
        intro z Z _ _ hz hZ
        rw[ti,fG]; exact ⟨hz,hZ⟩
      | cons a r UR=>
        intro z Z dO ho hz hZ
        simp only[aA] at dO
        rw[fb,ae5] at ho
        obtain ⟨i1,i2⟩:=UR z Z (by omega) ho.2 hz hZ
        have e1:ti false (a :: r) ++ z=44 :: 32 :: (sM a ++ (ti false r ++ z)):=by rw[ti]; simp
        have e2:fG false (a :: r) ++ Z=aM [44] :: (zl a ++ (fG false r ++ Z)):=by rw[fG]; simp
        rw[e1,e2]
        exact ⟨bH (by decide) (by decide),Lx.sg (by decide) (Lx.bl (mem a (by omega) ho.1 _ _ i1 i2))⟩
     obtain ⟨i1,i2⟩:=ad5 ks (125 :: z) (aM [125] :: Z) (by omega) hk (bH (by decide) (by decide)) (Lx.sg (by decide) hZ)
     have e1:123 :: (ti true (a :: ks) ++ [125]) ++ z=123 :: (sM a ++ (ti false ks ++ 125 :: z)):=by rw[ti]; simp
     have e2:aM [123] :: (fG true (a :: ks) ++ [aM [125]]) ++ Z=aM [123] :: (zl a ++ (fG false ks ++ aM [125] :: Z)):=by rw[fG]; simp
     rw[e1,e2]
     exact Lx.sg (by decide) (mem a (by omega) ha _ _ i1 i2)
   | @closed n p t ks ht hn h1 h2=>
     rw[jT,iS]
     intro z Z hz hZ
     have e1:[99,108,111,115,101,100] ++ 40 :: (lk true (aP ks) ++ (vk (bt ks) ++ [41])) ++ z=[99,108,111,115,101,100] ++ 40 :: (lk true (aP ks) ++ (vk (bt ks) ++ 41 :: z)):=by simp
     have e2:bh [99,108,111,115,101,100] :: eK :: (cG true (aP ks) ++ (fF (bt ks) ++ [cR])) ++ Z=bh [99,108,111,115,101,100] :: eK :: (cG true (aP ks) ++ (fF (bt ks) ++ cR :: Z)):=by simp
     rw[e1,e2]
     obtain ⟨i1,i2⟩:=CV (bt ks) (41 :: z) (cR :: Z) h2 (bH (by decide) (by decide)) (Lx.close hZ)
     refine Lx.kw rfl (Lx.open ?_) (bH (by decide) (by decide))
     cases hl:aP ks with
     | nil=>exact i2
     | cons q r=>
       rw[hl] at h1
       exact qG h1 i1 i2
theorem lxL {x:Nd} (ho:cV x=true):vj (sL x) (eC x):=Gi _ x (afJ _) ho
theorem UU {x:Nd} (ho:cV x=true):Lx (sL x) (eC x ++ [eT]):=by
 have:=lxL ho [] [eT] (.inl rfl) Lx.nil
 rw[ah7] at this; exact this
def Ds (x:Nd):Bs:=ak x ++ 58 :: 32 :: cC (numOf x)
def pQ:Bool→List Nd→Bs
 | _,[]=>[]
 | first,x :: r=>(if first then [] else [44,32]) ++ (Ds x ++ pQ false r)
def sD:Nd→Bs
 | .mk k t n _ ks=>
   if k=2 then [108,97,116,116,105,99,101] ++ 32 :: (t ++ 32 :: 61 :: 32 :: (ks.map sL).getD 0 [])
   else if k=3 then [111,98,106,101,99,116] ++ 32 :: (t ++ 58 :: 32 :: (ks.map sL).getD 0 [])
   else match kr ks with
    | some (ps,o,e)=>(if k=4 then [117,112,100,97,116,101] else [113,117,101,114,121]) ++ 32 :: (t ++ 40 :: (pQ true ps ++ 41 :: 32 :: ([111,110] ++ 32 :: (ak o ++ ((if k=5 then 58 :: 32 :: cC n else []) ++ 32 :: 61 :: 32 :: sB e)))))
    | none=>[]
def sE:List Nd→Bs
 | []=>[]
 | x :: r=>sD x ++ 59 :: 10 :: sE r
section
variable {n p:Int} {t:Bs} {ps:List Nd} {o e y:Nd}
theorem ER:sD (.mk 2 t n p [y])=[108,97,116,116,105,99,101] ++ 32 :: (t ++ 32 :: 61 :: 32 :: sL y):=rfl
theorem AN:sD (.mk 3 t n p [y])=[111,98,106,101,99,116] ++ 32 :: (t ++ 58 :: 32 :: sL y):=rfl
theorem ES:sD (.mk 4 t n p (ps ++ [o,e]))=[117,112,100,97,116,101] ++ 32 :: (t ++ 40 :: (pQ true ps ++ 41 :: 32 :: ([111,110] ++ 32 :: (ak o ++ 32 :: 61 :: 32 :: sB e)))):=by
 rw[sD,if_neg (by decide),if_neg (by decide)]
 simp only[du]
 rfl
theorem ET:sD (.mk 5 t n p (ps ++ [o,e]))=[113,117,101,114,121] ++ 32 :: (t ++ 40 :: (pQ true ps ++ 41 :: 32 :: ([111,110] ++ 32 :: (ak o ++ 58 :: 32 :: (cC n ++ 32 :: 61 :: 32 :: sB e))))):=by
 rw[sD,if_neg (by decide),if_neg (by decide)]
 simp only[du]
 rfl
end
theorem Gj {n:Int} {s:Bs} {T:List Tk} (h:qD n=true) (hs:Lx s T) (hh:Hs s):Lx (cC n ++ s) (bh (cC n) :: T):=by
 unfold qD at h
 simp only[ae5,decide_eq_true_eq] at h
 refine Lx.kw ?_ hs hh
 obtain rfl | rfl | rfl | rfl:n=1∨n=2∨n=3∨n=4:=by omega
 all_goals rfl
theorem CW {x:Nd} (h:kI x=true):vj (Ds x) (l0 x):=by
 obtain ⟨t,n,p,rfl,ht,hn⟩:=vJ h
 intro z Z hz hZ
 show Lx (t ++ 58 :: 32 :: cC n ++ z) (dS t :: aM [58] :: bh (cC n) :: Z)
 rw[ahw,ahm,ahm]
 exact Lx.nm ht (Lx.sg (by decide) (Lx.bl (Gj hn hZ hz))) (bH (by decide) (by decide))
theorem zq:∀ (ps:List Nd) (z:Bs) (Z:List Tk),ps.all kI=true→Hs z→Lx z Z→Hs (pQ false ps ++ z)∧Lx (pQ false ps ++ z) (dv false ps ++ Z)
 | [],z,Z,_,hz,hZ=>⟨hz,hZ⟩
 | x :: ps,z,Z,ho,hz,hZ=>by
   rw[afb,ae5] at ho
   obtain ⟨i1,i2⟩:=zq ps z Z ho.2 hz hZ
   have e1:pQ false (x :: ps) ++ z=44 :: 32 :: (Ds x ++ (pQ false ps ++ z)):=by rw[pQ]; simp
   have e2:dv false (x :: ps) ++ Z=aM [44] :: (l0 x ++ (dv false ps ++ Z)):=by rw[dv]; simp
   rw[e1,e2]
   exact ⟨bH (by decide) (by decide),Lx.sg (by decide) (Lx.bl (CW ho.1 _ _ i1 i2))⟩
theorem CX {ps:List Nd} {z:Bs} {Z:List Tk} (ho:ps.all kI=true) (hz:Hs z) (hZ:Lx z Z):Lx (pQ true ps ++ z) (dv true ps ++ Z):=by
 cases ps with
 | nil=>exact hZ
 | cons x r=>
   rw[afb,ae5] at ho
   obtain ⟨i1,i2⟩:=zq r z Z ho.2 hz hZ
   have e1:pQ true (x :: r) ++ z=Ds x ++ (pQ false r ++ z):=by rw[pQ]; simp
   have e2:dv true (x :: r) ++ Z=l0 x ++ (dv false r ++ Z):=by rw[dv]; simp
   rw[e1,e2]
   exact CW ho.1 _ _ i1 i2
theorem LA {s:Bs} {T:List Tk} (hs:Lx s T):Lx (61 :: 32 :: s) (aM [61] :: T):=Lx.tok (t:=aM [61]) (by decide) (by decide) (Lx.bl hs)
theorem lxD {x:Nd} (ho:l4 x=true):vj (sD x) (Bh x):=by
 have hs:=iT ho
 cases hs with
 | @Rk p t y ht hy=>
   rw[ER,mM]
   intro z Z hz hZ
   have e1:[108,97,116,116,105,99,101] ++ 32 :: (t ++ 32 :: 61 :: 32 :: sL y) ++ z=[108,97,116,116,105,99,101] ++ 32 :: (t ++ 32 :: 61 :: 32 :: (sL y ++ z)):=by simp
   rw[e1]
   exact Lx.kw rfl (Lx.bl (Lx.nm ht (Lx.bl (LA (lxL hy z Z hz hZ))) iJ)) iJ
 | @obj p t y ht hy=>
   rw[AN,mN]
   intro z Z hz hZ
   have e1:[111,98,106,101,99,116] ++ 32 :: (t ++ 58 :: 32 :: sL y) ++ z=[111,98,106,101,99,116] ++ 32 :: (t ++ 58 :: 32 :: (sL y ++ z)):=by simp
   rw[e1]
   exact Lx.kw rfl (Lx.bl (Lx.nm ht (Lx.sg (by decide) (Lx.bl (lxL hy z Z hz hZ))) (bH (by decide) (by decide)))) iJ
 | @Rm p t ps o e ht hp u3 he=>
   obtain ⟨to,po,rfl,hto⟩:=mQ u3
   rw[ES,mO]
   intro z Z hz hZ
   have e1:[117,112,100,97,116,101] ++ 32 :: (t ++ 40 :: (pQ true ps ++ 41 :: 32 :: ([111,110] ++ 32 :: (ak (.mk 48 to 0 po []) ++ 32 :: 61 :: 32 :: sB e)))) ++ z=[117,112,100,97,116,101] ++ 32 :: (t ++ 40 :: (pQ true ps ++ 41 :: 32 :: ([111,110] ++ 32 :: (to ++ 32 :: 61 :: 32 :: (sB e ++ z))))):=by simp[ak]
   have e2:bh [117,112,100,97,116,101] :: dS t :: eK :: (dv true ps ++ cR :: bh [111,110] :: dS (ak (.mk 48 to 0 po [])) :: aM [61] :: cp e) ++ Z=bh [117,112,100,97,116,101] :: dS t :: eK :: (dv true ps ++ cR :: bh [111,110] :: dS to :: aM [61] :: (cp e ++ Z)):=by simp[ak]
   rw[e1,e2]
   exact Lx.kw rfl (Lx.bl (Lx.nm ht (Lx.open (CX hp (bH (by decide) (by decide)) (Lx.close (Lx.bl (Lx.kw rfl (Lx.bl (Lx.nm hto (Lx.bl (LA (lxB he z Z hz hZ))) iJ)) iJ))))) (bH (by decide) (by decide)))) iJ
 | @Rn n p t ps o e ht hp u3 he hn=>
   obtain ⟨to,po,rfl,hto⟩:=mQ u3
   rw[ET,mP]
   intro z Z hz hZ
   have e1:[113,117,101,114,121] ++ 32 :: (t ++ 40 :: (pQ true ps ++ 41 :: 32 :: ([111,110] ++ 32 :: (ak (.mk 48 to 0 po []) ++ 58 :: 32 :: (cC n ++ 32 :: 61 :: 32 :: sB e))))) ++ z=[113,117,101,114,121] ++ 32 :: (t ++ 40 :: (pQ true ps ++ 41 :: 32 :: ([111,110] ++ 32 :: (to ++ 58 :: 32 :: (cC n ++ 32 :: 61 :: 32 :: (sB e ++ z)))))):=by simp[ak]
   have e2:bh [113,117,101,114,121] :: dS t :: eK :: (dv true ps ++ cR :: bh [111,110] :: dS (ak (.mk 48 to 0 po [])) :: aM [58] :: bh (cC n) :: aM [61] :: cp e) ++ Z=bh [113,117,101,114,121] :: dS t :: eK :: (dv true ps ++ cR :: bh [111,110] :: dS to :: aM [58] :: bh (cC n) :: aM [61] :: (cp e ++ Z)):=by simp[ak]
   rw[e1,e2]
   exact Lx.kw rfl (Lx.bl (Lx.nm ht (Lx.open (CX hp (bH (by decide) (by decide)) (Lx.close (Lx.bl (Lx.kw rfl (Lx.bl (Lx.nm hto (Lx.sg (by decide) (Lx.bl (Gj hn (Lx.bl (LA (lxB he z Z hz hZ))) iJ))) (bH (by decide) (by decide)))) iJ))))) (bH (by decide) (by decide)))) iJ
theorem Gk:∀ {ds:List Nd},(∀ x ∈ ds,l4 x=true)→Lx (sE ds) (jj ds ++ [eT])
 | [],_=>Lx.nil
 | x :: ds,h=>by
   have ih:=Gk (ds:=ds) fun y hy=>h y (by simp[hy])
   have e2:jj (x :: ds) ++ [eT]=Bh x ++ aM [59] :: (jj ds ++ [eT]):=by rw[jj]; simp
   rw[sE,e2]
   exact lxD (h x (by simp)) _ _ (bH (by decide) (by decide)) (Lx.sg (by decide) (Lx.blank (by decide) ih))
theorem cU.inv {k k' n n' p p':Int} {t t':Bs} {ks iK:List Nd} (h:cU (.mk k t n p ks) (.mk k' t' n' p' iK)):k=k'∧t=t'∧n=n'∧bI ks iK:=by
 unfold cU at h
 rw[lP] at h
 simp only[ae5,decide_eq_true_eq] at h
 exact ⟨h.1.1.1.1,h.1.1.1.2,h.1.1.2,h.1.2,h.2⟩
theorem bI.iE {l:List Nd} (h:bI [] l):l=[]:=by
 cases l with
 | nil=>rfl
 | cons a r=>have:=h.1; simp at this
theorem bI.eF {a:Nd} {r l:List Nd} (h:bI (a :: r) l):∃ b s,l=b :: s∧cU a b∧bI r s:=by
 cases l with
 | nil=>have:=h.1; simp at this
 | cons b s=>
   have h2:=h.2
   rw[gF] at h2
   simp only[ae5] at h2
   exact ⟨b,s,rfl,h2.1,by have:=h.1; simpa using this,h2.2⟩
theorem bI.UW:∀ {a b l:List Nd},bI (a ++ b) l→∃ a' b',l=a' ++ b'∧bI a a'∧bI b b'
 | [],b,l,h=>⟨[],l,rfl,bI.nil,h⟩
 | x :: a,b,l,h=>by
   obtain ⟨y,s,rfl,h1,h2⟩:=bI.eF (r:=a ++ b) h
   obtain ⟨a',b',rfl,h3,h4⟩:=bI.UW h2
   exact ⟨y :: a',b',rfl,bI.cons h1 h3,h4⟩
theorem cU.lv {x y:Nd} (h:cU x y):jm x=jm y:=by
 obtain ⟨k,t,n,p,ks⟩:=x
 obtain ⟨k',t',n',p',iK⟩:=y
 obtain ⟨rfl,_⟩:=h.inv
 rfl
structure Pk (x y:Nd):Prop where
 tk:cp x=cp y
 op:gu x=gu y
 s:sB x=sB y
 lv:jm x=jm y
theorem Pk.bW {x y:Nd} (h:Pk x y) (l:Nat):bW x l=Go.Proofs.YtmhdkbmnpekpoaaGreatDoor.bW y l:=by
 unfold Go.Proofs.YtmhdkbmnpekpoaaGreatDoor.bW; rw[h.tk,h.lv]
theorem Pk.fE {x y:Nd} (h:Pk x y) (l:Nat):bT x l=bT y l:=by
 unfold bT; rw[h.op,h.lv]
theorem Pk.iU {x y:Nd} (h:Pk x y) (l:Nat):iU x l=Go.Proofs.YtmhdkbmnpekpoaaGreatDoor.iU y l:=by
 unfold Go.Proofs.YtmhdkbmnpekpoaaGreatDoor.iU; rw[h.s,h.lv]
theorem iC {k n p:Int} {t:Bs} (hk:k=44∨k=47∨k=48):gu (.mk k t n p [])=0:=by
 rcases hk with rfl | rfl | rfl <;> (rw[gu.eq_def]; rfl)
theorem mb {k n p:Int} {t w:Bs} (h:dx k=some w):gu (.mk k t n p [])=0:=by
 unfold dx at h
 repeat' split at h
 all_goals first
  | (cases h; done)
  | (rename_i hk; subst hk; rw[gu.eq_def]; rfl)
theorem sF (fn:Bs) (f:Bool) (a:Nd) (r:List Nd):jy fn f (a :: r)=(if f then [] else [aM [44]]) ++ (qT fn a ++ jy fn false r):=by rw[jy]
theorem AO (fn:Bs) (f:Bool) (a:Nd) (r:List Nd):sA fn f (a :: r)=(if f then [] else [44,32]) ++ (sG fn a ++ sA fn false r):=by rw[sA]
section
variable {N:Nat} (ih:∀ x,aq x≤N→okB x=true→∀ y,cU x y→Pk x y)
include ih
theorem LB {fn:Bs} {x:Nd} (hs:aq x≤N) (ho:lU fn x=true) {y:Nd} (h:cU x y):qT fn x=qT fn y∧zf fn x=zf fn y∧sG fn x=sG fn y:=by
 rcases jS ho with ⟨rfl,t,p,z,rfl,ht,hz⟩ | ⟨rfl,p,z,z',rfl,hz,Ir⟩ | ⟨h1,h2,h3⟩
 ·obtain ⟨k',t',n',p',iK⟩:=y
  obtain ⟨rfl,rfl,rfl,hl⟩:=h.inv
  obtain ⟨b,s,rfl,h1,h2⟩:=hl.eF
  obtain rfl:=h2.iE
  simp only[aq,aA] at hs
  have e:=ih z (by omega) hz b h1
  obtain ⟨a1,a2,_⟩:=pk (k:=52) (n:=0) (p:=p) (t:=t) (x:=z)
  obtain ⟨b1,b2,_⟩:=pk (k:=52) (n:=0) (p:=p') (t:=t) (x:=b)
  exact ⟨by rw[a1,b1,e.tk],by rw[a2,b2,e.op],by rw[tZ,tZ,e.s]⟩
 ·obtain ⟨k',t',n',p',iK⟩:=y
  obtain ⟨rfl,rfl,rfl,hl⟩:=h.inv
  obtain ⟨b,s,rfl,h1,h2⟩:=hl.eF
  obtain ⟨b',s,rfl,h3,h4⟩:=h2.eF
  obtain rfl:=h4.iE
  simp only[aq,aA] at hs
  have e:=ih z (by omega) hz b h1
  have e':=ih z' (by omega) Ir b' h3
  obtain ⟨a1,a2,_⟩:=pn (k:=52) (n:=0) (p:=p) (t:=[]) (x:=z) (y:=z')
  obtain ⟨b1,b2,_⟩:=pn (k:=52) (n:=0) (p:=p') (t:=[]) (x:=b) (y:=b')
  exact ⟨by rw[a1,b1,e.tk,e'.tk],by rw[a2,b2,e.op,e'.op],by rw[ua,ua,e.s,e'.s]⟩
 ·have e:=ih x hs h3 y h
  obtain ⟨_,a2,a1⟩:=ib h1 h2 x
  obtain ⟨_,b2,b1⟩:=ib h1 h2 y
  exact ⟨by rw[a1,b1,e.tk],by rw[a2,b2,e.op],by rw[l9 h1 h2,l9 h1 h2,e.s]⟩
theorem zr {fn:Bs}:∀ {ks ls:List Nd},aA ks≤N→nu fn ks=true→bI ks ls→∀ f,jy fn f ks=jy fn f ls∧ze fn ks=ze fn ls∧sA fn f ks=sA fn f ls
 | [],ls,hs,ho,h,f=>by
   obtain rfl:=h.iE
   exact ⟨rfl,rfl,rfl⟩
 | x :: r,ls,hs,ho,h,f=>by
   obtain ⟨y,s,rfl,h1,h2⟩:=h.eF
   simp only[aA] at hs
   rw[nu,ae5] at ho
   obtain ⟨a1,a2,a3⟩:=LB ih (by omega) ho.1 h1
   obtain ⟨b1,b2,b3⟩:=zr (ks:=r) (by omega) ho.2 h2 false
   exact ⟨by rw[sF,sF,a1,b1],by rw[ze,ze,a2,b2],by rw[AO,AO,a3,b3]⟩
end
theorem CY:∀ (N:Nat) (x:Nd),aq x≤N→okB x=true→∀ y,cU x y→Pk x y
 | 0,x,h,_,_,_=>by cases x; simp only[aq] at h; omega
 | N + 1,x,hs,ho,y,h=>by
   have ih:=CY N
   have kE:=h.lv
   obtain ⟨k',t',n',p',iK⟩:=y
   cases kp ho with
   | @bin k n p t a b o lv l r hb ht hn ha yj=>
     obtain ⟨rfl,rfl,rfl,hl⟩:=h.inv
     obtain ⟨a',s,rfl,h1,h2⟩:=hl.eF
     obtain ⟨b',s,rfl,h3,h4⟩:=h2.eF
     obtain rfl:=h4.iE
     simp only[aq,aA] at hs
     have e:=ih a (by omega) ha a' h1
     have e':=ih b (by omega) yj b' h3
     exact ⟨by rw[jJ hb,jJ hb,e.bW,e'.bW],by rw[pd hb,pd hb,e.fE,e'.fE],by rw[jt hb,jt hb,e.iU,e'.iU],kE⟩
   | @cond n p t a b c ht hn ha hb hc=>
     obtain ⟨rfl,rfl,rfl,hl⟩:=h.inv
     obtain ⟨a',s,rfl,h1,h2⟩:=hl.eF
     obtain ⟨b',s,rfl,h3,h4⟩:=h2.eF
     obtain ⟨c',s,rfl,h5,h6⟩:=h4.eF
     obtain rfl:=h6.iE
     simp only[aq,aA] at hs
     have e1:=ih a (by omega) ha a' h1
     have e2:=ih b (by omega) hb b' h3
     have e3:=ih c (by omega) hc c' h5
     exact ⟨by rw[oa,oa,e1.tk,e2.tk,e3.tk],by rw[xm,xm,e1.op,e2.op,e3.op],by rw[xB,xB,e1.s,e2.s,e3.s],kE⟩
   | @not n p t a ht hn ha=>
     obtain ⟨rfl,rfl,rfl,hl⟩:=h.inv
     obtain ⟨a',s,rfl,h1,h2⟩:=hl.eF
     obtain rfl:=h2.iE
     simp only[aq,aA] at hs
     have e:=ih a (by omega) ha a' h1
     exact ⟨by rw[kU,kU,e.bW],by rw[rZ,rZ,e.fE],by rw[qE,qE,e.iU],kE⟩
   | @field n p t a ht hn ha=>
     obtain ⟨rfl,rfl,rfl,hl⟩:=h.inv
     obtain ⟨a',s,rfl,h1,h2⟩:=hl.eF
     obtain rfl:=h2.iE
     simp only[aq,aA] at hs
     have e:=ih a (by omega) ha a' h1
     exact ⟨by rw[hU,hU,e.bW],by rw[lV,lV,e.fE],by rw[l5,l5,e.iU],kE⟩
   | @index n p t a b ht hn ha hb=>
     obtain ⟨rfl,rfl,rfl,hl⟩:=h.inv
     obtain ⟨a',s,rfl,h1,h2⟩:=hl.eF
     obtain ⟨b',s,rfl,h3,h4⟩:=h2.eF
     obtain rfl:=h4.iE
     simp only[aq,aA] at hs
     have e:=ih a (by omega) ha a' h1
     have e':=ih b (by omega) hb b' h3
     exact ⟨by rw[hX,hX,e.bW,e'.tk],by rw[lW,lW,e.fE,e'.op],by rw[l6,l6,e.iU,e'.s],kE⟩
   | int ht h1 h2=>
     obtain ⟨rfl,rfl,rfl,hl⟩:=h.inv
     obtain rfl:=hl.iE
     exact ⟨by rw[jK,jK],by rw[iC (.inl rfl),iC (.inl rfl)],by rw[qF,qF],kE⟩
   | quote ht hn=>
     obtain ⟨rfl,rfl,rfl,hl⟩:=h.inv
     obtain rfl:=hl.iE
     exact ⟨by rw[ia,ia],by rw[iC (.inr (.inl rfl)),iC (.inr (.inl rfl))],by rw[l8,l8],kE⟩
   | name ht hn=>
     obtain ⟨rfl,rfl,rfl,hl⟩:=h.inv
     obtain rfl:=hl.iE
     exact ⟨by rw[jg,jg],by rw[iC (.inr (.inr rfl)),iC (.inr (.inr rfl))],by rw[eu,eu],kE⟩
   | @call n p t ks ht hn hk=>
     obtain ⟨rfl,rfl,rfl,hl⟩:=h.inv
     simp only[aq] at hs
     obtain ⟨a1,a2,a3⟩:=zr ih (by omega) hk hl true
     exact ⟨by rw[jh,jh,a1],by rw[od,od,a2],by rw[pB,pB,a3],kE⟩
   | @word k n p t w hw hb ht hn=>
     obtain ⟨rfl,rfl,rfl,hl⟩:=h.inv
     obtain rfl:=hl.iE
     exact ⟨by rw[ji hw,ji hw],by rw[mb hw,mb hw],by rw[gO hw,gO hw],kE⟩
theorem cU.sm {x y:Nd} (h:cU x y) (ho:okB x=true):Pk x y:=CY _ x (afJ _) ho y h
theorem cU.text {x y:Nd} (h:cU x y):ak x=ak y∧numOf x=numOf y∧kindOf x=kindOf y∧bI (aL x) (aL y):=by
 obtain ⟨k,t,n,p,ks⟩:=x
 obtain ⟨k',t',n',p',iK⟩:=y
 obtain ⟨rfl,rfl,rfl,hl⟩:=h.inv
 exact ⟨rfl,rfl,rfl,hl⟩
theorem vL:∀ {ks ls:List Nd},bI ks ls→∀ f,lk f ks=lk f ls
 | [],ls,h,f=>by rw[h.iE]
 | x :: r,ls,h,f=>by
   obtain ⟨y,s,rfl,h1,h2⟩:=h.eF
   rw[lk,lk,h1.text.1,vL h2 false]
theorem CZ {ks ls:List Nd} (h:bI ks ls):ks.isEmpty=ls.isEmpty:=by
 cases ks with
 | nil=>rw[h.iE]
 | cons x r=>
   obtain ⟨y,s,rfl,h1,h2⟩:=h.eF
   rfl
theorem uf {ks ls:List Nd} (h:bI ks ls):iB ks=iB ls:=by
 unfold iB
 rw[CZ h,vL h true]
theorem zt:∀ {ks ls:List Nd},bI ks ls→bI (aP ks) (aP ls)∧bI (bt ks) (bt ls)
 | [],ls,h=>by rw[h.iE]; exact ⟨bI.nil,bI.nil⟩
 | x :: r,ls,h=>by
   obtain ⟨y,s,rfl,h1,h2⟩:=h.eF
   have e:=h1.text.2.2.1
   obtain ⟨i1,i2⟩:=zt h2
   unfold aP bt at *
   rw[ahr,ahr,ahz,ahz,e]
   by_cases hk:kindOf y=47
   ·rw[if_pos (by simpa using hk),if_pos (by simpa using hk),if_pos (by simpa using hk),if_pos (by simpa using hk)]
    exact ⟨bI.cons h1 i1,i2⟩
   ·rw[if_neg (by simpa using hk),if_neg (by simpa using hk),if_neg (by simpa using hk),if_neg (by simpa using hk)]
    exact ⟨bI.nil,h⟩
theorem EU {k n p:Int} {t:Bs} (ps:List Nd) (q:Nd):sR (.mk k t n p (ps ++ [q]))=59 :: 32 :: (lk true ps ++ ((if ps.isEmpty then [] else [32]) ++ 61 :: 62 :: 32 :: 39 :: (ak q ++ [39]))):=by
 unfold sR
 have e1:(aL (.mk k t n p (ps ++ [q]))).dropLast=ps:=by show (ps ++ [q]).dropLast=ps; rw[aio]
 have e2:((aL (.mk k t n p (ps ++ [q]))).getLast?.map ak).getD []=ak q:=by
  show (((ps ++ [q]).getLast?).map ak).getD []=_
  rw[List.getLast?_append]; rfl
 rw[e1,e2]
theorem AP {x:Nd} (h:jQ x=true):∃ p ps q,x= .mk 20 [] 0 p (ps ++ [q])∧ps.all dQ=true∧dQ q=true:=by
 obtain ⟨k,t,n,p,ks⟩:=x
 unfold jQ lj at h
 simp only[ae5,decide_eq_true_eq,afo] at h
 obtain ⟨⟨⟨a1,a2,a3⟩,h1⟩,h2⟩:=h
 obtain rfl:k=20:=a1
 obtain rfl:t=[]:=a2
 obtain rfl:n=0:=a3
 change ks.isEmpty=false at h1
 change ks.all dQ=true at h2
 have hn:ks≠[]:=by intro e; subst e; cases h1
 have e:=(aiq hn).symm
 rw[e,aid,ae5] at h2
 refine ⟨p,ks.dropLast,ks.getLast hn,by rw[← e],h2.1,?_⟩
 have:=h2.2
 rw[afb,ae5] at this
 exact this.1
theorem HU {x y:Nd} (ho:jQ x=true) (h:cU x y):sR x=sR y:=by
 obtain ⟨p,ps,q,rfl,_,_⟩:=AP ho
 obtain ⟨k',t',n',p',iK⟩:=y
 obtain ⟨rfl,rfl,rfl,hl⟩:=h.inv
 obtain ⟨a,b,rfl,h1,h2⟩:=hl.UW
 obtain ⟨q',s,rfl,h3,h4⟩:=h2.eF
 obtain rfl:=h4.iE
 rw[EU,EU,vL h1 true,CZ h1,h3.text.1]
theorem xE:∀ {ks ls:List Nd},ks.all jQ=true→bI ks ls→vk ks=vk ls
 | [],ls,_,h=>by rw[h.iE]
 | x :: r,ls,ho,h=>by
   obtain ⟨y,s,rfl,h1,h2⟩:=h.eF
   rw[afb,ae5] at ho
   rw[vk,vk,HU ho.1 h1,xE ho.2 h2]
theorem sH {x:Nd}:∀ {ks:List Nd},x ∈ ks→aq x≤aA ks
 | y :: r,h=>by
   rcases afa.1 h with rfl | h
   ·simp only[aA]; omega
   ·have:=sH h
    simp only[aA]; omega
structure SmL (x y:Nd):Prop where
 op:gM x=gM y
 s:sL x=sL y
theorem bX {k n p:Int} {t:Bs} {ks:List Nd} (hk:k≠14∧k≠15∧k≠16):gM (.mk k t n p ks)=0:=by
 rw[gM.eq_def]; simp only[hk.1,hk.2.1,hk.2.2,if_false]
theorem sI (f:Bool) (a:Nd) (r:List Nd):ti f (a :: r)=(if f then [] else [44,32]) ++ (sM a ++ ti false r):=by rw[ti]
section
variable {N:Nat} (ih:∀ x,aq x≤N→cV x=true→∀ y,cU x y→SmL x y)
include ih
theorem LC {x y:Nd} (hs:aq x≤N) (ho:uQ x=true) (h:cU x y):Ls x=Ls y∧sM x=sM y:=by
 obtain ⟨t,p,z,rfl,h1,h2⟩:=sr ho
 obtain ⟨k',t',n',p',iK⟩:=y
 obtain ⟨rfl,rfl,rfl,hl⟩:=h.inv
 obtain ⟨b,s,rfl,h3,h4⟩:=hl.eF
 obtain rfl:=h4.iE
 simp only[aq,aA] at hs
 have e:=ih z (by omega) h2 b h3
 exact ⟨by rw[xr,xr,e.op],by rw[xD,xD,e.s]⟩
theorem zu:∀ {ks ls:List Nd},aA ks≤N→fb ks=true→bI ks ls→∀ f,nx ks=nx ls∧ti f ks=ti f ls
 | [],ls,hs,ho,h,f=>by
   obtain rfl:=h.iE
   exact ⟨rfl,rfl⟩
 | x :: r,ls,hs,ho,h,f=>by
   obtain ⟨y,s,rfl,h1,h2⟩:=h.eF
   simp only[aA] at hs
   rw[fb,ae5] at ho
   obtain ⟨a1,a2⟩:=LC ih (by omega) ho.1 h1
   obtain ⟨b1,b2⟩:=zu (ks:=r) (by omega) ho.2 h2 false
   exact ⟨by rw[nx,nx,a1,b1],by rw[sI,sI,a2,b2]⟩
end
theorem zv:∀ (N:Nat) (x:Nd),aq x≤N→cV x=true→∀ y,cU x y→SmL x y
 | 0,x,h,_,_,_=>by cases x; simp only[aq] at h; omega
 | N + 1,x,hs,ho,y,h=>by
   have ih:=zv N
   obtain ⟨k',t',n',p',iK⟩:=y
   cases ic ho with
   | named ht hn=>
     obtain ⟨rfl,rfl,rfl,hl⟩:=h.inv
     exact ⟨by rw[bX (by decide),bX (by decide)],by rw[ma,ma]⟩
   | flag ht hn=>
     obtain ⟨rfl,rfl,rfl,hl⟩:=h.inv
     exact ⟨by rw[bX (by decide),bX (by decide)],by rw[pC,pC]⟩
   | register ht hn=>
     obtain ⟨rfl,rfl,rfl,hl⟩:=h.inv
     exact ⟨by rw[bX (by decide),bX (by decide)],by rw[ie,ie]⟩
   | set ht hn hk=>
     obtain ⟨rfl,rfl,rfl,hl⟩:=h.inv
     exact ⟨by rw[bX (by decide),bX (by decide)],by rw[ov,ov,uf hl]⟩
   | flat ht hn hk=>
     obtain ⟨rfl,rfl,rfl,hl⟩:=h.inv
     exact ⟨by rw[bX (by decide),bX (by decide)],by rw[mR,mR,uf hl]⟩
   | @map n p t ks x ht hn hk hx=>
     obtain ⟨rfl,rfl,rfl,hl⟩:=h.inv
     obtain ⟨a,b,rfl,h1,h2⟩:=hl.UW
     obtain ⟨q',s,rfl,h3,h4⟩:=h2.eF
     obtain rfl:=h4.iE
     have hsx:aq x≤N:=by
      have:=sH (x:=x) (ks:=ks ++ [x]) (by simp)
      simp only[aq] at hs
      omega
     have e:=ih x hsx hx q' h3
     exact ⟨by rw[sk,sk,e.op],by rw[ub,ub,uf h1,e.s]⟩
   | @max n p t a b ht hn ha hb=>
     obtain ⟨rfl,rfl,rfl,hl⟩:=h.inv
     obtain ⟨a',s,rfl,h1,h2⟩:=hl.eF
     obtain ⟨b',s,rfl,h3,h4⟩:=h2.eF
     obtain rfl:=h4.iE
     exact ⟨by rw[bX (by decide),bX (by decide)],by rw[uc,uc,h1.text.2.1,h3.text.2.1]⟩
   | @min n p t a b ht hn ha hb=>
     obtain ⟨rfl,rfl,rfl,hl⟩:=h.inv
     obtain ⟨a',s,rfl,h1,h2⟩:=hl.eF
     obtain ⟨b',s,rfl,h3,h4⟩:=h2.eF
     obtain rfl:=h4.iE
     exact ⟨by rw[bX (by decide),bX (by decide)],by rw[ud,ud,h1.text.2.1,h3.text.2.1]⟩
   | @lex n p t a b ht hn ha hb=>
     obtain ⟨rfl,rfl,rfl,hl⟩:=h.inv
     obtain ⟨a',s,rfl,h1,h2⟩:=hl.eF
     obtain ⟨b',s,rfl,h3,h4⟩:=h2.eF
     obtain rfl:=h4.iE
     simp only[aq,aA] at hs
     have e:=ih a (by omega) ha a' h1
     have e':=ih b (by omega) hb b' h3
     exact ⟨by rw[so,so,e.op,e'.op],by rw[ue,ue,e.s,e'.s]⟩
   | @prod n p t a ks ht hn ha hk=>
     obtain ⟨rfl,rfl,rfl,hl⟩:=h.inv
     simp only[aq] at hs
     have hm:fb (a :: ks)=true:=by rw[fb,ha,hk]; rfl
     obtain ⟨a1,a2⟩:=zu ih (by omega) hm hl true
     exact ⟨by rw[om,om,a1],by rw[pD,pD,a2]⟩
   | @closed n p t ks ht hn h1 h2=>
     obtain ⟨rfl,rfl,rfl,hl⟩:=h.inv
     obtain ⟨q1,q2⟩:=zt hl
     exact ⟨by rw[bX (by decide),bX (by decide)],by rw[jT,jT,vL q1 true,xE h2 q2]⟩
theorem cU.smL {x y:Nd} (h:cU x y) (ho:cV x=true):SmL x y:=zv _ x (afJ _) ho y h
theorem LD (f:Bool) (a:Nd) (r:List Nd):pQ f (a :: r)=(if f then [] else [44,32]) ++ (Ds a ++ pQ false r):=by rw[pQ]
def jo (f:UInt8→Nat):Bs→Nat
 | []=>0
 | c :: r=>f c + jo f r
theorem bE (f:UInt8→Nat):jo f []=0:=rfl
theorem aR (f:UInt8→Nat) (c:UInt8) (r:Bs):jo f (c :: r)=f c + jo f r:=rfl
theorem bw (f:UInt8→Nat):∀ a b:Bs,jo f (a ++ b)=jo f a + jo f b
 | [],b=>by simp[jo]
 | c :: r,b=>by
   rw[ahm,aR,aR,bw f r b]; omega
theorem pE:∀ s:Bs,jo (fun _=>1) s=s.length
 | []=>rfl
 | c :: r=>by rw[aR,pE r,afK]; omega
theorem C0 (f:UInt8→Nat) (s:Bs) (q:Nat):jo f s=jo f (s.take q) + jo f (s.drop q):=by
 rw[← bw,ahK]
theorem C1 (f:UInt8→Nat) (w:Tk→Nat) (c:Nat) (h:∀ t,lp t=true→t.kind≠6→w t≤c * jo f (fM t)) (h6:∀ t:Tk,t.kind=6→w t=0) {e:Nat}:∀ (T:List Tk) (s:Bs) (o:Nat),tT e s o T→cost w T≤c * jo f s
 | [],s,o,hc=>by rw[tT] at hc; exact hc.elim
 | t :: r,s,o,hc=>by
   rw[tT] at hc
   rcases hc with ⟨rfl,h1,_⟩ | ⟨h1,h2,q,h3,_,_,h4,h5⟩
   ·rw[cost,cost,h6 t (by rw[h1])]; omega
   ·have i:=C1 f w c h h6 r _ _ h5
    have j:=h t h1 h2
    have e1:=C0 f s q
    have e2:=C0 f (s.drop q) (fM t).length
    rw[h4,List.drop_drop] at e2
    rw[cost]
    have e3:c * jo f s=c * jo f (s.take q) + (c * jo f (fM t) + c * jo f (s.drop (q + (fM t).length))):=by
     rw[e1,e2,Nat.mul_add,Nat.mul_add]
    omega
theorem UX (f:UInt8→Nat) (w:Tk→Nat) (c:Nat) (h:∀ t,lp t=true→t.kind≠6→w t≤c * jo f (fM t)) (h6:∀ t:Tk,t.kind=6→w t=0) {s:Bs} {T:List Tk} (hl:jb s= .ok T):cost w T≤c * jo f s:=by
 unfold jb at hl
 split at hl
 ·cases hl
 ·unfold Ae at hl
  rw[aic] at hl
  exact C1 f w c h h6 T s 0 (qA _ _ _ _ (Nat.lt_succ_self _) hl)
def Wgt (f:UInt8→Nat) (w:Tk→Nat):Prop:=∀ t,lp t=true→t.kind≠6→jo f (fM t) + 2 * f 32≤w t
section
variable {f:UInt8→Nat} {w:Tk→Nat} (hw:Wgt f w)
include hw
theorem gH {s:Bs} (h:ve s=true):jo f s + 2 * f 32≤w (bh s):=hw (bh s) h (show (2:Int)≠6 by decide)
theorem ng {s:Bs} (h:aT s=true):jo f s + 2 * f 32≤w (dS s):=hw (dS s) h (show (1:Int)≠6 by decide)
theorem LF {s:Bs} (h:bM s=true):f 39 + (jo f s + f 39) + 2 * f 32≤w (oZ s):=by
 have e:=hw (oZ s) h (show (4:Int)≠6 by decide)
 have e1:fM (oZ s)=39 :: (s ++ [39]):=rfl
 rw[e1,aR,bw,aR,bE] at e
 omega
theorem Ro {s:Bs} (h:cj s=true):jo f s + 2 * f 32≤w (aM s):=hw (aM s) h (show (5:Int)≠6 by decide)
theorem eY {c:UInt8} (h:cj [c]=true):f c + 2 * f 32≤w (aM [c]):=by
 have:=Ro hw h
 rw[aR,bE] at this
 omega
theorem C2:f 40 + 2 * f 32≤w eK:=eY hw (by decide)
theorem C3:f 41 + 2 * f 32≤w cR:=eY hw (by decide)
theorem Rp {n:Int} (h0:0≤n) (h1:n≤1000000000000000):jo f (ah4 n) + 2 * f 32≤w (vD n):=by
 refine hw (vD n) ?_ (show (3:Int)≠6 by decide)
 show ((decide ((3:Int)=3) || decide (n=0)) && (decide (([]:Bs)=[]) && (decide (0≤n) && decide (n≤1000000000000000))))=true
 simp[h0,h1]
theorem xF {n:Int} (h0:-1000000000000000≤n) (h1:n≤1000000000000000):jo f (ah4 n) + 2 * f 32≤cost w (dc n):=by
 unfold dc
 by_cases hn:n < 0
 ·rw[if_pos hn,cost,cost,cost]
  have e1:ah4 n=45 :: ah4 (-n):=by
   unfold ah4
   rw[if_pos hn,if_neg (by omega)]
   congr 2; omega
  rw[e1,aR]
  have:=Rp hw (n:=-n) (by omega) (by omega)
  have:=eY hw (c:=45) (by decide)
  omega
 ·rw[if_neg hn,cost,cost]
  have:=Rp hw (n:=n) (by omega) h1
  omega
theorem abf {t:Bs} (h:t ∈ aZ):jo f t + 2 * f 32≤w (bh t):=by
 have:∀ g ∈ aZ,ve g=true:=by decide
 exact gH hw (this t h)
theorem UY {k:Int} {o:Tk} {lv l r:Nat} (h:eH k=some (o,lv,l,r)):jo f (fM o) + 2 * f 32≤w o:=hw o (n9 h).po.1 (n9 h).po.2
theorem Pl {b:Bool} {s:Bs} {T:List Tk} (h:jo f s≤cost w T):jo f (ou b s)≤cost w (kT b T):=by
 cases b with
 | false=>exact h
 | true=>
   show jo f (40 :: (s ++ [41]))≤cost w (eK :: (T ++ [cR]))
   rw[aR,bw,aR,bE,cost,aG,cost,cost]
   have:=C2 hw
   have:=C3 hw
   omega
section
variable {N:Nat} (ih:∀ x,aq x≤N→okB x=true→jo f (sB x)≤cost w (cp x))
include ih
theorem UZ {fn:Bs} {x:Nd} (hs:aq x≤N) (ho:lU fn x=true):jo f (sG fn x)≤cost w (qT fn x):=by
 have hc:=eY hw (c:=58) (by decide)
 rcases jS ho with ⟨rfl,t,p,z,rfl,ht,hz⟩ | ⟨rfl,p,z,z',rfl,hz,Ir⟩ | ⟨h1,h2,h3⟩
 ·simp only[aq,aA] at hs
  have e:=ih z (by omega) hz
  have hn:=ng hw ht
  rw[pk.1,tZ,bw,aR,aR,cost,cost]
  omega
 ·simp only[aq,aA] at hs
  have e:=ih z (by omega) hz
  have e':=ih z' (by omega) Ir
  rw[pn.1,ua,bw,aR,aR,aG,cost]
  omega
 ·have e:=ih x hs h3
  rw[(ib h1 h2 x).2.2,l9 h1 h2]
  exact e
theorem Gl {fn:Bs}:∀ {ks:List Nd},aA ks≤N→nu fn ks=true→∀ b,jo f (sA fn b ks)≤cost w (jy fn b ks)
 | [],hs,ho,b=>by rw[sA,bE]; exact ahn _
 | x :: r,hs,ho,b=>by
   simp only[aA] at hs
   rw[nu,ae5] at ho
   have a:=UZ hw ih (by omega) ho.1
   have i:=Gl (ks:=r) (by omega) ho.2 false
   have hc:=eY hw (c:=44) (by decide)
   rw[AO,sF,bw,bw,aG,aG]
   cases b with
   | true=>simp only[if_true,bE,cost]; omega
   | false=>
     simp only[ae6,if_false,aR,bE,cost]; omega
end
theorem LG:∀ (N:Nat) (x:Nd),aq x≤N→okB x=true→jo f (sB x)≤cost w (cp x)
 | 0,x,h,_=>by cases x; simp only[aq] at h; omega
 | N + 1,x,hs,ho=>by
   have ih:=LG N
   have at_:∀ a,aq a≤N→okB a=true→∀ q,jo f (iU a q)≤cost w (bW a q):=fun a h1 h2 q=>Pl hw (ih a h1 h2)
   cases kp ho with
   | @bin k n p t a b o lv l r hb ht hn ha yj=>
     simp only[aq,aA] at hs
     have e:=at_ a (by omega) ha l
     have e':=at_ b (by omega) yj r
     have eo:=UY hw hb
     rw[jJ hb,jt hb,bw,aR,bw,aR,aG,cost]
     omega
   | @cond n p t a b c ht hn ha hb hc=>
     simp only[aq,aA] at hs
     have e1:=ih a (by omega) ha
     have e2:=ih b (by omega) hb
     have e3:=ih c (by omega) hc
     have k1:=gH hw (s:=[105,102]) (by decide)
     have k2:=gH hw (s:=[116,104,101,110]) (by decide)
     have k3:=gH hw (s:=[101,108,115,101]) (by decide)
     rw[oa,xB]
     simp only[bw,aR,aG,cost,bE] at k1 k2 k3 ⊢
     omega
   | @not n p t a ht hn ha=>
     simp only[aq,aA] at hs
     have e:=at_ a (by omega) ha 3
     have k1:=gH hw (s:=[110,111,116]) (by decide)
     rw[kU,qE]
     simp only[bw,aR,aG,cost,bE] at k1 ⊢
     omega
   | @field n p t a ht hn ha=>
     simp only[aq,aA] at hs
     have e:=at_ a (by omega) ha 7
     have k1:=eY hw (c:=46) (by decide)
     have k2:=ng hw ht
     rw[hU,l5]
     simp only[bw,aR,aG,cost,bE] at k1 ⊢
     omega
   | @index n p t a b ht hn ha hb=>
     simp only[aq,aA] at hs
     have e:=at_ a (by omega) ha 7
     have e':=ih b (by omega) hb
     have k1:=eY hw (c:=91) (by decide)
     have k2:=eY hw (c:=93) (by decide)
     rw[hX,l6]
     simp only[bw,aR,aG,cost,bE] at k1 ⊢
     omega
   | int ht h1 h2=>
     have:=xF hw h1 h2
     rw[jK,qF]
     omega
   | quote ht hn=>
     have:=LF hw ht
     rw[ia,l8]
     simp only[bw,aR,aG,cost,bE]
     omega
   | name ht hn=>
     have:=ng hw ht
     rw[jg,eu,cost,cost]
     omega
   | @call n p t ks ht hn hk=>
     simp only[aq] at hs
     have e:=Gl hw ih (by omega) hk true
     have k1:=abf hw ht
     have k2:=C2 hw
     have k3:=C3 hw
     rw[jh,pB]
     simp only[bw,aR,aG,cost,bE]
     omega
   | @word k n p t s iF hb ht hn=>
     have hk:ve s=true:=by
      unfold dx at iF
      repeat' split at iF
      all_goals first
       | (cases iF; done)
       | (cases iF; decide)
     have:=gH hw hk
     rw[ji iF,gO iF,cost,cost]
     omega
theorem AQ {x:Nd} (ho:okB x=true):jo f (sB x)≤cost w (cp x):=LG hw _ x (afJ _) ho
theorem Gm:∀ {qs:List Nd} (b:Bool),qs.all dQ=true→jo f (lk b qs)≤cost w (cG b qs)
 | [],b,_=>by rw[lk,bE]; exact ahn _
 | q :: r,b,ho=>by
   rw[afb,ae5] at ho
   obtain ⟨t,p,rfl,ht⟩:=gN ho.1
   have i:=Gm (qs:=r) false ho.2
   have h1:=LF hw ht
   have hc:=eY hw (c:=44) (by decide)
   rw[lk,cG]
   have e:ak (.mk 47 t 0 p [])=t:=rfl
   rw[e]
   cases b with
   | true=>simp only[if_true,bw,aR,bE,cost,aG]; omega
   | false=>simp only[ae6,if_false,bw,aR,bE,cost,aG]; omega
theorem xG {qs:List Nd} (ho:qs.all dQ=true):jo f (iB qs)≤cost w (dN qs):=by
 unfold iB dN
 split
 ·exact ahn _
 ·have i:=Gm hw true ho
  have k2:=C2 hw
  have k3:=C3 hw
  simp only[bw,aR,bE,cost,aG]; omega
theorem Pm {x:Nd} (ho:jQ x=true):jo f (sR x)≤cost w (yG x):=by
 obtain ⟨p,ps,q,rfl,h1,h2⟩:=AP ho
 obtain ⟨t,p',rfl,ht⟩:=gN h2
 have i:=Gm hw true h1
 have hq:=LF hw ht
 have k1:=eY hw (c:=59) (by decide)
 have k2:=Ro hw (s:=[61,62]) (by decide)
 have e:yG (.mk 20 [] 0 p (ps ++ [.mk 47 t 0 p' []]))=aM [59] :: (cG true ps ++ [aM [61,62],oZ t]):=by
  unfold yG
  have e1:(aL (.mk 20 [] 0 p (ps ++ [.mk 47 t 0 p' []]))).dropLast=ps:=by show (ps ++ [_]).dropLast=ps; rw[aio]
  have e2:((aL (.mk 20 [] 0 p (ps ++ [.mk 47 t 0 p' []]))).getLast?.map ak).getD []=t:=by
   show (((ps ++ [_]).getLast?).map ak).getD []=_
   rw[List.getLast?_append]; rfl
  rw[e1,e2]
 rw[EU,e]
 have e3:ak (.mk 47 t 0 p' [])=t:=rfl
 rw[e3]
 have e4:jo f (if ps.isEmpty then [] else [32])≤f 32:=by
  split
  ·exact ahn _
  ·rw[aR,bE]; omega
 simp only[bw,aR,bE,cost,aG] at k2 ⊢; omega
theorem C4:∀ {rs:List Nd},rs.all jQ=true→jo f (vk rs)≤cost w (fF rs)
 | [],_=>ahn _
 | x :: r,ho=>by
   rw[afb,ae5] at ho
   have h1:=Pm hw ho.1
   have h2:=C4 (rs:=r) ho.2
   rw[vk,fF,bw,aG]; omega
section
variable {N:Nat} (ih:∀ x,aq x≤N→cV x=true→jo f (sL x)≤cost w (eC x))
include ih
theorem U0 {x:Nd} (hs:aq x≤N) (ho:uQ x=true):jo f (sM x)≤cost w (zl x):=by
 obtain ⟨t,p,z,rfl,h1,h2⟩:=sr ho
 simp only[aq,aA] at hs
 have e:=ih z (by omega) h2
 have k1:=eY hw (c:=58) (by decide)
 have k2:=ng hw h1
 rw[xD,xq]
 simp only[bw,aR,bE,cost,aG]; omega
theorem Gn:∀ {ks:List Nd},aA ks≤N→fb ks=true→∀ b,jo f (ti b ks)≤cost w (fG b ks)
 | [],hs,ho,b=>by rw[ti,bE]; exact ahn _
 | x :: r,hs,ho,b=>by
   simp only[aA] at hs
   rw[fb,ae5] at ho
   have a:=U0 hw ih (by omega) ho.1
   have i:=Gn (ks:=r) (by omega) ho.2 false
   have hc:=eY hw (c:=44) (by decide)
   rw[sI,fG,bw,bw,aG,aG]
   cases b with
   | true=>simp only[if_true,bE,cost]; omega
   | false=>
     simp only[ae6,if_false,aR,bE,cost]; omega
end
theorem Gp:∀ (N:Nat) (x:Nd),aq x≤N→cV x=true→jo f (sL x)≤cost w (eC x)
 | 0,x,h,_=>by cases x; simp only[aq] at h; omega
 | N + 1,x,hs,ho=>by
   have ih:=Gp N
   have k2:=C2 hw
   have k3:=C3 hw
   have k4:=eY hw (c:=44) (by decide)
   cases ic ho with
   | named ht hn=>
     have:=ng hw ht
     rw[jR,ma,cost,cost]; omega
   | flag ht hn=>
     have:=gH hw (s:=[102,108,97,103]) (by decide)
     rw[lX,pC,cost,cost]; omega
   | register ht hn=>
     have:=gH hw (s:=[114,101,103,105,115,116,101,114]) (by decide)
     rw[gi,ie,cost,cost]; omega
   | set ht hn hk=>
     have:=gH hw (s:=[115,101,116]) (by decide)
     have i:=xG hw hk
     rw[pq,ov,cost,bw]; omega
   | flat ht hn hk=>
     have:=gH hw (s:=[102,108,97,116]) (by decide)
     have i:=xG hw hk
     rw[lY,mR,cost,bw]; omega
   | @map n p t ks x ht hn hk hx=>
     have:=gH hw (s:=[109,97,112]) (by decide)
     have i:=xG hw hk
     have hsx:aq x≤N:=by
      have:=sH (x:=x) (ks:=ks ++ [x]) (by simp)
      simp only[aq] at hs
      omega
     have e:=ih x hsx hx
     rw[pr,ub]
     simp only[bw,aR,bE,cost,aG] at this ⊢; omega
   | @max n p t a b ht hn ha hb=>
     have:=gH hw (s:=[109,97,120]) (by decide)
     obtain ⟨n1,p1,rfl,a1,a2⟩:=gj ha
     obtain ⟨n2,p2,rfl,b1,b2⟩:=gj hb
     have i1:=xF hw a1 a2
     have i2:=xF hw b1 b2
     have e1:numOf (.mk 44 [] n1 p1 [])=n1:=rfl
     have e2:numOf (.mk 44 [] n2 p2 [])=n2:=rfl
     rw[pt,uc,e1,e2]
     simp only[bw,aR,bE,cost,aG] at this ⊢; omega
   | @min n p t a b ht hn ha hb=>
     have:=gH hw (s:=[109,105,110]) (by decide)
     obtain ⟨n1,p1,rfl,a1,a2⟩:=gj ha
     obtain ⟨n2,p2,rfl,b1,b2⟩:=gj hb
     have i1:=xF hw a1 a2
     have i2:=xF hw b1 b2
     have e1:numOf (.mk 44 [] n1 p1 [])=n1:=rfl
     have e2:numOf (.mk 44 [] n2 p2 [])=n2:=rfl
     rw[pv,ud,e1,e2]
     simp only[bw,aR,bE,cost,aG] at this ⊢; omega
   | @lex n p t a b ht hn ha hb=>
     have:=gH hw (s:=[108,101,120]) (by decide)
     simp only[aq,aA] at hs
     have e:=ih a (by omega) ha
     have e':=ih b (by omega) hb
     rw[pw,ue]
     simp only[bw,aR,bE,cost,aG] at this ⊢; omega
   | @prod n p t a ks ht hn ha hk=>
     simp only[aq] at hs
     have hm:fb (a :: ks)=true:=by rw[fb,ha,hk]; rfl
     have i:=Gn hw ih (by omega) hm true
     have k5:=eY hw (c:=123) (by decide)
     have k6:=eY hw (c:=125) (by decide)
     rw[lZ,pD]
     have e:([123]:Bs)=[123]:=rfl
     rw[aR,bw,aR,bE,cost,aG,cost,cost]; omega
   | @closed n p t ks ht hn h1 h2=>
     have:=gH hw (s:=[99,108,111,115,101,100]) (by decide)
     have i1:=Gm hw true h1
     have i2:=C4 hw h2
     rw[iS,jT]
     simp only[bw,aR,bE,cost,aG] at this ⊢; omega
theorem LH {x:Nd} (ho:cV x=true):jo f (sL x)≤cost w (eC x):=Gp hw _ x (afJ _) ho
theorem Gq {n:Int} (h:qD n=true):jo f (cC n) + 2 * f 32≤w (bh (cC n)):=by
 refine gH hw ?_
 unfold cC
 split
 ·decide
 split
 ·decide
 split
 ·decide
 ·decide
theorem LI:∀ {ps:List Nd} (b:Bool),ps.all kI=true→jo f (pQ b ps)≤cost w (dv b ps)
 | [],b,_=>by rw[pQ,bE]; exact ahn _
 | q :: r,b,ho=>by
   rw[afb,ae5] at ho
   obtain ⟨t,n,p,rfl,ht,hn⟩:=vJ ho.1
   have i:=LI (ps:=r) false ho.2
   have h1:=ng hw ht
   have h2:=Gq hw hn
   have h3:=eY hw (c:=58) (by decide)
   have hc:=eY hw (c:=44) (by decide)
   rw[LD,dv]
   have e1:Ds (.mk 6 t n p [])=t ++ 58 :: 32 :: cC n:=rfl
   have e2:l0 (.mk 6 t n p [])=[dS t,aM [58],bh (cC n)]:=rfl
   rw[e1,e2]
   cases b with
   | true=>simp only[if_true,bw,aR,bE,cost,aG]; omega
   | false=>simp only[ae6,if_false,bw,aR,bE,cost,aG]; omega
set_option maxHeartbeats 1000000 in
theorem U1 {x:Nd} (ho:l4 x=true):jo f (sD x)≤cost w (Bh x):=by
 have k2:=C2 hw
 have k3:=C3 hw
 have k4:=eY hw (c:=58) (by decide)
 have k5:=eY hw (c:=61) (by decide)
 have k6:=gH hw (s:=[111,110]) (by decide)
 cases iT ho with
 | Rk ht hy=>
   have h1:=ng hw ht
   have h2:=LH hw hy
   have:=gH hw (s:=[108,97,116,116,105,99,101]) (by decide)
   rw[mM,ER]
   simp only[bw,aR,bE,cost,aG] at this ⊢; omega
 | obj ht hy=>
   have h1:=ng hw ht
   have h2:=LH hw hy
   have:=gH hw (s:=[111,98,106,101,99,116]) (by decide)
   rw[mN,AN]
   simp only[bw,aR,bE,cost,aG] at this ⊢; omega
 | Rm ht hp u3 he=>
   have h1:=ng hw ht
   obtain ⟨t2,p2,rfl,Pn⟩:=mQ u3
   have h2:=ng hw Pn
   have h3:=LI hw true hp
   have h4:=AQ hw he
   have:=gH hw (s:=[117,112,100,97,116,101]) (by decide)
   have e:ak (.mk 48 t2 0 p2 [])=t2:=rfl
   rw[mO,ES,e]
   simp only[bw,aR,bE,cost,aG] at this k6 ⊢; omega
 | Rn ht hp u3 he hn=>
   have h1:=ng hw ht
   obtain ⟨t2,p2,rfl,Pn⟩:=mQ u3
   have h2:=ng hw Pn
   have h3:=LI hw true hp
   have h4:=AQ hw he
   have h5:=Gq hw hn
   have:=gH hw (s:=[113,117,101,114,121]) (by decide)
   have e:ak (.mk 48 t2 0 p2 [])=t2:=rfl
   rw[mP,ET,e]
   generalize bh [113,117,101,114,121]=qk at *
   generalize bh [111,110]=ok' at *
   simp only[bw,aR,bE,cost,aG] at this k6 ⊢; omega
theorem Gr (Bg:f 10≤2 * f 32):∀ {ds:List Nd},(∀ x ∈ ds,l4 x=true)→jo f (sE ds)≤cost w (jj ds)
 | [],_=>ahn _
 | x :: r,ho=>by
   have h1:=U1 hw (ho x (by simp))
   have h2:=Gr Bg (ds:=r) fun y hy=>ho y (by simp[hy])
   have k:=eY hw (c:=59) (by decide)
   rw[sE,jj]
   simp only[bw,aR,bE,cost,aG]; omega
end
def C5 (t:Tk):Nat:=if t.kind=6 then 0 else (fM t).length + 2
theorem LJ {a b:Tk} (h:Ay a b):fM a=fM b:=by
 obtain ⟨h1,h2,h3⟩:=h
 unfold fM
 rw[h1,h2,h3]
theorem vM:Wo C5:=fun a b h=>by
 unfold C5
 rw[LJ h,h.1]
theorem Gs:Wgt (fun _=>1) C5:=fun t _ h6=>by
 unfold C5
 rw[if_neg h6,pE]
 show (fM t).length + 2 * 1≤_
 omega
theorem C6 {s:Bs} {T:List Tk} (h:jb s= .ok T):cost C5 T≤3 * s.length:=by
 have:=UX (fun _=>1) C5 3 (fun t ht h6=>by
  have:=rY ht h6 []
  have hp:=aho.2 this.1
  unfold C5
  rw[if_neg h6,pE]
  omega) (fun t h6=>by unfold C5; rw[if_pos h6]) h
 rw[pE] at this
 exact this
def Po (l:List Tk):Prop:=∀ t ∈ l,lp t=true∧t.kind≠6
theorem Gt.app {A B:List Tk} (hA:Po A) (hB:Gt B):Gt (A ++ B):=by
 obtain ⟨h1,t,h2,h3⟩:=hB
 refine ⟨fun u hu hk=>?_,t,ahu.2 (.inr h2),h3⟩
 rcases ahu.1 hu with q | q
 ·exact (hA u q).1
 ·exact h1 u q hk
theorem EV:Gt [eT]:=⟨fun t ht hk=>by
 obtain rfl:=aib.1 ht
 exact absurd rfl hk,eT,aib.2 rfl,rfl⟩
theorem LL {a b:Tk} (h:Ay a b):lp a=lp b:=by
 obtain ⟨h1,h2,h3⟩:=h
 unfold lp
 rw[h1,h2,h3]
theorem LM:∀ {a b:List Tk},eW false a b=true→∀ t ∈ b,∃ u ∈ a,Ay u t
 | [],[],_,t,ht=>by simp at ht
 | x :: a,y :: b,h,t,ht=>by
   simp only[eW,ae5] at h
   rcases afa.1 ht with rfl | ht
   ·exact ⟨x,by simp,xc.1 h.1⟩
   ·obtain ⟨u,h1,h2⟩:=LM h.2 t ht
    exact ⟨u,by simp[h1],h2⟩
 | [],_ :: _,h,_,_=>by simp[eW] at h
 | _ :: _,[],h,_,_=>by simp[eW] at h
theorem zw:∀ {a b:List Tk} {x y:Tk},eW false (a ++ [x]) (b ++ [y])=true→eW false a b=true
 | [],[],_,_,_=>rfl
 | u :: a,v :: b,x,y,h=>by
   rw[ahm,ahm] at h
   simp only[eW,ae5] at h ⊢
   exact ⟨h.1,zw h.2⟩
 | [],v :: b,x,y,h=>by
   have:=oX h
   simp at this
 | u :: a,[],x,y,h=>by
   have:=oX h
   simp at this
theorem AR {s:Bs} {A:List Tk} (h:Lx s (A ++ [eT])) (hl:s.length≤65536):∃ T,jb s= .ok T∧eW false T (A ++ [eT])=true∧Po A:=by
 obtain ⟨T,h1,h2⟩:=h.jb hl
 obtain ⟨I,rfl,hI⟩:=tU h1
 refine ⟨_,h1,h2,fun t ht=>?_⟩
 obtain ⟨u,q1,q2⟩:=LM (zw h2) t ht
 obtain ⟨p1,p2⟩:=hI u q1
 exact ⟨by rw[← LL q2]; exact p1,by rw[← q2.1]; exact p2⟩
theorem AU {s:Bs} {T:List Tk} (h:jb s= .ok T):Gt T:=by
 obtain ⟨I,e,hI⟩:=tU h
 refine ⟨fun t ht hk=>?_,F5 h⟩
 rw[e] at ht
 rcases ahu.1 ht with q | q
 ·exact (hI t q).1
 ·obtain rfl:=aib.1 q
  exact absurd rfl hk
theorem Pp:xi 0 [eT]:=⟨fun j _ hj=>by
 unfold fE
 have:aY (hd [eT]).text [eT]=false:=rfl
 rw[this,Bool.and_false],fun _=>⟨rfl,rfl⟩⟩
theorem U2 {p:PP Nd} {s:Bs} {T:List Tk} (h:jb s= .ok T):dr p s=mF p T:=by unfold dr; rw[h]
theorem C7 {k:Nat} {ts:List Tk} (he:AF ts):(∀ m r,bV (dW (k + 1)) ts= .ok (m,r)→(∃ o,bV (dW k) ts= .error (6,o))∨∃ m',bV (dW k) ts= .ok (m',r)∧cU m m')∧
 (∀ c o,bV (dW (k + 1)) ts= .error (c,o)→∃ o',bV (dW k) ts= .error (6,o')∨bV (dW k) ts= .error (c,o')):=by
 have hM:Md.Ok ⟨ts,ts,fun _=>True,True,False,False⟩:=⟨fun i _=>.inl (Ay.refl _),fun _ _ _=>.inl trivial,fun i _ hn=>⟨he.ne hn,he.ne hn⟩⟩
 have ho:=KZ hM trivial k _ _ ⟨0,trivial,Nk.zero _,rfl,rfl⟩
 change Ou _ cU (bV (dW (k + 1)) ts) (bV (dW k) ts) at ho
 refine ⟨fun m r h=>?_,fun c o h=>?_⟩
 ·rw[h] at ho
  rcases ho with ⟨_,q⟩ | ⟨q,_⟩ | ⟨m',r',h1,h2,j,h3,h4,h5,h7⟩
  ·exact .inl q
  ·exact q.elim
  ·have h5:r=ts.drop j:=h5
   have h7:r'=ts.drop j:=h7
   exact .inr ⟨m',by rw[h1,h7,h5],h2⟩
 ·rw[h] at ho
  rcases ho with ⟨_,o',q⟩ | ⟨q,_⟩ | ⟨q | ⟨us,KR,h1,h2,h3⟩⟩
  ·exact ⟨o',.inl q⟩
  ·exact q.elim
  ·exact q.elim
  ·exact ⟨_,.inr h3⟩
theorem Pq {ts:List Tk} (he:AF ts) {k:Nat} {m:Nd} {r:List Tk} (h:bV (dW k) ts= .ok (m,r)):∀ j,j≤k→(∃ o,bV (dW j) ts= .error (6,o))∨∃ m',bV (dW j) ts= .ok (m',r)∧cU m m':=by
 have key:∀ d j,j + d=k→(∃ o,bV (dW j) ts= .error (6,o))∨∃ m',bV (dW j) ts= .ok (m',r)∧cU m m':=by
  intro d
  induction d with
  | zero=>intro j hj; obtain rfl:j=k:=hj; exact .inr ⟨m,h,cU.refl m⟩
  | succ d ih=>
    intro j hj
    rcases ih (j + 1) (by omega) with ⟨o,q⟩ | ⟨m',q,hm⟩
    ·obtain ⟨o',q | q⟩:=(C7 he).2 _ _ q
     ·exact .inl ⟨o',q⟩
     ·exact .inl ⟨o',q⟩
    ·rcases (C7 he).1 _ _ q with q | ⟨m2,q,nr⟩
     ·exact .inl q
     ·exact .inr ⟨m2,q,hm.trans nr⟩
 exact fun j hj=>key (k - j) j (by omega)
theorem ug {x:Nd} (ho:okB x=true) {Y:List Tk} (hg:Gt (cp x ++ Y)) (hY:xi 0 Y) :
 (gu x≤64∧∃ x',cU x x'∧aJ (bp 64) (cp x ++ Y)= .ok (x',Y))∨(64 < gu x∧∃ o,aJ (bp 64) (cp x ++ Y)= .error (6,o)):=by
 rcases ae8 64 (gu x) with h | h
 ·obtain ⟨x',e1,e2⟩:=vG ho (afJ _) hY
  rcases K8 hg.2 e2 64 (by omega) with q | ⟨m,q1,q2⟩
  ·exact .inr ⟨h,q⟩
  ·obtain ⟨_,h2,_,_⟩:=si vM hg q1
   have:=((e1.trans q2).sm ho).op
   omega
 ·exact .inl ⟨h,vG ho h hY⟩
theorem xH {x:Nd} (ho:cV x=true) {Y:List Tk} (hg:Gt (eC x ++ Y)) (hY:aY [40] Y=false) :
 (gM x≤64∧∃ x',cU x x'∧bV (dW 64) (eC x ++ Y)= .ok (x',Y))∨(64 < gM x∧∃ o,bV (dW 64) (eC x ++ Y)= .error (6,o)):=by
 rcases ae8 64 (gM x) with h | h
 ·obtain ⟨x',e1,e2⟩:=AK ho (afJ _) hY
  rcases Pq hg.2 e2 64 (by omega) with q | ⟨m,q1,q2⟩
  ·exact .inr ⟨h,q⟩
  ·obtain ⟨_,h2,_,_⟩:=Gf vM hg q1
   have:=((e1.trans q2).smL ho).op
   omega
 ·exact .inl ⟨h,AK ho h hY⟩
theorem LN {x:Nd} (ho:l4 x=true) {Y:List Tk} (hp:Po (Bh x)) (hg:Gt (aM [59] :: Y)) :
 (zm x≤64∧∃ x',cU x x'∧eE (Bh x ++ aM [59] :: Y)= .ok (x',Y))∨(64 < zm x∧∃ o,eE (Bh x ++ aM [59] :: Y)= .error (6,o)):=by
 rcases ae8 64 (zm x) with h | h
 ·refine .inr ⟨h,?_⟩
  cases iT ho with
  | @Rk p t y ht hy=>
    rw[pA (.inl rfl)] at h
    rw[mM] at hp ⊢
    rcases xH hy (Y:=aM [59] :: Y) (Gt.app (fun u hu=>hp u (by simp[hu])) hg) rfl with ⟨q,_⟩ | ⟨_,o,q⟩
    ·omega
    ·have e:eE (bh [108,97,116,116,105,99,101] :: dS t :: aM [61] :: eC y ++ aM [59] :: Y)=bd (aU [61]) (fun _=>bd (gX 64) fun x=>bd (aU [59]) fun _=>ret (Nd.mk 2 t 0 0 [x])) (aM [61] :: (eC y ++ aM [59] :: Y)):=rfl
     exact ⟨o,by rw[e,az (cZ [61] _),fg,bN q]⟩
  | @obj p t y ht hy=>
    rw[pA (.inr rfl)] at h
    rw[mN] at hp ⊢
    rcases xH hy (Y:=aM [59] :: Y) (Gt.app (fun u hu=>hp u (by simp[hu])) hg) rfl with ⟨q,_⟩ | ⟨_,o,q⟩
    ·omega
    ·have e:eE (bh [111,98,106,101,99,116] :: dS t :: aM [58] :: eC y ++ aM [59] :: Y)=bd (aU [58]) (fun _=>bd (gX 64) fun x=>bd (aU [59]) fun _=>ret (Nd.mk 3 t 0 0 [x])) (aM [58] :: (eC y ++ aM [59] :: Y)):=rfl
     exact ⟨o,by rw[e,az (cZ [58] _),fg,bN q]⟩
  | @Rm p t ps o e ht NN u3 he=>
    rw[tY (.inl rfl)] at h
    rw[mO] at hp ⊢
    rcases ug he (Y:=aM [59] :: Y) (Gt.app (fun u hu=>hp u (by simp[hu])) hg) (sC Y) with ⟨q,_⟩ | ⟨_,o6,q⟩
    ·omega
    ·obtain ⟨o',o1,o2⟩:=vK u3 (aM [61] :: (cp e ++ aM [59] :: Y))
     obtain ⟨m,m1,m2⟩:=sw NN (bh [111,110] :: dS (ak o) :: aM [61] :: (cp e ++ aM [59] :: Y))
     have q0:bh [117,112,100,97,116,101] :: dS t :: eK :: (dv true ps ++ cR :: bh [111,110] :: dS (ak o) :: aM [61] :: cp e) ++ aM [59] :: Y=bh [117,112,100,97,116,101] :: dS t :: eK :: (dv true ps ++ cR :: (bh [111,110] :: dS (ak o) :: aM [61] :: (cp e ++ aM [59] :: Y))):=by simp
     rw[q0]
     have ed:∀ Z,eE (bh [117,112,100,97,116,101] :: dS t :: Z)=(bd (aU [40]) fun _=>bd (dY eA) fun ps=>bd (aU [111,110]) fun _=>bd (dn 48) fun o=>
      bd (ret 0) fun n=>bd (aU [61]) fun _=>bd (aJ (bp 64)) fun e=>bd (aU [59]) fun _=>ret (Nd.mk 4 t n 0 (ps ++ [o] ++ [e]))) Z:=fun Z=>rfl
     have er:(ret 0:PP Int) (aM [61] :: (cp e ++ aM [59] :: Y))= .ok (0,aM [61] :: (cp e ++ aM [59] :: Y)):=rfl
     exact ⟨o6,by rw[ed,az (py _),az m2,az (ph _ _),az o2,az er,az (cZ [61] _),bN q]⟩
  | @Rn n p t ps o e ht NN u3 he hn=>
    rw[tY (.inr rfl)] at h
    rw[mP] at hp ⊢
    rcases ug he (Y:=aM [59] :: Y) (Gt.app (fun u hu=>hp u (by simp[hu])) hg) (sC Y) with ⟨q,_⟩ | ⟨_,o6,q⟩
    ·omega
    ·obtain ⟨o',o1,o2⟩:=vK u3 (aM [58] :: bh (cC n) :: aM [61] :: (cp e ++ aM [59] :: Y))
     obtain ⟨m,m1,m2⟩:=sw NN (bh [111,110] :: dS (ak o) :: aM [58] :: bh (cC n) :: aM [61] :: (cp e ++ aM [59] :: Y))
     have q0:bh [113,117,101,114,121] :: dS t :: eK :: (dv true ps ++ cR :: bh [111,110] :: dS (ak o) :: aM [58] :: bh (cC n) :: aM [61] :: cp e) ++ aM [59] :: Y=bh [113,117,101,114,121] :: dS t :: eK :: (dv true ps ++ cR :: (bh [111,110] :: dS (ak o) :: aM [58] :: bh (cC n) :: aM [61] :: (cp e ++ aM [59] :: Y))):=by simp
     rw[q0]
     have ed:∀ Z,eE (bh [113,117,101,114,121] :: dS t :: Z)=(bd (aU [40]) fun _=>bd (dY eA) fun ps=>bd (aU [111,110]) fun _=>bd (dn 48) fun o=>
      bd (bd (aU [58]) fun _=>eV) fun n=>bd (aU [61]) fun _=>bd (aJ (bp 64)) fun e=>bd (aU [59]) fun _=>ret (Nd.mk 5 t n 0 (ps ++ [o] ++ [e]))) Z:=fun Z=>rfl
     have es:(bd (aU [58]) fun _=>eV) (aM [58] :: bh (cC n) :: aM [61] :: (cp e ++ aM [59] :: Y))= .ok (n,aM [61] :: (cp e ++ aM [59] :: Y)):=by
      rw[az (cZ [58] _),AM hn]
     exact ⟨o6,by rw[ed,az (py _),az m2,az (ph _ _),az o2,az es,az (cZ [61] _),bN q]⟩
 ·exact .inl ⟨h,US ho h Y⟩
theorem zx:∀ (ds:List Nd) (f:Nat) (l:List Nd),(∀ x ∈ ds,l4 x=true)→Po (jj ds)→ds.length < f→
 ((∀ x ∈ ds,zm x≤64)∧∃ m,bI ds m∧jd f l (jj ds ++ [eT])= .ok (l ++ m,[eT]))∨((∃ x ∈ ds,64 < zm x)∧∃ o,jd f l (jj ds ++ [eT])= .error (6,o))
 | [],0,l,_,_,h=>by omega
 | [],f + 1,l,_,_,_=>.inl ⟨by simp,[],bI.nil,by rw[jj,ah7]; rfl⟩
 | x :: ds,0,l,_,_,h=>by omega
 | x :: ds,f + 1,l,ho,hp,h=>by
   rw[jj] at hp
   have e:jj (x :: ds) ++ [eT]=Bh x ++ aM [59] :: (jj ds ++ [eT]):=by rw[jj]; simp
   have hg:Gt (aM [59] :: (jj ds ++ [eT])):=Gt.app (A:=aM [59] :: jj ds) (fun u hu=>hp u (ahu.2 (.inr hu))) EV
   rw[e]
   simp only[jd]
   rw[if_neg (HQ (ho x (by simp)) _)]
   rcases LN (ho x (by simp)) (fun u hu=>hp u (ahu.2 (.inl hu))) hg with ⟨h1,x',e1,e2⟩ | ⟨h1,o,e2⟩
   ·rw[az e2]
    rcases zx ds f (l ++ [x']) (fun y hy=>ho y (by simp[hy])) (fun u hu=>hp u (by simp[hu])) (by simpa using h) with ⟨h2,m,e3,e4⟩ | ⟨⟨y,hy,h2⟩,o,e4⟩
    ·refine .inl ⟨fun y hy=>?_,x' :: m,bI.cons e1 e3,by rw[e4]; simp⟩
     rcases afa.1 hy with rfl | hy
     ·exact h1
     ·exact h2 y hy
    ·exact .inr ⟨⟨y,by simp[hy],h2⟩,o,e4⟩
   ·rw[bN e2]
    exact .inr ⟨⟨x,by simp,h1⟩,o,rfl⟩
def EW (c:Prop) (R:Except kc Nd) (x:Nd):Prop:=(c∧∃ x',R= .ok x'∧cU x' x)∨(¬ c∧∃ o,R= .error (6,o))
theorem AV {p:PP Nd} {c:Prop} {s:Bs} {T A:List Tk} {x:Nd} (hp:∀ M:Md,M.Ok→¬ M.kx→Rl M cU p p) (h1:jb s= .ok T) (h2:eW false T (A ++ [eT])=true)
 (h:(c∧∃ x',cU x x'∧p (A ++ [eT])= .ok (x',[eT]))∨(¬ c∧∃ o,p (A ++ [eT])= .error (6,o))):EW c (dr p s) x:=by
 have ht:=HH h2 (F5 h1) hp
 rw[U2 h1]
 rcases h with ⟨hc,x',e1,e2⟩ | ⟨hc,o,e2⟩
 ·have e3:mF p (A ++ [eT])= .ok x':=by
   unfold mF
   rw[e2]; rfl
  rw[e3] at ht
  rcases ht with ⟨n,n',q1,q2,h3⟩ | ⟨c',o,o',_,q2⟩
  ·cases q2
   exact .inl ⟨hc,n,q1,h3.trans e1.symm⟩
  ·cases q2
 ·have e3:mF p (A ++ [eT])= .error (6,o):=by
   unfold mF
   rw[e2]
  rw[e3] at ht
  rcases ht with ⟨n,n',_,q2,_⟩ | ⟨c',o1,o2,q1,q2⟩
  ·cases q2
  ·cases q2
   exact .inr ⟨hc,o1,q1⟩
theorem HV {x:Nd} (ho:okB x=true) (hl:(sB x).length≤65536):EW (gu x≤64) (dr (aJ (bp 64)) (sB x)) x:=by
 obtain ⟨T,h1,h2,hp⟩:=AR (Ph ho) hl
 refine AV K7 h1 h2 ?_
 rcases ug ho (Gt.app hp EV) Pp with h | ⟨h,q⟩
 ·exact .inl h
 ·exact .inr ⟨by omega,q⟩
theorem Pt:∀ M:Md,M.Ok→¬ M.kx→Rl M cU (bV (dW 64)) (bV (dW 64)):=fun M hM _=>vC hM (F1 hM 64).2
theorem LP {x:Nd} (ho:cV x=true) (hl:(sL x).length≤65536):EW (gM x≤64) (dr (bV (dW 64)) (sL x)) x:=by
 obtain ⟨T,h1,h2,hp⟩:=AR (UU ho) hl
 refine AV Pt h1 h2 ?_
 rcases xH ho (Gt.app hp EV) rfl with h | ⟨h,q⟩
 ·exact .inl h
 ·exact .inr ⟨by omega,q⟩
theorem xI:∀ ds:List Nd,ds.length≤(jj ds).length
 | []=>ahn _
 | x :: r=>by
   have:=xI r
   rw[jj]
   simp; omega
theorem HW {ds:List Nd} {p:Int} (ho:∀ x ∈ ds,l4 x=true) (hl:(sE ds).length≤65536):EW (∀ x ∈ ds,zm x≤64) (dr ft (sE ds)) (.mk 1 [] 0 p ds):=by
 obtain ⟨T,h1,h2,hp⟩:=AR (Gk ho) hl
 refine AV K6 h1 h2 ?_
 have hlen:ds.length < (jj ds ++ [eT]).length + 1:=by
  have:=xI ds
  simp; omega
 unfold ft
 rcases zx ds _ [] ho hp hlen with ⟨h,m,e1,e2⟩ | ⟨⟨x,hx,h⟩,o,e2⟩
 ·refine .inl ⟨h,.mk 1 [] 0 0 m,ik rfl rfl rfl e1,?_⟩
  rw[az e2]; rfl
 ·refine .inr ⟨fun q=>?_,o,?_⟩
  ·have:=q x hx; omega
  ·rw[bN e2]
set_option maxHeartbeats 1000000 in
set_option maxRecDepth 100000 in
theorem Pu (q:Nat) (w:World) (h0:w.cell? ⟨q,0,none⟩=some (.pointer (some ⟨q,0,none⟩))) :
 Calls afI 99 #[.pointer (some ⟨q,0,none⟩)] w fun e w'=>e= .returned (.tuple #[])∧w'=w:=by
 have DJ:(afI.info? 43).map (·.size)=some 2:=by kernel_rfl
 obtain ⟨j,hj,_⟩:=afe.1 DJ
 go_enter Tryz.func99,aiJ
 go_wp2
 rw[Lib.run_neq_ptr_same w _ aiB hj]
 go_wp2
 go_end0
 exact ⟨rfl,rfl⟩
set_option maxHeartbeats 1000000 in
set_option maxRecDepth 100000 in
theorem LQ (q:Nat) (w:World) (h0:w.cell? ⟨q,0,none⟩=some (.pointer none)) (VN:w.shape? q=some (45,3)) (hfz:w.frozen? ⟨q,0,none⟩=false) :
 Calls afI 99 #[.pointer (some ⟨q,0,none⟩)] w fun e w'=>e= .returned (.tuple #[])∧w'=w.setCell ⟨q,0,none⟩ (.pointer (some ⟨q,0,none⟩)):=by
 have abg:liesAt afI afI.depth 45 (3 / afI.cellsOf 45) 0 43 1=true:=by kernel_rfl
 have DJ:(afI.info? 43).map (·.size)=some 2:=by kernel_rfl
 obtain ⟨j,hj,hjs⟩:=afe.1 DJ
 go_enter Tryz.func99,aiJ
 go_wp2
 rw[Lib.run_to_unsafe w ⟨q,0,none⟩ aiB aiI hj (by rw[hjs]; decide) VN (Nat.zero_lt_succ 2)]
 simp only[aiG]
 rw[Oper.upon_value]
 go_wp2
 rw[run_callFunc_extern (fn:=Tryz.f116) Tryz.func116 (by kernel_rfl) (by kernel_rfl) (by kernel_rfl) (e:=Extern.AbiNoEscape.same) (by kernel_rfl)]
 rw[Lib.run_noEscape]
 simp only[aiG]
 rw[Oper.upon_value]
 go_wp2
 rw[Lib.run_from_unsafe w ⟨q,0,none⟩ aiI aiB hj VN abg]
 simp only[aiG]
 rw[Oper.upon_value]
 go_wp2
 go_end0
 exact ⟨rfl,rfl⟩
theorem EB:qo afI 41 5 1 1 (.int .u8 0):=⟨Tryz.underlying41,by kernel_rfl,rfl,by decide⟩
structure Pr (H:Heap) (O:List Nat) (q:Nat) (s:Bs) (bad:Bool):Prop where
 ex:∃ av zy g,eg H q 45 [av,zy,.bool bad]∧(av= .pointer none∨av= .pointer (some ⟨q,0,none⟩))∧Own H 5 1 zy s.length (s.map bv) g∧O=q :: g.toList
 Wr:∀ x ∈ O,3≤x
theorem abh {H:Heap} {q:Nat} {av zy:Value} {bad:Bool} (hb:eg H q 45 [av,zy,.bool bad]) (ha:av= .pointer none∨av= .pointer (some ⟨q,0,none⟩)) :
 aE afI 99 #[.pointer (some ⟨q,0,none⟩)] H fun r H'=>eg H' q 45 [.pointer (some ⟨q,0,none⟩),zy,.bool bad]∧Fr [q] H H':=by
 intro w hw
 subst hw
 have c0:w.cell? ⟨q,0,none⟩=some av:=by
  rw[qU,fA,hb.cell]; rfl
 rcases ha with rfl | rfl
 ·have VN:w.shape? q=some (45,3):=by
   have:w.heap[q]?=_:=hb
   simp[aiC,this]
  have hfz:w.frozen? ⟨q,0,none⟩=false:=Lib.frozen_of_heap hb 0
  refine (LQ q w c0 VN hfz).mono fun e w' ⟨he,hw⟩=>?_
  subst he hw
  exact ⟨⟨hb.set 0 _,DO _ _ _ _⟩,⟨rfl,rfl,rfl⟩⟩
 ·refine (Pu q w c0).mono fun e w' ⟨he,hw⟩=>?_
  subst he hw
  exact ⟨⟨hb,Fr.refl _ _⟩,Same.refl _⟩
def Oo (H:Heap) (O O':List Nat):Prop:=∀ x ∈ O',x ∈ O∨H.size≤x
theorem Oo.refl (H:Heap) (O:List Nat):Oo H O O:=fun x hx=>.inl hx
theorem Oo.trans {H H':Heap} {O O1 O2:List Nat} (h:Oo H O O1) (k:Oo H' O1 O2) (hs:H.size≤H'.size):Oo H O O2:=fun x hx=>by
 rcases k x hx with q | q
 ·exact h x q
 ·exact .inr (by omega)
theorem abj {H:Heap} {O:List Nat} {q:Nat} {s t:Bs} {bad:Bool} (hp:Pr H O q s bad) (hl:s.length + t.length≤140737488355328) :
 aE afI 60 #[.pointer (some ⟨q,0,none⟩),sv t] H fun r H'=>∃ O',Pr H' O' q (s ++ t) bad∧Fr O H H'∧Oo H O O':=by
 obtain ⟨av,zy,g,hb,ha,nk,rfl⟩:=hp.ex
 have hgq:∀ b,g=some b→b≠q:=by
  rintro b rfl rfl
  exact nk.ne hb (by decide) (by simp)
 refine af (args:=[_,_]) Tryz.func60 ZQ (ahi rfl) ?_
 simp only[go_sem,c60]
 refine (abh hb ha).mono fun r H1 ⟨mz,bY⟩=>?_
 have abk:Own H1 5 1 zy s.length (s.map bv) g:=nk.fr bY (fun b hb h=>hgq b hb (by simpa using h))
 have k1:ct H1 q 1=some zy:=mz.cell 1
 simp only[go_sem,k1,sv]
 refine vq EB abk (tw.str Tryz.underlying9 t) (by unfold maxLen; omega) (by omega) fun a1 c1 H2 g2 BX cQ vv=>?_
 have tD:=mz.fr cQ (by intro hm; exact hgq q (by simpa using hm) rfl)
 simp only[go_sem]
 refine bL tD (by simp) (by simp[ah3]) fun H3 vu dE _=>?_
 have ad6:∀ b,g2=some b→b≠q:=by
  rintro b rfl rfl
  exact BX.ne tD (by decide) (by simp)
 have abl:=BX.fr dE (fun b hb h=>ad6 b hb (by simpa using h))
 simp only[go_sem]
 have Ws:Oo H (q :: g.toList) (q :: g2.toList):=by
  intro x hx
  rcases afa.1 hx with rfl | hx
  ·exact .inl (by simp)
  ·rcases vv x (by simpa using hx) with h | h
   ·exact .inl (by simp[h])
   ·exact .inr (ah8 bY.size h)
 have Oa:∀ x ∈ q :: g2.toList,3≤x:=fun x hx=>by
  rcases Ws x hx with h | h
  ·exact hp.Wr x h
  ·have h1:=hp.Wr q (by simp)
   have h2:=hb.lt
   omega
 refine ⟨q :: g2.toList,⟨⟨_,_,g2,vu,.inr rfl,?_,rfl⟩,Oa⟩,?_,Ws⟩
 ·have e:(s ++ t).length=s.length + t.length:=ah1
  rw[e,List.map_append]
  exact abl
 ·refine (bY.mono fun b hb=>.inl (by simp at hb; simp[hb])).trans ((cQ.mono fun b hb=>.inl (by simp at hb; simp[hb])).trans (dE.mono fun b hb=>.inl (by simp at hb; simp[hb])))
theorem zz (w:World) (g n:Nat):Fr [g] w.heap (w.freeze ⟨g,0,none⟩ n).heap∧Same w (w.freeze ⟨g,0,none⟩ n):=by
 unfold World.freeze
 split
 ·exact ⟨Fr.refl _ _,Same.refl _⟩
 ·refine ⟨⟨by simp,fun b hb hm=>?_⟩,⟨rfl,rfl,rfl⟩⟩
  simp only[aib] at hm
  have GY:g≠b:=fun h=>hm h.symm
  simp[Array.getElem?_modify,GY]
set_option maxHeartbeats 2000000 in
set_option maxRecDepth 100000 in
theorem LS (q g cap:Nat) (av bv:Value) (cur:Array Value) (l:List UInt8) (w:World) (Pv:w.heap[q]?=some (.cells #[av,.slice (some ⟨g,0,none⟩) l.length cap,bv] 45 (0,0))) (hg:w.heap[g]?=some (.cells cur 5 (0,0)))
 (h0:l≠[]) (hc:l.length≤cap) (z6:cap≤maxLen) (Iu:cur.size=cap * 1) (Bp:∀ j x,l[j]?=some x→w.cell? ((⟨g,0,none⟩:Addr).add j)=some (.int .u8 x.toNat)) :
 Calls afI 50 #[.pointer (some ⟨q,0,none⟩)] w fun e w'=>e= .returned (.string ⟨l.toArray⟩)∧Fr [g] w.heap w'.heap∧Same w w':=by
 have C8:l.length≠0:=by simpa using h0
 have c1:w.drew.cell? ⟨q,1,none⟩=some (.slice (some ⟨g,0,none⟩) l.length cap):=by
  have:w.drew.heap[q]?=some (.cells #[av,.slice (some ⟨g,0,none⟩) l.length cap,bv] 45 (0,0)):=Pv
  rw[ais this]; rfl
 have hSD:(Builtin.unsafeSliceData_ #[41] 102 #[.slice (some ⟨g,0,none⟩) l.length cap]).run afI w.drew= .ok (.pointer (some ⟨g,0,none⟩)) w.drew:=
  aiz _ _ _ _ _ _ (by omega)
 have hUS:(Builtin.unsafeString_ #[102,3] 9 #[.pointer (some ⟨g,0,none⟩),.int .i64 l.length]).run afI w.drew= .ok (.string ⟨l.toArray⟩) (w.drew.freeze ⟨g,0,none⟩ l.length):=by
  refine Lib.run_unsafeString_row w.drew 102 3 9 5 aix (by kernel_rfl) g cur.size (by have QR:w.drew.heap[g]?=some (.cells cur 5 (0,0)):=hg; simp[aiC,QR]) l h0 (by omega) (by unfold maxLen at z6; omega) ?_
  intro j x hx
  exact Bp j x hx
 go_enter aiF,aiE
 go_wp2
 go_region
 all_goals (go_wp2; go_ret; exact ⟨rfl,(zz w.drew g _).1,(show Same w w.drew from ⟨rfl,rfl,rfl⟩).trans (zz w.drew g _).2⟩)
set_option maxHeartbeats 2000000 in
set_option maxRecDepth 100000 in
theorem Px (q:Nat) (av bv:Value) (w:World) (Pv:w.heap[q]?=some (.cells #[av,.slice none 0 0,bv] 45 (0,0))) :
 Calls afI 50 #[.pointer (some ⟨q,0,none⟩)] w fun e w'=>e= .returned (.string ⟨#[]⟩)∧Fr [] w.heap w'.heap∧Same w w':=by
 have hUS:∀ (W:World) (p:Option Addr),(Builtin.unsafeString_ #[102,3] 9 #[.pointer p,.int .i64 0]).run afI W= .ok (.string .empty) W:=fun W p=>aiv W _ _ _ p
 have c1:w.drew.cell? ⟨q,1,none⟩=some (.slice none 0 0):=by
  have:w.drew.heap[q]?=some (.cells #[av,.slice none 0 0,bv] 45 (0,0)):=Pv
  rw[ais this]; rfl
 have hSD:(Builtin.unsafeSliceData_ #[41] 102 #[.slice none 0 0]).run afI w.drew= .ok (.pointer none) w.drew:=rfl
 go_enter aiF,aiE
 go_wp2
 go_region
 all_goals (go_wp2; go_ret; exact ⟨rfl,Fr.refl _ _,⟨rfl,rfl,rfl⟩⟩)
set_option maxHeartbeats 2000000 in
set_option maxRecDepth 100000 in
theorem EX (q g:Nat) (av bv:Value) (cur:Array Value) (w:World) (Pv:w.heap[q]?=some (.cells #[av,.slice (some ⟨g,0,none⟩) 0 0,bv] 45 (0,0))) (hg:w.heap[g]?=some (.cells cur 5 (0,0))) :
 Calls afI 50 #[.pointer (some ⟨q,0,none⟩)] w fun e w'=>e= .returned (.string ⟨#[]⟩)∧Fr [] w.heap w'.heap∧Same w w':=by
 have hUS:∀ (W:World) (p:Option Addr),(Builtin.unsafeString_ #[102,3] 9 #[.pointer p,.int .i64 0]).run afI W= .ok (.string .empty) W:=fun W p=>aiv W _ _ _ p
 have ba:q < w.heap.size:=by
  rcases ae8 q w.heap.size with h' | h'
  ·exact h'
  ·simp[Array.getElem?_eq_none h'] at Pv
 have c1:w.drew.cell? ⟨q,1,none⟩=some (.slice (some ⟨g,0,none⟩) 0 0):=by
  have:w.drew.heap[q]?=some (.cells #[av,.slice (some ⟨g,0,none⟩) 0 0,bv] 45 (0,0)):=Pv
  rw[ais this]; rfl
 have hSD:(Builtin.unsafeSliceData_ #[41] 102 #[.slice (some ⟨g,0,none⟩) 0 0]).run afI w.drew= .ok (.pointer (some ⟨w.drew.heap.size,0,none⟩)) (w.drew.alloc (.view ⟨g,0,none⟩ 5)):=
  Lib.run_unsafeSliceData_zero w.drew _ _ 5 aix ⟨g,0,none⟩ 0 (5,cur.size) (by have QR:w.drew.heap[g]?=some (.cells cur 5 (0,0)):=hg; simp[aiC,QR])
 have c2:(w.drew.alloc (.view ⟨g,0,none⟩ 5)).cell? ⟨q,1,none⟩=some (.slice (some ⟨g,0,none⟩) 0 0):=by
  have:(w.drew.alloc (.view ⟨g,0,none⟩ 5)).heap[q]?=_:=(Lib.alloc_old w.drew _ q ba).trans Pv
  rw[ais this]; rfl
 have c3:(w.alloc (.view ⟨g,0,none⟩ 5)).drew.cell? ⟨q,1,none⟩=some (.slice (some ⟨g,0,none⟩) 0 0):=c2
 have c0:w.cell? ⟨q,1,none⟩=some (.slice (some ⟨g,0,none⟩) 0 0):=c1
 go_enter aiF,aiE
 go_wp2
 go_region
 all_goals (go_wp2; go_ret; exact ⟨rfl,oH _ _ _,⟨rfl,rfl,rfl⟩⟩)
set_option maxHeartbeats 2000000 in
set_option maxRecDepth 100000 in
theorem LU (q g cap:Nat) (av bv:Value) (w:World) (QW:cap≠0) (Pv:w.heap[q]?=some (.cells #[av,.slice (some ⟨g,0,none⟩) 0 cap,bv] 45 (0,0))) :
 Calls afI 50 #[.pointer (some ⟨q,0,none⟩)] w fun e w'=>e= .returned (.string ⟨#[]⟩)∧Fr [] w.heap w'.heap∧Same w w':=by
 have hUS:∀ (W:World) (p:Option Addr),(Builtin.unsafeString_ #[102,3] 9 #[.pointer p,.int .i64 0]).run afI W= .ok (.string .empty) W:=fun W p=>aiv W _ _ _ p
 have c1:w.drew.cell? ⟨q,1,none⟩=some (.slice (some ⟨g,0,none⟩) 0 cap):=by
  have:w.drew.heap[q]?=some (.cells #[av,.slice (some ⟨g,0,none⟩) 0 cap,bv] 45 (0,0)):=Pv
  rw[ais this]; rfl
 have hSD:(Builtin.unsafeSliceData_ #[41] 102 #[.slice (some ⟨g,0,none⟩) 0 cap]).run afI w.drew= .ok (.pointer (some ⟨g,0,none⟩)) w.drew:=
  aiz _ _ _ _ _ _ QW
 clear QW
 go_enter aiF,aiE
 go_wp2
 go_region
 all_goals (go_wp2; go_ret; exact ⟨rfl,Fr.refl _ _,⟨rfl,rfl,rfl⟩⟩)
theorem U3 {H:Heap} {O:List Nat} {q:Nat} {s:Bs} {bad:Bool} (hp:Pr H O q s bad) :
 aE afI 50 #[.pointer (some ⟨q,0,none⟩)] H fun r H'=>r=sv s∧Fr O H H':=by
 obtain ⟨av,zy,g,hb,ha,nk,rfl⟩:=hp.ex
 intro w hw
 subst hw
 have fin:∀ {M:List Nat} {r:Bs},r=s→(∀ x ∈ M,some x=g)→∀ e w',(e= .returned (.string ⟨r.toArray⟩)∧Fr M w.heap w'.heap∧Same w w')→pI (fun r H'=>r=sv s∧Fr (q :: g.toList) w.heap H') (fun _ _=>False) w e w':=by
  rintro M r rfl hM e w' ⟨rfl,hf,hs⟩
  exact ⟨⟨rfl,hf.mono fun b hb=>.inl (by simp[← hM b hb])⟩,hs⟩
 rcases nk.2 with ⟨hz,hv,hg⟩ | ⟨g',cap,cur,rfl,rfl,hg,hnc,z6,Iu,Qg⟩
 ·have hs:[]=s:=(List.eq_nil_of_length_eq_zero (by omega)).symm
  subst hv
  exact (Px q _ _ w hb).mono (fin hs (by simp))
 ·by_cases hs:s=[]
  ·subst hs
   by_cases hc:cap=0
   ·subst hc; exact (EX q g' _ _ cur w hb hg).mono (fin rfl (by simp))
   ·exact (LU q g' cap _ _ w hc hb).mono (fin rfl (by simp))
  ·refine (LS q g' cap _ _ cur s w hb hg hs (by omega) z6 Iu ?_).mono (fin rfl (by simp))
   intro j x hx
   have hj:j < s.length * 1:=by
    rcases ae8 j s.length with h | h
    ·omega
    ·rw[List.getElem?_eq_none h] at hx; cases hx
   have:=nk.cell j hj
   rw[qU,kZ,fA,Nat.zero_add,this,List.getElem?_map,hx]
   rfl
theorem Pr.dz {H:Heap} {O:List Nat} {q:Nat} {s:Bs} {bad:Bool} (h:Pr H O q s bad):∃ av zy,eg H q 45 [av,zy,.bool bad]:=by
 obtain ⟨av,zy,g,hb,_⟩:=h.ex
 exact ⟨av,zy,hb⟩
theorem Pr.lt {H:Heap} {O:List Nat} {q:Nat} {s:Bs} {bad:Bool} (h:Pr H O q s bad):∀ x ∈ O,x < H.size:=by
 obtain ⟨av,zy,g,hb,_,ho,rfl⟩:=h.ex
 intro x hx
 rcases afa.1 hx with rfl | hx
 ·exact hb.lt
 ·exact ho.lt (by simpa using hx)
theorem Pr.ne {H:Heap} {O:List Nat} {q:Nat} {s:Bs} {bad:Bool} (h:Pr H O q s bad) {b t:Nat} {l:List Value} (hb:eg H b t l) (h1:t≠45) (h2:5≠t):b ∉ O:=by
 obtain ⟨av,zy,g,hq,_,ho,rfl⟩:=h.ex
 intro hx
 rcases afa.1 hx with rfl | hx
 ·unfold eg at hq hb
  rw[hq] at hb
  simp only[ae9.injEq,Obj.cells.injEq] at hb
  exact h1 hb.2.1.symm
 ·exact ho.ne hb h2 hx
theorem Pr.Ox {H H':Heap} {O M:List Nat} {q:Nat} {s:Bs} {bad:Bool} (h:Pr H O q s bad) (hf:Fr M H H') (hM:∀ x ∈ M,x ∉ O):Pr H' O q s bad:=by
 obtain ⟨av,zy,g,hq,ha,ho,rfl⟩:=h.ex
 refine ⟨⟨av,zy,g,hq.fr hf fun hm=>hM q hm (by simp),ha,ho.fr hf fun b hb hm=>hM b hm (by simp[hb]),rfl⟩,h.Wr⟩
theorem Pr.eQ {H H':Heap} {O:List Nat} {q:Nat} {s:Bs} {bad:Bool} (h:Pr H O q s bad) (hG:bS H) (hf:Fr O H H'):bS H':=
 hG.fr hf (fun hm=>by have:=h.Wr _ hm; omega) (fun hm=>by have:=h.Wr _ hm; omega)
structure Pw (s:Bs) (b:Bool) (s':Bs) (b':Bool) (ok:Bool) (t:Bs) (w:Nat):Prop where
 len:s'.length≤s.length + w
 bad:b'=(b || !ok)
 Wu:b'=false→s'=s ++ t
theorem Pw.refl (s:Bs) (b:Bool):Pw s b s b true [] 0:=⟨by simp,by simp,by simp⟩
theorem Pw.put (s:Bs) (b:Bool) (t:Bs):Pw s b (s ++ t) b true t t.length:=⟨by simp,by simp,by simp⟩
theorem Pw.EY (s:Bs) (b c:Bool):Pw s b s (b || !c) c [] 0:=⟨by simp,rfl,by simp⟩
theorem Pw.trans {s s1 s2 t1 t2:Bs} {b b1 b2 k1 k2:Bool} {w1 w2:Nat} (h:Pw s b s1 b1 k1 t1 w1) (k:Pw s1 b1 s2 b2 k2 t2 w2):Pw s b s2 b2 (k1 && k2) (t1 ++ t2) (w1 + w2):=by
 refine ⟨by have:=h.len; have:=k.len; omega,?_,fun hb=>?_⟩
 ·rw[k.bad,h.bad]; cases b <;> cases k1 <;> cases k2 <;> rfl
 ·have mz:b1=false:=by
   have:=k.bad
   rw[hb] at this
   cases b1
   ·rfl
   ·simp at this
  rw[k.Wu hb,h.Wu mz,ahw]
theorem Pw.to {s s' t t':Bs} {b b' k k':Bool} {w w':Nat} (h:Pw s b s' b' k t w) (hk:k=k') (ht:k=true→t=t') (hw:w≤w'):Pw s b s' b' k' t' w':=by
 subst hk
 refine ⟨by have:=h.len; omega,h.bad,fun hb=>?_⟩
 rw[h.Wu hb]
 have:=h.bad
 rw[hb] at this
 cases k
 ·simp at this
 ·rw[ht rfl]
theorem Pw.stop {s s' t t':Bs} {b k k':Bool} {w w':Nat} (h:Pw s b s' true k t w) (hk:k'=true→k=true) (hw:w≤w'):Pw s b s' true k' t' w':=by
 refine ⟨by have:=h.len; omega,?_,fun hb=>by cases hb⟩
 have:=h.bad
 cases b
 ·cases k'
  ·rfl
  ·rw[hk rfl] at this; simp at this
 ·rfl
abbrev PL (O0:List Nat) (H0:Heap) (q:Nat) (O:List Nat) (s:Bs) (bad:Bool) (H:Heap) (l:List dR):Prop:=Lv O0 H0 O (fun H=>Pr H O q s bad) H l []
theorem PL.start {H:Heap} {O:List Nat} {q:Nat} {s:Bs} {bad:Bool} (h:Pr H O q s bad):PL O H q O s bad H []:=
 Lv.start h.lt fun M H' hf hM=>h.Ox hf fun x hx=>(hM x hx).2
theorem _root_.Gx.Lv.sJ {O0 O O':List Nat} {H0 H H':Heap} {q:Nat} {s s':Bs} {bad mU:Bool} {l:List dR} (L:PL O0 H0 q O s bad H l) (hp:Pr H' O' q s' mU) (hf:Fr O H H') (ho:Oo H O O'):PL O0 H0 q O' s' mU H' l:=
 L.step hf (fun x hx=>.inl hx) (fun x hx=>⟨hp.lt x hx,ho x hx⟩) fun M nA hf hM=>hp.Ox hf fun x hx=>(hM x hx).2
theorem _root_.Gx.Lv.poo {O0 O:List Nat} {H0 H:Heap} {q:Nat} {s:Bs} {bad:Bool} {l:List dR} (L:PL O0 H0 q O s bad H l):Oo H0 O0 O:=fun x hx=>(L.own x hx).2
theorem _root_.Gx.Lv.C9 {O0 O:List Nat} {H0 H:Heap} {q:Nat} {s:Bs} {bad:Bool} {l:List dR} (L:PL O0 H0 q O s bad H l) {d:iH} {cs:List Value} (h:dA H0 O0 d cs):dA H O d cs:=
 h.stay fun b hb hn=>⟨fun hm=>(L.poo b hm).elim hn (by omega),L.fr.same b hb hn⟩
def PC (f:Nat) (args:List Value) (H:Heap) (O:List Nat) (q:Nat) (s:Bs) (bad ok:Bool) (t:Bs) (w:Nat):Prop:=
 s.length + w≤140737488355328→aE afI f args.toArray H fun r H'=>r= .tuple #[]∧∃ O' s' mU,Pr H' O' q s' mU∧Fr O H H'∧Oo H O O'∧Pw s bad s' mU ok t w
theorem _root_.Gx.Lv.gv {O0 O:List Nat} {H0 H:Heap} {q:Nat} {s t:Bs} {bad ok:Bool} {l:List dR} {f w:Nat} {args:List Value} {R:Value→Heap→Prop} (L:PL O0 H0 q O s bad H l) (hc:PC f args H O q s bad ok t w) (hw:s.length + w≤140737488355328)
 (h:∀ H' O' s' mU,PL O0 H0 q O' s' mU H' l→Pw s bad s' mU ok t w→R (.tuple #[]) H'):aE afI f args.toArray H R:=
 (hc hw).mono fun r H' ⟨hr,O',s',mU,hp,hf,ho,hs⟩=>hr ▸ h H' O' s' mU (L.sJ hp hf ho) hs
theorem LV {H:Heap} {O:List Nat} {q b:Nat} {s:Bs} {bad:Bool} {ts:List Bs} (hp:Pr H O q s bad) (hb:eg H b 9 (ts.map sv)) (hl:s.length + ts.flatten.length≤140737488355328) (hn:ts.length≤100) :
 vc afI (fun _ _=>False) Zj.code (pM Zj.keep [.pointer (some ⟨q,0,none⟩),.slice (some ⟨b,0,none⟩) ts.length ts.length]) H (u5 Zj.res fun r H'=>r= .tuple #[]∧∃ O',Pr H' O' q (s ++ ts.flatten) bad∧Fr O H H'∧Oo H O O'):=by
 have dH:b ∉ O:=hp.ne hb (by decide) (by decide)
 simp only[go_sem,Zj]
 refine bC (fun (i:Nat) H'=>i≤ts.length∧∃ O',Pr H' O' q (s ++ (ts.take i).flatten) bad∧Fr O H H'∧Oo H O O')
  (fun i=>[(0,.pointer (some ⟨q,0,none⟩)),(6,.slice (some ⟨b,0,none⟩) ts.length ts.length),(7,.int .i64 ts.length),(8,.int .i64 i)]) (fun i=>ts.length - i) 0 ?_ ?_ ?_
 ·exact ⟨ahn _,O,by simpa using hp,Fr.refl _ _,Oo.refl _ _⟩
 ·simp only[go_sem]
 ·rintro i H1 ⟨hi,O1,I4,bY,ho1⟩
  rcases ae8 i ts.length with ba | nf
  ·have h0:(0:Int)≤(i:Int):=by omega
   have h1:(i:Int) < (ts.length:Int):=by omega
   have mz:=hb.fr bY dH
   have ck:ct H1 b i=some (sv ts[i]):=by
    rw[mz.cell,List.getElem?_map,List.getElem?_eq_getElem ba]; rfl
   have hlen:(s ++ (ts.take i).flatten).length + ts[i].length≤140737488355328:=by
    have e:=congrArg List.length (congrArg List.flatten (ahK (i + 1) ts))
    rw[aiu,ah1,aim ba,aiu,ah1] at e
    simp only[List.flatten_cons,List.flatten_nil,ah7] at e
    rw[ah1]; omega
   have hw:afd.wrap ((i:Int) + 1)=((i + 1:Nat):Int):=dD ba (by unfold maxLen; omega)
   simp only[go_sem,h0,h1,ck]
   refine (abj I4 hlen).mono ?_
   rintro r H2 ⟨O2,NL,cQ,ho2⟩
   simp only[go_sem,hw]
   refine aj (i + 1) ?_ ?_ ⟨by omega,O2,?_,bY.trans' cQ (fun x hx=>(ho1 x hx)),ho1.trans ho2 bY.size⟩
   ·show ts.length - (i + 1) < ts.length - i
    omega
   ·simp only[go_sem,hw]
   ·rw[aim ba,aiu]
    simpa using NL
  ·have h1:¬ ((i:Int) < (ts.length:Int)):=by omega
   obtain rfl:i=ts.length:=by omega
   rw[ain] at I4
   simp only[go_sem,h1]
   exact ⟨O1,I4,bY,ho1⟩
theorem U4 {H:Heap} {O:List Nat} {q b:Nat} {s:Bs} {bad:Bool} {ts:List Bs} (hp:Pr H O q s bad) (hb:eg H b 9 (ts.map sv)) (hl:s.length + ts.flatten.length≤140737488355328) (hn:ts.length≤100) :
 gp afI 32 #[.pointer (some ⟨q,0,none⟩),.slice (some ⟨b,0,none⟩) ts.length ts.length] .returning .returning H (fun H'=>∃ O',Pr H' O' q (s ++ ts.flatten) bad∧Fr O H H'∧Oo H O O'):=
 (Ab (args:=[_,_]) Tryz.func32 QJ (ahi rfl) (LV hp hb hl hn)).mono fun H' ⟨v,hr,h⟩=>h
theorem _root_.Gx.Lv.cq {O0 O:List Nat} {H0 H:Heap} {q b:Nat} {s:Bs} {bad:Bool} {l:List dR} {R:Value→Heap→Prop} (L:PL O0 H0 q O s bad H l) (i:Nat) (ts:List Bs) (hi:l[i]?=some (.dz b 9 (ts.map sv))) (hn:ts.length≤100) (hw:s.length + ts.flatten.length≤140737488355328)
 (h:∀ H' O',PL O0 H0 q O' (s ++ ts.flatten) bad H' l→R (.tuple #[]) H'):aE afI 32 #[.pointer (some ⟨q,0,none⟩),.slice (some ⟨b,0,none⟩) ts.length ts.length] H R:=
 (af (args:=[_,_]) Tryz.func32 QJ (ahi rfl) (LV L.st (L.get i hi) hw hn)).mono fun r H' ⟨hr,O',h1,h2,h3⟩=>hr ▸ h H' O' (L.sJ h1 h2 h3)
theorem pF {H:Heap} {O:List Nat} {q:Nat} {s:Bs} {bad:Bool} (hp:Pr H O q s bad) (c:Bool) :
 aE afI 29 #[.pointer (some ⟨q,0,none⟩),.bool c] H fun r H'=>r= .bool (!(bad || !c))∧Pr H' O q s (bad || !c)∧Fr O H H':=by
 obtain ⟨av,zy,g,hb,ha,nk,rfl⟩:=hp.ex
 have hgq:∀ b,g=some b→b≠q:=by
  rintro b rfl rfl
  exact nk.ne hb (by decide) (by simp)
 have k2:ct H q 2=some (.bool bad):=hb.cell 2
 refine af (args:=[_,_]) Tryz.func29 Ze (ahi rfl) ?_
 simp only[go_sem,c29,k2]
 have ec:(bif bad then true else !c)=(bad || !c):=by cases bad <;> rfl
 rw[ec]
 refine bL hb (by simp) (by simp[ah3]) fun H1 mz bY _=>?_
 have k3:ct H1 q 2=some (.bool (bad || !c)):=mz.cell 2
 simp only[go_sem,k3]
 refine ⟨⟨⟨av,zy,g,mz,ha,nk.fr bY (fun b hb h=>hgq b hb (by simpa using h)),rfl⟩,hp.Wr⟩,bY.mono fun b hb=>.inl (by simp at hb; simp[hb])⟩
theorem _root_.Gx.Lv.fN {O0 O:List Nat} {H0 H:Heap} {q:Nat} {s:Bs} {bad:Bool} {l:List dR} {R:Value→Heap→Prop} (L:PL O0 H0 q O s bad H l) (c:Bool)
 (h:∀ H',PL O0 H0 q O s (bad || !c) H' l→Pw s bad s (bad || !c) c [] 0→R (.bool (!(bad || !c))) H'):aE afI 29 #[.pointer (some ⟨q,0,none⟩),.bool c] H R:=
 (pF L.st c).mono fun r H' ⟨hr,h1,h2⟩=>hr ▸ h H' (L.sJ h1 h2 (Oo.refl _ _)) (Pw.EY _ _ _)
theorem _root_.Gx.Lv.cu {O0 O:List Nat} {H0 H:Heap} {q:Nat} {s:Bs} {bad E:Bool} {l:List dR} {R:Value→Heap→Prop} (L:PL O0 H0 q O s bad H l) (c:Bool) (hc:E=c)
 (h:∀ H',PL O0 H0 q O s (bad || !c) H' l→Pw s bad s (bad || !c) c [] 0→R (.bool (!(bad || !c))) H'):aE afI 29 #[.pointer (some ⟨q,0,none⟩),.bool E] H R:=hc ▸ L.fN c h
theorem _root_.Gx.Lv.bo {O0 O:List Nat} {H0 H:Heap} {q:Nat} {s0 s t:Bs} {abm bad ok:Bool} {w:Nat} {l:List dR} (L:PL O0 H0 q O s bad H l) (h:Pw s0 abm s bad ok t w) :
 ∃ O' s' mU,Pr H O' q s' mU∧Fr O0 H0 H∧Oo H0 O0 O'∧Pw s0 abm s' mU ok t w:=⟨O,s,bad,L.st,L.fr,L.poo,h⟩
def NO (H:Heap) (O:List Nat) (x:Nd) (v:Value):Prop:=∃ cs,v= .agg cs.toArray∧dA H O x.fD cs
theorem NO.open {H:Heap} {O:List Nat} {k n a:Int} {t:Bs} {ks:List Nd} {v:Value} (h:NO H O (.mk k t n a ks) v):∃ aa cc,v= .agg #[.int .i64 k,sv t,.int .i64 n,.int .i64 a,.slice aa ks.length cc]∧dA H O (aW ks) [.slice aa ks.length cc]∧ks.length≤cc∧ks.length≤maxLen:=by
 obtain ⟨cs,rfl,h2⟩:=h
 obtain ⟨kv,rfl,h3⟩:=lb.1 h2
 obtain ⟨a,c,h1,h5,h4⟩:=dA.slice h3
 simp only[aia] at h1 h5
 subst h1
 exact ⟨a,c,rfl,h3,h5,by omega⟩
theorem NO.mk {H:Heap} {O:List Nat} {k n a:Int} {t:Bs} {ks:List Nd} {kv:Value} (h:dA H O (aW ks) [kv]):NO H O (.mk k t n a ks) (.agg #[.int .i64 k,sv t,.int .i64 n,.int .i64 a,kv]):=⟨_,rfl,lb.2 ⟨kv,rfl,h⟩⟩
theorem gr {H:Heap} {O:List Nat} {ks:List Nd} {v:Value} (h:dA H O (aW ks) [v]) (j:Nat) (hj:j < ks.length) :
 ∃ b o c k t n a bm kv,v= .slice (some ⟨b,o,none⟩) ks.length c∧ks[j]= .mk k t n a bm∧(ct H b (o + j * 5 + 0)=some (.int .i64 k)∧ct H b (o + j * 5 + 1)=some (sv t)∧ct H b (o + j * 5 + 2)=some (.int .i64 n)∧ct H b (o + j * 5 + 3)=some (.int .i64 a)∧ct H b (o + j * 5 + 4)=some kv)∧NO H O ks[j] (.agg #[.int .i64 k,sv t,.int .i64 n,.int .i64 a,kv])∧kv.oneCell'=true∧b ∉ O:=by
 obtain ⟨b,o,c,x,h1,bF,h3,h4,h5⟩:=dA.at h j (by simpa using hj) (by decide)
 rw[List.getElem_map] at h5
 rw[aia] at h1
 cases e:ks[j] with
 | mk k t n a bm=>
   rw[e] at h5
   obtain ⟨kv,rfl,h6⟩:=lb.1 h5
   obtain ⟨a',c',rfl,_⟩:=dA.slice h6
   exact ⟨b,o,c,k,t,n,a,bm,_,h1,rfl,⟨h4 0 (by decide),h4 1 (by decide),h4 2 (by decide),h4 3 (by decide),h4 4 (by decide)⟩,NO.mk h6,rfl,bF⟩
theorem _root_.Gx.Lv.nh {O0 O:List Nat} {H0 H:Heap} {q:Nat} {s:Bs} {bad:Bool} {l:List dR} (L:PL O0 H0 q O s bad H l) {x:Nd} {v:Value} (h:NO H0 O0 x v):NO H O x v:=by
 obtain ⟨cs,rfl,h⟩:=h
 exact ⟨cs,rfl,L.C9 h⟩
theorem gk {H:Heap} {k n a:Int} {t:Bs} {aa:Option Addr} {m cc:Nat} (kd kn:Int) :
 aE afI 30 #[.agg #[.int .i64 k,sv t,.int .i64 n,.int .i64 a,.slice aa m cc],.int .i64 kd,.int .i64 kn] H fun r H'=>r= .bool (decide (k=kd) && (decide (kn < 0) || decide ((m:Int)=kn)))∧Fr [] H H':=by
 refine af (args:=[_,_,_]) Tryz.func30 Zg (ahi rfl) ?_
 simp only[go_sem,c30]
 refine ay fun H1 vr bY _=>?_
 have k0:=vr.cell 0
 have k4:=vr.cell 4
 by_cases h1:k=kd
 ·subst h1
  by_cases h2:kn < 0
  ·simp only[go_sem,k0,k4,h2]
   exact bY
  ·simp only[go_sem,k0,k4,h2]
   exact bY
 ·simp only[go_sem,k0,k4,h1]
  exact bY
theorem cW (t:Bs):((⟨⟨t⟩⟩:ByteArray)=⟨⟨[]⟩⟩)=(t=[]):=by
 apply propext
 constructor
 ·intro h; injection h with h; injection h
 ·rintro rfl; rfl
theorem ga {H:Heap} {k n a:Int} {t:Bs} {aa:Option Addr} {m cc:Nat} :
 aE afI 47 #[.agg #[.int .i64 k,sv t,.int .i64 n,.int .i64 a,.slice aa m cc]] H fun r H'=>r= .bool (decide (t=[]) && decide (n=0))∧Fr [] H H':=by
 refine af (args:=[_]) Tryz.func47 Zv (ahi rfl) ?_
 simp only[go_sem,c47]
 refine ay fun H1 vr bY _=>?_
 have k1:=vr.cell 1
 have k2:=vr.cell 2
 have hs:=cW t
 by_cases ht:t=[]
 ·subst ht
  simp only[go_sem,k1,k2,sv]
  exact bY
 ·simp only[go_sem,k1,k2,sv,hs,ht]
  exact bY
def fH (k n:Int) (t:Bs):Bool:=bM t && !ve t && (decide (n=0) || decide (k=5) || decide (k=6))
theorem eL {H:Heap} {O:List Nat} {q:Nat} {s t:Bs} {bad:Bool} (hp:Pr H O q s bad) {k n a:Int} {aa:Option Addr} {m cc:Nat} :
 PC 48 [.pointer (some ⟨q,0,none⟩),.agg #[.int .i64 k,sv t,.int .i64 n,.int .i64 a,.slice aa m cc]] H O q s bad (fH k n t) t t.length:=by
 intro hw
 refine af (args:=[_,_]) Tryz.func48 Zx (ahi rfl) ?_
 have L:=PL.start hp
 simp only[go_sem,c48]
 refine L.aS fun bx H1 L=>?_
 have k0:=L.cell 0 rfl 0
 have k1:=L.cell 0 rfl 1
 have k2:=L.cell 0 rfl 2
 simp only[go_sem,k1]
 refine (wq t H1).mono ?_
 rintro r H2 ⟨rfl,rfl⟩
 cases hv:bM t with
 | false=>
   simp only[go_sem,hv,k0,k1,k2]
   refine L.fN _ fun H3 L hm=>?_
   have k1:=L.cell 0 rfl 1
   simp only[go_sem,k1,sv]
   refine L.bc fun b1 H4 L=>?_
   simp only[go_sem]
   refine L.cq 0 [t] rfl (by simp) (by simpa using hw) fun H5 O5 L=>?_
   simp only[go_sem]
   exact L.bo ((hm.trans (Pw.put _ _ _)).to (by simp[fH,hv]) (by simp) (by simp))
 | true=>
   simp only[go_sem,hv,k1]
   refine (wv t H2).mono ?_
   rintro r H3 ⟨rfl,cQ⟩
   have L:=L.ext cQ
   have k0:=L.cell 0 rfl 0
   have k1:=L.cell 0 rfl 1
   have k2:=L.cell 0 rfl 2
   cases hk:ve t with
   | true=>
     simp only[go_sem,hk,k0,k1,k2]
     refine L.fN _ fun H3 L hm=>?_
     have k1:=L.cell 0 rfl 1
     simp only[go_sem,k1,sv]
     refine L.bc fun b1 H4 L=>?_
     simp only[go_sem]
     refine L.cq 0 [t] rfl (by simp) (by simpa using hw) fun H5 O5 L=>?_
     simp only[go_sem]
     exact L.bo ((hm.trans (Pw.put _ _ _)).to (by simp[fH,hv,hk]) (by simp) (by simp))
   | false=>
     simp only[go_sem,hk,k0,k1,k2]
     refine L.fN _ fun H3 L hm=>?_
     have k1:=L.cell 0 rfl 1
     simp only[go_sem,k1,sv]
     refine L.bc fun b1 H4 L=>?_
     simp only[go_sem]
     refine L.cq 0 [t] rfl (by simp) (by simpa using hw) fun H5 O5 L=>?_
     simp only[go_sem]
     exact L.bo ((hm.trans (Pw.put _ _ _)).to (by simp[fH,hv,hk]; try grind) (by simp) (by simp))
theorem dL (ks:List Nd):decide ((ks.length:Int)=0)=ks.isEmpty:=by
 cases ks with
 | nil=>rfl
 | cons y r=>
   have:¬ (((y :: r).length:Int)=0):=by rw[afK]; omega
   simp only[List.isEmpty_cons,decide_eq_false_iff_not]; exact this
theorem ow {H:Heap} {O:List Nat} {q:Nat} {s:Bs} {bad:Bool} (hp:Pr H O q s bad) {x:Nd} {v:Value} (hx:NO H O x v) :
 PC 93 [.pointer (some ⟨q,0,none⟩),v] H O q s bad (dQ x) (39 :: (ak x ++ [39])) ((ak x).length + 2):=by
 intro hw
 obtain ⟨k,t,n,a,ks⟩:=x
 obtain ⟨aa,cc,rfl,hk,jG,eJ⟩:=hx.open
 simp only[ak,dQ,kindOf,numOf,aL] at hw ⊢
 refine af (args:=[_,_]) Tryz.func93 ZJ (ahi rfl) ?_
 have L:=PL.start hp
 simp only[go_sem,c93]
 refine L.aS fun bx H1 L=>?_
 have ca:=L.cell 0 rfl
 simp only[go_sem,ca]
 refine (gk (t:=t) 47 0).mono ?_
 rintro r H2 ⟨rfl,cQ⟩
 have L:=L.ext cQ
 have k1:=L.cell 0 rfl 1
 have k2:=L.cell 0 rfl 2
 rw[show decide ((0:Int) < 0)=false from rfl,aip,dL]
 cases h1:(decide (k=47) && ks.isEmpty) with
 | false=>
   simp only[go_sem,k1,k2]
   refine L.fN _ fun H3 L hm=>?_
   have k1:=L.cell 0 rfl 1
   simp only[go_sem,k1,sv]
   refine L.bc fun b1 H4 L=>?_
   simp only[go_sem]
   refine L.cq 0 [[39],t,[39]] rfl (by simp) (by simp; omega) fun H5 O5 L=>?_
   simp only[go_sem]
   exact L.bo ((hm.trans (Pw.put _ _ _)).to (by clear hx hk; grind) (by simp) (by simp))
 | true=>
   by_cases hn:n=0
   ·simp only[go_sem,k1,k2,hn]
    refine (wq t H2).mono ?_
    rintro r H3 ⟨rfl,rfl⟩
    simp only[go_sem]
    refine L.fN _ fun H3 L hm=>?_
    have k1:=L.cell 0 rfl 1
    simp only[go_sem,k1,sv]
    refine L.bc fun b1 H4 L=>?_
    simp only[go_sem]
    refine L.cq 0 [[39],t,[39]] rfl (by simp) (by simp; omega) fun H5 O5 L=>?_
    simp only[go_sem]
    exact L.bo ((hm.trans (Pw.put _ _ _)).to (by clear hx hk; grind) (by simp) (by simp))
   ·simp only[go_sem,k1,k2,hn]
    refine L.fN _ fun H3 L hm=>?_
    have k1:=L.cell 0 rfl 1
    simp only[go_sem,k1,sv]
    refine L.bc fun b1 H4 L=>?_
    simp only[go_sem]
    refine L.cq 0 [[39],t,[39]] rfl (by simp) (by simp; omega) fun H5 O5 L=>?_
    simp only[go_sem]
    exact L.bo ((hm.trans (Pw.put _ _ _)).to (by simp[hn]) (by simp) (by simp))
theorem xJ {n:Int} (h0:-9223372036854775808≤n) (h1:n≤9223372036854775807):(ah4 n).length≤20:=by
 unfold ah4
 split
 ·rw[afK,aiD,aia,aiA]
  have:=mJ 18 n.natAbs (aiy (by omega:n.natAbs≤9223372036854775808) (by decide))
  omega
 ·rw[aiD,aia,aiA]
  have:=mJ 18 n.toNat (aiy (by omega:n.toNat≤9223372036854775808) (by decide))
  omega
theorem qH {H:Heap} {O:List Nat} {q:Nat} {s:Bs} {bad:Bool} (hp:Pr H O q s bad) (hG:bS H) {x:Nd} {v:Value} (hx:NO H O x v) (h0:-9223372036854775808≤numOf x) (h1:numOf x≤9223372036854775807) :
 PC 68 [.pointer (some ⟨q,0,none⟩),v] H O q s bad (mh x) (ah4 (numOf x)) 20:=by
 intro hw
 obtain ⟨k,t,n,a,ks⟩:=x
 obtain ⟨aa,cc,rfl,hk,jG,eJ⟩:=hx.open
 simp only[ak,mh,kindOf,numOf,aL] at hw h0 h1 ⊢
 have hlen:(ah4 n).length≤20:=xJ h0 h1
 refine af (args:=[_,_]) Tryz.func68 ZE (ahi rfl) ?_
 have L:=PL.start hp
 simp only[go_sem,c68]
 refine L.aS fun bx H1 L=>?_
 have ca:=L.cell 0 rfl
 simp only[go_sem,ca]
 refine (gk (t:=t) 44 0).mono ?_
 rintro r H2 ⟨rfl,cQ⟩
 have L:=L.ext cQ
 have k1:=L.cell 0 rfl 1
 have k2:=L.cell 0 rfl 2
 rw[show decide ((0:Int) < 0)=false from rfl,aip,dL]
 have hs:=cW t
 cases hb:(decide (k=44) && ks.isEmpty) with
 | false=>
   simp only[go_sem,k1,k2,sv]
   refine L.fN _ fun H3 L hm=>?_
   have k2:=L.cell 0 rfl 2
   simp only[go_sem,k2]
   refine (rD h0 h1 (hp.eQ hG L.fr)).mono ?_
   rintro r H4 ⟨rfl,iO⟩
   have L:=L.ext iO
   simp only[go_sem,sv]
   refine L.bc fun b1 H5 L=>?_
   simp only[go_sem]
   refine L.cq 0 [ah4 n] rfl (by simp) (by simp; omega) fun H6 O6 L=>?_
   simp only[go_sem]
   exact L.bo ((hm.trans (Pw.put _ _ _)).to (by clear hx hk; grind) (by simp) (by simpa using hlen))
 | true=>
   simp only[go_sem,k1,k2,sv]
   refine L.fN _ fun H3 L hm=>?_
   have k2:=L.cell 0 rfl 2
   simp only[go_sem,k2]
   refine (rD h0 h1 (hp.eQ hG L.fr)).mono ?_
   rintro r H4 ⟨rfl,iO⟩
   have L:=L.ext iO
   simp only[go_sem,sv]
   refine L.bc fun b1 H5 L=>?_
   simp only[go_sem]
   refine L.cq 0 [ah4 n] rfl (by simp) (by simp; omega) fun H6 O6 L=>?_
   simp only[go_sem]
   exact L.bo ((hm.trans (Pw.put _ _ _)).to (by simp only[hs]; clear hx hk; grind) (by simp) (by simpa using hlen))
def jU:List Nd→Nat
 | []=>0
 | x :: r=>(ak x).length + 4 + jU r
theorem xK (f:Bool):∀ (ks:List Nd) (i:Nat) (h:i < ks.length),lk f (ks.take (i + 1))=lk f (ks.take i) ++ ((if i=0 then (if f then [] else [44,32]) else [44,32]) ++ 39 :: (ak ks[i] ++ [39]))
 | x :: r,0,_=>by simp[lk]
 | x :: r,i + 1,h=>by
   have:=xK false r i (by simpa using h)
   simp only[ahq,lk,ah2,this]
   cases i <;> simp
theorem oA:∀ (ks:List Nd) (i:Nat) (h:i < ks.length),jU (ks.take (i + 1))=jU (ks.take i) + ((ak ks[i]).length + 4)
 | x :: r,0,_=>by simp[jU]
 | x :: r,i + 1,h=>by
   have:=oA r i (by simpa using h)
   simp only[ahq,jU,ah2,this]; omega
theorem AW:∀ (ks:List Nd) (i:Nat),jU (ks.take i)≤jU ks
 | [],i=>by simp[jU]
 | x :: r,0=>by simp[jU]
 | x :: r,i + 1=>by
   have:=AW r i
   simp only[ahq,jU]; omega
theorem fy (p:Nd→Bool) (ks:List Nd) (i:Nat) (h:i < ks.length):(ks.take (i + 1)).all p=((ks.take i).all p && p ks[i]):=by
 rw[aim h,aid]; simp
theorem uh {H:Heap} {O:List Nat} {q:Nat} {s:Bs} {bad:Bool} (hp:Pr H O q s bad) {ks:List Nd} {v:Value} (hk:dA H O (aW ks) [v]) :
 PC 101 [.pointer (some ⟨q,0,none⟩),v] H O q s bad (ks.all dQ) (lk true ks) (jU ks):=by
 intro hw
 obtain ⟨aa,cc,rfl,jG,eJ⟩:∃ aa cc,v= .slice aa ks.length cc∧ks.length≤cc∧ks.length≤maxLen:=by
  obtain ⟨a,c,h1,h5,h4⟩:=dA.slice hk
  simp only[aia] at h1 h5
  exact ⟨a,c,h1,h5,by omega⟩
 refine af (args:=[_,_]) Tryz.func101 Tt (ahi rfl) ?_
 simp only[go_sem,ZN]
 refine bC (fun (i:Nat) H'=>i≤ks.length∧∃ O' s' b' l,PL O H q O' s' b' H' l∧Pw s bad s' b' ((ks.take i).all dQ) (lk true (ks.take i)) (jU (ks.take i)))
  (fun i=>[(0,.pointer (some ⟨q,0,none⟩)),(6,.slice aa ks.length cc),(7,.int .i64 ks.length),(8,.int .i64 i)]) (fun i=>ks.length - i) 0 ?_ ?_ ?_
 ·exact ⟨ahn _,O,s,bad,[],PL.start hp,by simpa [lk,jU] using Pw.refl s bad⟩
 ·simp only[go_sem]
 ·rintro i H1 ⟨hi,O1,s1,b1,l1,L,eZ⟩
  rcases ae8 i ks.length with ba | nf
  ·have h0:(0:Int)≤(i:Int):=by omega
   have h1:(i:Int) < (ks.length:Int):=by omega
   have gl:=dD ba eJ
   have tj:=oA ks i ba
   have Ah:=AW ks (i + 1)
   have hlen:=eZ.len
   obtain ⟨b,o,c,k1,t1,n1,a1,bm,mD,e1,e2,⟨q0,q1,q2,q3,q4⟩,hr,fi,bF⟩:=gr hk i ba
   cases e1
   simp only[Nat.add_zero] at q0
   have q0:=ab q0 L.fr bF
   have q1:=ab q1 L.fr bF
   have q2:=ab q2 L.fr bF
   have q3:=ab q3 L.fr bF
   have q4:=ab q4 L.fr bF
   unfold sv at q1
   simp only[go_sem,h0,h1,q0,q1,q2,q3,q4]
   refine ay fun H5 np fP _=>?_
   have L5:=L.push fP np
   simp only[go_sem]
   refine aC np rfl (ax fi) fun H6 gL fB _=>?_
   have L:=L5.Na 0 rfl fB gL
   rcases Nat.eq_zero_or_pos i with uG | tE
   ·have hg:¬ ((0:Int) < (i:Int)):=by omega
    have ck:=L.cell 0 rfl
    unfold sv at ck
    simp only[go_sem,hg,ck]
    refine L.gv (ow L.st (L.nh hr)) (by omega) fun H7 O7 s7 b7 L hq=>?_
    simp only[go_sem,gl]
    refine aj (i + 1) ?_ ?_ ⟨by omega,O7,s7,b7,_,L,?_⟩
    ·show ks.length - (i + 1) < ks.length - i
     omega
    ·simp only[go_sem,gl]
    ·refine (eZ.trans hq).to (by rw[fy _ ks i ba]) (fun _=>?_) (by omega)
     rw[xK true ks i ba,if_pos uG]; simp
   ·have hg:(0:Int) < (i:Int):=by omega
    simp only[go_sem,hg]
    refine L.bc fun bz Hz L=>?_
    simp only[go_sem]
    refine L.cq 0 [[44,32]] rfl (by simp) (by simp; omega) fun Hy Oy L=>?_
    have ck:=L.cell 1 rfl
    unfold sv at ck
    simp only[go_sem,ck]
    refine L.gv (ow L.st (L.nh hr)) (by simp; omega) fun H7 O7 s7 b7 L hq=>?_
    simp only[go_sem,gl]
    refine aj (i + 1) ?_ ?_ ⟨by omega,O7,s7,b7,_,L,?_⟩
    ·show ks.length - (i + 1) < ks.length - i
     omega
    ·simp only[go_sem,gl]
    ·refine (eZ.trans ((Pw.put _ _ _).trans hq)).to (by rw[fy _ ks i ba]; simp) (fun _=>?_) (by simp; omega)
     rw[xK true ks i ba,if_neg (by omega)]; simp
  ·have h1:¬ ((i:Int) < (ks.length:Int)):=by omega
   obtain rfl:i=ks.length:=by omega
   rw[ain] at eZ
   simp only[go_sem,h1]
   exact L.bo eZ
theorem qI {H:Heap} {O:List Nat} {q:Nat} {s:Bs} {bad:Bool} (hp:Pr H O q s bad) {ks:List Nd} {v:Value} (hk:dA H O (aW ks) [v]) :
 PC 69 [.pointer (some ⟨q,0,none⟩),v] H O q s bad (ks.all dQ) (iB ks) (jU ks + 2):=by
 intro hw
 obtain ⟨aa,cc,rfl,jG,eJ⟩:∃ aa cc,v= .slice aa ks.length cc∧ks.length≤cc∧ks.length≤maxLen:=by
  obtain ⟨a,c,h1,h5,h4⟩:=dA.slice hk
  simp only[aia] at h1 h5
  exact ⟨a,c,h1,h5,by omega⟩
 refine af (args:=[_,_]) Tryz.func69 ZG (ahi rfl) ?_
 have L:=PL.start hp
 cases ks with
 | nil=>
   simp only[go_sem,c69]
   exact L.bo (by simpa [iB] using (Pw.refl s bad).to rfl (fun _=>rfl) (by simp[jU]:0≤jU [] + 2))
 | cons y r=>
   have hg:(0:Int) < ((r.length + 1:Nat):Int):=by omega
   simp only[go_sem,c69,hg]
   refine L.bc fun bz Hz L=>?_
   simp only[go_sem]
   refine L.cq 0 [[40]] rfl (by simp) (by simp; omega) fun Hy Oy L=>?_
   simp only[go_sem]
   refine L.gv (uh L.st (L.C9 hk)) (by simp; omega) fun H7 O7 s7 b7 L hq=>?_
   have hlen:=hq.len
   simp only[go_sem]
   refine L.bc fun bz Hz L=>?_
   simp only[go_sem]
   refine L.cq 0 [[41]] rfl (by simp) (by simp at hlen ⊢; omega) fun Hy Oy L=>?_
   simp only[go_sem]
   exact L.bo (((Pw.put _ _ _).trans (hq.trans (Pw.put _ _ _))).to (by simp) (fun _=>by simp[iB]) (by simp; omega))
abbrev Kw:=List (Int × Bs)
def mV (H:Heap) (r:Nat) (l:Kw):Prop:=∃ es c,H[r]?=some (.map es c)∧es.toList.map (fun e=>(e.key,e.val))=l.map fun p=>(Value.int .i64 p.1,sv p.2)
theorem mV.lt {H:Heap} {r:Nat} {l:Kw} (h:mV H r l):r < H.size:=by
 obtain ⟨es,c,h1,_⟩:=h
 exact (Array.getElem?_eq_some_iff.1 h1).1
theorem mV.fr {M:List Nat} {H H':Heap} {r:Nat} {l:Kw} (h:mV H r l) (hf:Fr M H H') (hr:r ∉ M):mV H' r l:=by
 have ba:=h.lt
 obtain ⟨es,c,h1,h2⟩:=h
 exact ⟨es,c,by rw[hf.same r ba hr]; exact h1,h2⟩
theorem eD {H:Heap} {R:Value→Heap→Prop} (h:∀ r H',mV H' r []→Fr [] H H'→H.size≤r→R (.map (some r)) H'):ND H R:=
 h _ _ ⟨#[],0,by simp,rfl⟩ (oH _ _ _) (afJ _)
theorem LW:∀ {es:List MapEntry} {l:Kw} (s:Int) (i:Nat),es.map (fun e=>(e.key,e.val))=(l.map fun p=>(Value.int .i64 p.1,sv p.2))→
 (l.lookup s=none∧Instr.findNow (.int .i64) (.int .i64 s) es i=some none)∨∃ n j,l.lookup s=some n∧Instr.findNow (.int .i64) (.int .i64 s) es i=some (some (j,sv n))
 | [],[],s,i,_=>.inl ⟨rfl,rfl⟩
 | e :: es,p :: l,s,i,h=>by
   simp only[List.map_cons,List.cons.injEq,Prod.mk.injEq] at h
   obtain ⟨⟨h1,h2⟩,h3⟩:=h
   have hs:Instr.sameNow (.int .i64) (.int .i64 s) e.key=some (s == p.1):=by
    rw[h1]; rfl
   obtain ⟨a,b⟩:=p
   by_cases q:s=a
   ·subst q
    refine .inr ⟨b,i,by simp[aiw],?_⟩
    simp only[Instr.findNow,hs,beq_self_eq_true,h2]
   ·have hq:(s == a)=false:=by simpa using q
    have hl:((a,b) :: l).lookup s=l.lookup s:=by simp[aiw,hq]
    rw[hl]
    simp only[Instr.findNow,hs,hq]
    exact LW s (i + 1) h3
 | [],_ :: _,_,_,h=>by simp at h
 | _ :: _,[],_,_,h=>by simp at h
theorem aF {H Hb:Heap} {r:Nat} {l:Kw} {n:Int} {s:Bs} {R:Heap→Prop} (h:mV H r l) (hf:Fr [] Hb H) (hb:Hb.size≤r) (hs:l.lookup n=none) (hR:∀ H',mV H' r (l ++ [(n,s)])→Fr [] Hb H'→R H'):RX H r .i64 n (.string ⟨⟨s⟩⟩) R:=by
 have ba:=h.lt
 obtain ⟨es,c,h1,h2⟩:=h
 rcases LW n 0 h2 with ⟨_,gm⟩ | ⟨_,_,q,_⟩
 ·refine ⟨es,c,h1,gm,hR _ ⟨es.push ⟨.int .i64 n,.string ⟨⟨s⟩⟩,c⟩,c + 1,by simp[ba],by simp[h2,sv]⟩ (hf.trans' (M':=[r]) ⟨by simp,fun i hi hn=>?_⟩ (by simpa using hb))⟩
  have:r≠i:=by simpa [eq_comm] using hn
  simp[this]
 ·rw[hs] at q; cases q
def fI (l:Kw) (n:Int):Bs:=(l.lookup n).getD []
theorem dU {H:Heap} {r:Nat} {l:Kw} {n:Int} {R:Value→Prop} (h:mV H r l) (hR:R (.string ⟨⟨fI l n⟩⟩)):RY H (.string ⟨⟨[]⟩⟩) r .i64 n R:=by
 obtain ⟨es,c,h1,h2⟩:=h
 refine ⟨es,c,h1,?_⟩
 rcases LW n 0 h2 with ⟨q,hf⟩ | ⟨m,j,q,hf⟩
 ·exact .inr ⟨hf,by simpa [fI,q] using hR⟩
 ·exact .inl ⟨j,_,hf,by simpa [fI,q,sv] using hR⟩
def uT:Kw:=[(1,[105,110,116]),(2,[98,111,111,108]),(3,[110,97,109,101]),(4,[110,97,109,101,115])]
theorem LX (n:Int):decide (fI uT n≠[])=qD n∧(qD n=true→fI uT n=cC n)∧(fI uT n).length≤5:=by
 by_cases h1:n=1
 ·subst h1; decide
 by_cases h2:n=2
 ·subst h2; decide
 by_cases h3:n=3
 ·subst h3; decide
 by_cases h4:n=4
 ·subst h4; decide
 have e:fI uT n=[]:=by
  have e1:(n == 1)=false:=by simpa using h1
  have e2:(n == 2)=false:=by simpa using h2
  have e3:(n == 3)=false:=by simpa using h3
  have e4:(n == 4)=false:=by simpa using h4
  simp[fI,uT,aiw,e1,e2,e3,e4]
 have ho:qD n=false:=by
  unfold qD
  simp only[Bool.and_eq_false_iff,decide_eq_false_iff_not]
  omega
 rw[e,ho]; simp
theorem sK {H:Heap} {O:List Nat} {q:Nat} {s:Bs} {bad:Bool} (hp:Pr H O q s bad) {n:Int} :
 PC 98 [.pointer (some ⟨q,0,none⟩),.int .i64 n] H O q s bad (qD n) (cC n) 5:=by
 intro hw
 obtain ⟨w1,w2,w3⟩:=LX n
 refine af (args:=[_,_]) Tryz.func98 ZM (ahi rfl) ?_
 have L:=PL.start hp
 simp only[go_sem,c98]
 refine eD fun r H1 hm hf hr=>?_
 simp only[go_sem]
 refine aF hm hf hr rfl fun H1 hm hf=>?_
 simp only[go_sem]
 refine aF hm hf hr rfl fun H1 hm hf=>?_
 simp only[go_sem]
 refine aF hm hf hr rfl fun H1 hm hf=>?_
 simp only[go_sem]
 refine aF hm hf hr rfl fun H1 hm hf=>?_
 have L:=L.ext hf
 simp only[go_sem]
 have hm:mV H1 r uT:=hm
 refine dU hm ?_
 have hs:=cW (fI uT n)
 simp only[go_sem]
 refine (pF L.st _).mono ?_
 rintro v H2 ⟨rfl,h1,h2⟩
 have L:=L.sJ h1 h2 (Oo.refl _ _)
 have hm:=hm.fr h2 (fun hx=>by have:=hp.lt _ hx; omega)
 simp only[go_sem]
 refine dU hm ?_
 simp only[go_sem]
 refine L.bc fun bz Hz L=>?_
 simp only[go_sem]
 refine L.cq 0 [fI uT n] rfl (by simp) (by simp; omega) fun Hy Oy L=>?_
 simp only[go_sem]
 refine L.bo (((Pw.EY _ _ _).trans (Pw.put _ _ _)).to ?_ (fun h=>?_) (by simp; omega))
 ·rw[← w1]; simp only[hs]; simp
 ·rw[w2 (by rw[← w1]; simp only[hs] at h; simpa using h)]; simp
def qJ (k:Int):Bs × Nat × Nat × Nat:=match eH k with
 | some (o,lv,l,r)=>(fM o,lv,l,r)
 | none=>([],0,0,0)
def HX (k:Int):Value:=.tuple #[sv (qJ k).1,.int .i64 (qJ k).2.1,.int .i64 (qJ k).2.2.1,.int .i64 (qJ k).2.2.2]
def LY:Kw:=[(34,[60,61]),(35,[60]),(36,[61,61]),(37,[105,110]),(38,[108,101,113])]
theorem uU (k:Int) {H:Heap}:aE afI 46 #[.int .i64 k] H fun r H'=>r=HX k∧Fr [] H H':=by
 refine af (args:=[_]) Tryz.func46 Zt (ahi rfl) ?_
 simp only[go_sem,c46]
 have fin:∀ {a:Bs} {b c d:Nat},HX k= .tuple #[sv a,.int .i64 b,.int .i64 c,.int .i64 d]→(Value.tuple #[.string ⟨⟨a⟩⟩,.int .i64 b,.int .i64 c,.int .i64 d]=HX k):=fun h=>h.symm
 by_cases U5:k=31
 ·subst U5; simp only[go_sem]; exact ⟨rfl,Fr.refl _ _⟩
 by_cases U6:k=32
 ·subst U6; simp only[go_sem]; exact ⟨rfl,Fr.refl _ _⟩
 by_cases IA:k=39
 ·subst IA; simp only[go_sem]; exact ⟨rfl,Fr.refl _ _⟩
 by_cases Ni:k=40
 ·subst Ni; simp only[go_sem]; exact ⟨rfl,Fr.refl _ _⟩
 by_cases U7:k=41
 ·subst U7; simp only[go_sem]; exact ⟨rfl,Fr.refl _ _⟩
 by_cases U8:k=34
 ·subst U8
  simp only[go_sem]
  refine eD fun r H1 hm hf hr=>?_
  simp only[go_sem]
  refine aF hm hf hr rfl fun H1 hm hf=>?_
  simp only[go_sem]
  refine aF hm hf hr rfl fun H1 hm hf=>?_
  simp only[go_sem]
  refine aF hm hf hr rfl fun H1 hm hf=>?_
  simp only[go_sem]
  refine aF hm hf hr rfl fun H1 hm hf=>?_
  simp only[go_sem]
  refine aF hm hf hr rfl fun H1 hm hf=>?_
  simp only[go_sem]
  have hm:mV H1 r LY:=hm
  refine dU hm ?_
  exact ⟨rfl,hf⟩
 by_cases U9:k=35
 ·subst U9
  simp only[go_sem]
  refine eD fun r H1 hm hf hr=>?_
  simp only[go_sem]
  refine aF hm hf hr rfl fun H1 hm hf=>?_
  simp only[go_sem]
  refine aF hm hf hr rfl fun H1 hm hf=>?_
  simp only[go_sem]
  refine aF hm hf hr rfl fun H1 hm hf=>?_
  simp only[go_sem]
  refine aF hm hf hr rfl fun H1 hm hf=>?_
  simp only[go_sem]
  refine aF hm hf hr rfl fun H1 hm hf=>?_
  simp only[go_sem]
  have hm:mV H1 r LY:=hm
  refine dU hm ?_
  exact ⟨rfl,hf⟩
 by_cases Va:k=36
 ·subst Va
  simp only[go_sem]
  refine eD fun r H1 hm hf hr=>?_
  simp only[go_sem]
  refine aF hm hf hr rfl fun H1 hm hf=>?_
  simp only[go_sem]
  refine aF hm hf hr rfl fun H1 hm hf=>?_
  simp only[go_sem]
  refine aF hm hf hr rfl fun H1 hm hf=>?_
  simp only[go_sem]
  refine aF hm hf hr rfl fun H1 hm hf=>?_
  simp only[go_sem]
  refine aF hm hf hr rfl fun H1 hm hf=>?_
  simp only[go_sem]
  have hm:mV H1 r LY:=hm
  refine dU hm ?_
  exact ⟨rfl,hf⟩
 by_cases Vb:k=37
 ·subst Vb
  simp only[go_sem]
  refine eD fun r H1 hm hf hr=>?_
  simp only[go_sem]
  refine aF hm hf hr rfl fun H1 hm hf=>?_
  simp only[go_sem]
  refine aF hm hf hr rfl fun H1 hm hf=>?_
  simp only[go_sem]
  refine aF hm hf hr rfl fun H1 hm hf=>?_
  simp only[go_sem]
  refine aF hm hf hr rfl fun H1 hm hf=>?_
  simp only[go_sem]
  refine aF hm hf hr rfl fun H1 hm hf=>?_
  simp only[go_sem]
  have hm:mV H1 r LY:=hm
  refine dU hm ?_
  exact ⟨rfl,hf⟩
 by_cases Vc:k=38
 ·subst Vc
  simp only[go_sem]
  refine eD fun r H1 hm hf hr=>?_
  simp only[go_sem]
  refine aF hm hf hr rfl fun H1 hm hf=>?_
  simp only[go_sem]
  refine aF hm hf hr rfl fun H1 hm hf=>?_
  simp only[go_sem]
  refine aF hm hf hr rfl fun H1 hm hf=>?_
  simp only[go_sem]
  refine aF hm hf hr rfl fun H1 hm hf=>?_
  simp only[go_sem]
  refine aF hm hf hr rfl fun H1 hm hf=>?_
  simp only[go_sem]
  have hm:mV H1 r LY:=hm
  refine dU hm ?_
  exact ⟨rfl,hf⟩
 simp only[go_sem,U5,U6,IA,Ni,U7,U8,U9,Va,Vb,Vc]
 refine ⟨?_,Fr.refl _ _⟩
 simp[HX,qJ,eH,U5,U6,IA,Ni,U7,U8,U9,Va,Vb,Vc,sv]
theorem Gu {k:Int} {o:Tk} {lv l r:Nat} (h:eH k=some (o,lv,l,r)):fM o≠[]:=by
 unfold eH at h
 repeat' split at h
 all_goals first
  | (cases h; done)
  | (simp only[ae9.injEq,Prod.mk.injEq] at h; obtain ⟨rfl,_⟩:=h; decide)
theorem LZ (k:Int) {n a:Int} {t:Bs} {aa:Option Addr} {m cc:Nat} {H:Heap} :
 aE afI 45 #[.agg #[.int .i64 k,sv t,.int .i64 n,.int .i64 a,.slice aa m cc]] H fun r H'=>r= .int .i64 (ko k)∧Fr [] H H':=by
 refine af (args:=[_]) Tryz.func45 Zr (ahi rfl) ?_
 simp only[go_sem,c45]
 refine ay fun H1 vr bY _=>?_
 have k0:=vr.cell 0
 by_cases ym:k=30
 ·subst ym; simp only[go_sem,k0]; exact ⟨rfl,bY⟩
 by_cases yH:k=33
 ·subst yH; simp only[go_sem,k0]; exact ⟨rfl,bY⟩
 by_cases AX:k=42
 ·subst AX; simp only[go_sem,k0]; exact ⟨rfl,bY⟩
 by_cases Bj:k=43
 ·subst Bj; simp only[go_sem,k0]; exact ⟨rfl,bY⟩
 simp only[go_sem,k0,ym,yH,AX,Bj]
 refine (uU k).mono ?_
 rintro r H2 ⟨rfl,cQ⟩
 have hl:ko k=match eH k with
  | some x=>x.2.1
  | none=>8:=by
  unfold ko
  rw[if_neg ym,if_neg yH,if_neg (by omega)]
  cases eH k <;> rfl
 have hs:=cW (qJ k).1
 unfold HX sv
 cases hb:eH k with
 | some x=>
   obtain ⟨o,lv,l,r⟩:=x
   have ho:qJ k=(fM o,lv,l,r):=by simp[qJ,hb]
   have dH:=Gu hb
   rw[ho] at hs ⊢
   rw[hb] at hl
   simp only[go_sem,hs,dH]
   exact ⟨by rw[hl],bY.trans cQ⟩
 | none=>
   have ho:qJ k=([],0,0,0):=by simp[qJ,hb]
   rw[ho] at hs ⊢
   rw[hb] at hl
   simp only[go_sem,hs]
   exact ⟨by rw[hl]; rfl,bY.trans cQ⟩
end Go.Proofs.YtmhdkbmnpekpoaaGreatDoor
