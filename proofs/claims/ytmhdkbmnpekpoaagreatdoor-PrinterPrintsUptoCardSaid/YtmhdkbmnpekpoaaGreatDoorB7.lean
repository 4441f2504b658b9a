import Derived.Test.YtmhdkbmnpekpoaaGreatDoorB6
import Derived.Test.YtmhdkbmnpekpoaaGreatDoorB2
import Derived.Test.YtmhdkbmnpekpoaaGreatDoorB5
import Derived.Test.YtmhdkbmnpekpoaaGreatDoorB3
open Bool renaming and_eq_true→ae5,false_or→aip,and_assoc→aiR,true_and→ahG,false_and→ahN,not_true→aiY
open Go.Proofs.Tryz renaming prog→afI,func109→aiZ,underlying98→ai0
open Nat renaming le_of_ble_eq_true→ahi,le_refl→afJ,add_zero→ahl,zero_le→ahn,lt_or_ge→ae8,zero_mul→aiL,one_mul→aiM,reduceAdd→aiN,reduceMul→aiO,le_trans→ah8,eq_zero_or_pos→aiP,zero_add→afT
open List renaming sublist_cons_self→ahj,length_cons→afK,length_append→ah1,cons_append→ahm,length_pos_iff→aho,getElem_cons_succ→ah2,getElem_cons_zero→aiK,mem_cons→afa,all_cons→afb,take_succ_eq_append_getElem→aim,take_succ_cons→ahq,takeWhile_cons→ahr,length_drop→ahs,length_nil→aht,take_length→ain,nil_append→ahv,all_eq_true→afg,isEmpty_iff→ah6,drop_eq_nil_of_le→afO,map_cons→afi,length_take→afP,not_mem_nil→ahy,dropWhile_cons→ahz,cons→afV,sum_cons→aiQ,getElem_append_left→aiS,map_take→aiT,dropLast_eq_take→aiU,getElem_append_right→aiW
open Go.IntKind renaming i64→afd
open Go.Value renaming oneCell'→ah3,agg→aiV
open Go.Lib renaming itoa→ah4,decDigits→ah5
open Array renaming mk→aiX
set_option linter.unusedSimpArgs false
set_option linter.unusedVariables false
set_option maxRecDepth 8000
namespace Go.Proofs.YtmhdkbmnpekpoaaGreatDoor
open Gx Go
mutual
def wN:Nd→Nat
 | .mk _ t _ _ ks=>t.length + 64 + wL ks
def wL:List Nd→Nat
 | []=>0
 | x :: r=>wN x + wL r
end
mutual
def ny:Nd→Prop
 | .mk _ _ n _ ks=>-9223372036854775808≤n∧n≤9223372036854775807∧EZ ks
def EZ:List Nd→Prop
 | []=>True
 | x :: r=>ny x∧EZ r
end
theorem Pw.no {s t':Bs} {b k':Bool} {w':Nat} (bZ:k'=true→False):Pw s b s (b || !false) k' t' w':=by
 have h:=Pw.EY s b false
 rw[show (b || !false)=true by cases b <;> rfl] at h ⊢
 exact h.stop (fun h=>(bZ h).elim) (by omega)
def oB (N:Nat):Prop:=∀ x:Nd,aq x≤N→ny x→∀ {H:Heap} {O:List Nat} {q:Nat} {s:Bs} {bad:Bool} (hp:Pr H O q s bad) (hG:bS H) {v:Value} (hx:NO H O x v) (req:Nat),req≤8→
 PC 23 [.pointer (some ⟨q,0,none⟩),v,.int .i64 req] H O q s bad (okB x) (iU x req) (wN x - 2)
theorem AY {k n p:Int} {t:Bs} {ks:List Nd} {o:Tk} {lv l r:Nat} (hb:eH k=some (o,lv,l,r)):okB (.mk k t n p ks)=match ks with
 | [a,b]=>decide (t=[]) && decide (n=0) && okB a && okB b
 | _=>false:=by
 rw[okB.eq_def]; simp only[hb]
 rcases ks with _ | ⟨a,_ | ⟨b,_ | ⟨c,r⟩⟩⟩ <;> rfl
theorem E0 {n p:Int} {t:Bs} {ks:List Nd}:okB (.mk 30 t n p ks)=match ks with
 | [a,b,c]=>decide (t=[]) && decide (n=0) && okB a && okB b && okB c
 | _=>false:=by
 rw[okB.eq_def]
 rcases ks with _ | ⟨a,_ | ⟨b,_ | ⟨c,_ | ⟨d,r⟩⟩⟩⟩ <;> rfl
theorem E1 {n p:Int} {t:Bs} {ks:List Nd}:okB (.mk 33 t n p ks)=match ks with
 | [a]=>decide (t=[]) && decide (n=0) && okB a
 | _=>false:=by
 rw[okB.eq_def]
 rcases ks with _ | ⟨a,_ | ⟨b,r⟩⟩ <;> rfl
theorem E2 {n p:Int} {t:Bs} {ks:List Nd}:okB (.mk 42 t n p ks)=match ks with
 | [a]=>aT t && decide (n=0) && okB a
 | _=>false:=by
 rw[okB.eq_def]
 rcases ks with _ | ⟨a,_ | ⟨b,r⟩⟩ <;> rfl
theorem E3 {n p:Int} {t:Bs} {ks:List Nd}:okB (.mk 43 t n p ks)=match ks with
 | [a,b]=>decide (t=[]) && decide (n=0) && okB a && okB b
 | _=>false:=by
 rw[okB.eq_def]
 rcases ks with _ | ⟨a,_ | ⟨b,_ | ⟨c,r⟩⟩⟩ <;> rfl
def E4 (N:Nat):Prop:=∀ (k n a:Int) (t:Bs) (ks:List Nd),aA ks≤N→ny (.mk k t n a ks)→eH k=none→k≠30→k≠33→k≠42→k≠43→∀ {H:Heap} {O:List Nat} {q:Nat} {s:Bs} {bad:Bool} (hp:Pr H O q s bad) (hG:bS H) {v:Value} (hx:NO H O (.mk k t n a ks) v),
 PC 49 [.pointer (some ⟨q,0,none⟩),v] H O q s bad (okB (.mk k t n a ks)) (sB (.mk k t n a ks)) (t.length + 60 + wL ks)
theorem Py {k:Int} {o:Tk} {lv l r:Nat} (h:eH k=some (o,lv,l,r)):l≤7∧r≤7∧(fM o).length≤4:=by
 unfold eH at h
 repeat' split at h
 all_goals first
  | (cases h; done)
  | (simp only[Option.some.injEq,Prod.mk.injEq] at h; obtain ⟨rfl,rfl,rfl,rfl⟩:=h; decide)
def ifO (x y z:Nd):Nat→Bool
 | 0=>true
 | 1=>okB x
 | 2=>okB x && okB y
 | _=>okB x && okB y && okB z
def ifT (x y z:Nd):Nat→Bs
 | 0=>[]
 | 1=>[105,102,32] ++ sB x
 | 2=>[105,102,32] ++ (sB x ++ ([32,116,104,101,110,32] ++ sB y))
 | _=>[105,102,32] ++ (sB x ++ ([32,116,104,101,110,32] ++ (sB y ++ ([32,101,108,115,101,32] ++ sB z))))
def L2 (x y z:Nd):Nat→Nat
 | 0=>0
 | 1=>6 + wN x
 | 2=>12 + (wN x + wN y)
 | _=>18 + (wN x + wN y + wN z)
theorem zA {N:Nat} (ih:oB N) (ihp:E4 N) {k n a:Int} {t:Bs} {ks:List Nd} (dO:aA ks≤N) (dP:ny (.mk k t n a ks)) {H0 H1:Heap} {O0 O1:List Nat} {q bx cc:Nat} {aa:Option Addr} {s1:Bs} {b1:Bool} {l:List dR} (hG:bS H0) {s0:Bs} {b0:Bool} (hp:Pr H0 O0 q s0 b0)
 (hk:dA H0 O0 (aW ks) [.slice aa ks.length cc]) (eJ:ks.length≤maxLen) (L:PL O0 H0 q O1 s1 b1 H1 l) (i:Nat) (hi:l[i]?=some (.dz bx 24 [.int .i64 k,sv t,.int .i64 n,.int .i64 a,.slice aa ks.length cc]))
 (hw:s1.length + (t.length + 60 + wL ks)≤140737488355328) {K:Heap→Prop} (hK:∀ H' O' s' b',PL O0 H0 q O' s' b' H' l→Pw s1 b1 s' b' (okB (.mk k t n a ks)) (sB (.mk k t n a ks)) (t.length + 60 + wL ks)→K H') (o1 o2 o4 o5 o6 o7 o8 o9 o10 o11 o12 o13 o14 o15 o16 o17 o18 o19 o20 o21 o22 o23 o24:Option Value) :
 vc afI (fun _ _=>False) Tm [some (.pointer (some ⟨q,0,none⟩)),o1,o2,some (.pointer (some ⟨bx,0,none⟩)),o4,o5,o6,o7,o8,o9,o10,o11,o12,o13,o14,o15,o16,o17,o18,o19,o20,o21,o22,o23,o24] H1 (fun x _ H'=>match x with | .ext _=>False | _=>K H'):=by
 have ca:=L.cell i hi
 simp only[go_sem,Tm,ca]
 refine (uU k).mono ?_
 rintro r H2 ⟨rfl,cQ⟩
 have L:=L.ext cQ
 have hs:=cW (qJ k).1
 unfold HX sv
 cases hb:eH k with
 | some x=>
   obtain ⟨o,lv,lo,ro⟩:=x
   have ho:qJ k=(fM o,lv,lo,ro):=by simp[qJ,hb]
   have dH:=Gu hb
   rw[ho] at hs ⊢
   have ca:=L.cell i hi
   simp only[go_sem,hs,dH,ca]
   refine (ga (t:=t)).mono ?_
   rintro r H3 ⟨rfl,dE⟩
   have L:=L.ext dE
   have ca:=L.cell i hi
   have dj:=AY (t:=t) (n:=n) (p:=a) (ks:=ks) hb
   by_cases hA:t=[]∧n=0∧ks.length=2
   ·obtain ⟨rfl,rfl,h2⟩:=hA
    match ks,h2 with
    | [x,y],_=>
    rw[jt hb] at hK
    obtain ⟨lv1,lv2,lv3⟩:=Py hb
    simp only at dj
    simp only[go_sem,ca]
    refine L.cu true (by simp) fun H4 L hm=>?_
    cases b1 with
    | true=>
      simp only[go_sem]
      exact hK _ _ _ _ L (hm.stop (fun _=>rfl) (by omega))
    | false=>
      obtain ⟨b,o',c,k1,t1,n1,a1,bm,mD,e1,e2,⟨q0,q1,q2,q3,q4⟩,hr,fi,bF⟩:=gr hk 0 (by simp)
      cases e1
      have ca:=L.cell i hi
      have q0:=ab q0 L.fr bF
      have q1:=ab q1 L.fr bF
      have q2:=ab q2 L.fr bF
      have q3:=ab q3 L.fr bF
      have q4:=ab q4 L.fr bF
      unfold sv at q1
      simp only[aiL,aiM,ahl,aiO,aiN] at q0 q1 q2 q3 q4
      simp only[go_sem,ca,q0,q1,q2,q3,q4]
      simp only[aA,ny,EZ,wL] at dO dP hw
      refine L.gv (ih x (by omega) dP.2.2.1 L.st (hp.eQ hG L.fr) (L.nh hr) lo (by omega)) (by omega) fun H5 O5 s5 b5 L hx=>?_
      have E5:=hx.len
      simp only[go_sem]
      refine L.bc fun bz Hz L=>?_
      simp only[go_sem]
      refine L.cq 0 [[32],fM o,[32]] rfl (by simp) (by first | omega | (simp; omega) | simp) fun Hy Oy L=>?_
      have L:=L.drop (ahj _ _) (fun _ h=>h)
      obtain ⟨b,o',c,k1,t1,n1,a1,bm,mD,e1,e2,⟨q0,q1,q2,q3,q4⟩,hr,fi,bF⟩:=gr hk 1 (by simp)
      cases e1
      have ca:=L.cell i hi
      have q0:=ab q0 L.fr bF
      have q1:=ab q1 L.fr bF
      have q2:=ab q2 L.fr bF
      have q3:=ab q3 L.fr bF
      have q4:=ab q4 L.fr bF
      unfold sv at q1
      simp only[aiL,aiM,ahl,aiO,aiN] at q0 q1 q2 q3 q4
      simp only[go_sem,ca,q0,q1,q2,q3,q4]
      refine L.gv (ih y (by omega) dP.2.2.2.1 L.st (hp.eQ hG L.fr) (L.nh hr) ro (by omega)) (by first | omega | (simp; omega) | simp) fun H6 O6 s6 b6 L hy=>?_
      simp only[go_sem]
      refine hK _ _ _ _ L ((hm.trans (hx.trans ((Pw.put _ _ _).trans hy))).to ?_ (fun _=>by simp) (by first | omega | (simp[wL]; omega) | simp[wL]))
      rw[dj]; simp
   ·have bZ:okB (.mk k t n a ks)=true→False:=by
     rw[dj]
     intro h
     split at h
     ·simp only[ae5,decide_eq_true_eq] at h
      exact hA ⟨h.1.1.1,h.1.1.2,rfl⟩
     ·cases h
    simp only[go_sem,ca]
    refine L.cu false (by grind) fun H4 L hm=>?_
    simp only[go_sem]
    exact hK _ _ _ _ L (Pw.no bZ)
 | none=>
   have ho:qJ k=([],0,0,0):=by simp[qJ,hb]
   rw[ho] at hs ⊢
   have ca:=L.cell i hi
   by_cases ym:k=30
   ·subst ym
    simp only[go_sem,hs,ca]
    refine (ga (t:=t)).mono ?_
    rintro r H3 ⟨rfl,dE⟩
    have L:=L.ext dE
    have ca:=L.cell i hi
    have dj:=E0 (t:=t) (n:=n) (p:=a) (ks:=ks)
    by_cases hA:t=[]∧n=0∧ks.length=3
    ·obtain ⟨rfl,rfl,h2⟩:=hA
     match ks,h2 with
     | [x,y,z],_=>
     rw[xB] at hK
     simp only at dj
     simp only[aA,ny,EZ,wL] at dO dP hw
     simp only[go_sem,ca]
     refine L.cu true (by simp) fun H4 L hm=>?_
     cases b1 with
     | true=>
       simp only[go_sem]
       exact hK _ _ _ _ L (hm.stop (fun _=>rfl) (by omega))
     | false=>
       simp only[go_sem]
       refine bC (fun (j:Nat) H'=>j≤3∧∃ O' s' b',PL O0 H0 q O' s' b' H' l∧Pw s1 false s' b' (ifO x y z j) (ifT x y z j) (L2 x y z j))
        (fun j=>[(0,.pointer (some ⟨q,0,none⟩)),(4,.pointer (some ⟨bx,0,none⟩)),(77,.agg #[.string ⟨⟨[105,102,32]⟩⟩,.string ⟨⟨[32,116,104,101,110,32]⟩⟩,.string ⟨⟨[32,101,108,115,101,32]⟩⟩]),(78,.int .i64 j)]) (fun j=>3 - j) 0 ?_ ?_ ?_
       ·exact ⟨by omega,O1,s1,false,L,Pw.refl _ _⟩
       ·simp only[go_sem]
       ·rintro j H5 ⟨hj,O5,s5,b5,L,eZ⟩
        have hlen:=eZ.len
        match j,hj with
        | 0,_=>
          simp only[L2] at hlen
          have hj0:(0:Int)≤((0:Nat):Int):=by omega
          have hj1:((0:Nat):Int) < 3:=by omega
          simp only[go_sem,hj0,hj1]
          refine L.bc fun bz Hz L=>?_
          simp only[go_sem]
          refine L.cq 0 [[105,102,32]] rfl (by simp) (by first | omega | (simp; omega) | simp) fun Hy Oy L=>?_
          have L:=L.drop (ahj _ _) (fun _ h=>h)
          obtain ⟨b,o',c,k1,t1,n1,a1,bm,mD,e1,e2,⟨q0,q1,q2,q3,q4⟩,hr,fi,bF⟩:=gr hk 0 (by simp)
          cases e1
          have ca:=L.cell i hi
          have q0:=ab q0 L.fr bF
          have q1:=ab q1 L.fr bF
          have q2:=ab q2 L.fr bF
          have q3:=ab q3 L.fr bF
          have q4:=ab q4 L.fr bF
          unfold sv at q1
          simp only[aiL,aiM,ahl,aiO,aiN] at q0 q1 q2 q3 q4
          simp only[go_sem,ca,q0,q1,q2,q3,q4]
          refine L.gv (ih x (by omega) dP.2.2.1 L.st (hp.eQ hG L.fr) (L.nh hr) 0 (by omega)) (by first | omega | (simp; omega) | simp) fun H6 O6 s6 b6 L hx=>?_
          simp only[go_sem]
          refine aj (0 + 1) ?_ ?_ ⟨by omega,O6,s6,b6,L,?_⟩
          ·show 3 - (0 + 1) < 3 - 0
           omega
          ·simp only[go_sem]
           rfl
          ·exact (eZ.trans ((Pw.put _ _ _).trans hx)).to (by simp[ifO]) (fun _=>by simp[ifT,fZ]) (by first | omega | (simp[L2]; omega) | simp[L2])
        | 1,_=>
          simp only[L2] at hlen
          have hj0:(0:Int)≤((1:Nat):Int):=by omega
          have hj1:((1:Nat):Int) < 3:=by omega
          simp only[go_sem,hj0,hj1]
          refine L.bc fun bz Hz L=>?_
          simp only[go_sem]
          refine L.cq 0 [[32,116,104,101,110,32]] rfl (by simp) (by first | omega | (simp; omega) | simp) fun Hy Oy L=>?_
          have L:=L.drop (ahj _ _) (fun _ h=>h)
          obtain ⟨b,o',c,k1,t1,n1,a1,bm,mD,e1,e2,⟨q0,q1,q2,q3,q4⟩,hr,fi,bF⟩:=gr hk 1 (by simp)
          cases e1
          have ca:=L.cell i hi
          have q0:=ab q0 L.fr bF
          have q1:=ab q1 L.fr bF
          have q2:=ab q2 L.fr bF
          have q3:=ab q3 L.fr bF
          have q4:=ab q4 L.fr bF
          unfold sv at q1
          simp only[aiL,aiM,ahl,aiO,aiN] at q0 q1 q2 q3 q4
          simp only[go_sem,ca,q0,q1,q2,q3,q4]
          refine L.gv (ih y (by omega) dP.2.2.2.1 L.st (hp.eQ hG L.fr) (L.nh hr) 0 (by omega)) (by first | omega | (simp; omega) | simp) fun H6 O6 s6 b6 L hx=>?_
          simp only[go_sem]
          refine aj (1 + 1) ?_ ?_ ⟨by omega,O6,s6,b6,L,?_⟩
          ·show 3 - (1 + 1) < 3 - 1
           omega
          ·simp only[go_sem]
           rfl
          ·exact (eZ.trans ((Pw.put _ _ _).trans hx)).to (by simp[ifO]) (fun _=>by simp[ifT,fZ]) (by first | omega | (simp[L2]; omega) | simp[L2])
        | 2,_=>
          simp only[L2] at hlen
          have hj0:(0:Int)≤((2:Nat):Int):=by omega
          have hj1:((2:Nat):Int) < 3:=by omega
          simp only[go_sem,hj0,hj1]
          refine L.bc fun bz Hz L=>?_
          simp only[go_sem]
          refine L.cq 0 [[32,101,108,115,101,32]] rfl (by simp) (by first | omega | (simp; omega) | simp) fun Hy Oy L=>?_
          have L:=L.drop (ahj _ _) (fun _ h=>h)
          obtain ⟨b,o',c,k1,t1,n1,a1,bm,mD,e1,e2,⟨q0,q1,q2,q3,q4⟩,hr,fi,bF⟩:=gr hk 2 (by simp)
          cases e1
          have ca:=L.cell i hi
          have q0:=ab q0 L.fr bF
          have q1:=ab q1 L.fr bF
          have q2:=ab q2 L.fr bF
          have q3:=ab q3 L.fr bF
          have q4:=ab q4 L.fr bF
          unfold sv at q1
          simp only[aiL,aiM,ahl,aiO,aiN] at q0 q1 q2 q3 q4
          simp only[go_sem,ca,q0,q1,q2,q3,q4]
          refine L.gv (ih z (by omega) dP.2.2.2.2.1 L.st (hp.eQ hG L.fr) (L.nh hr) 0 (by omega)) (by first | omega | (simp; omega) | simp) fun H6 O6 s6 b6 L hx=>?_
          simp only[go_sem]
          refine aj (2 + 1) ?_ ?_ ⟨by omega,O6,s6,b6,L,?_⟩
          ·show 3 - (2 + 1) < 3 - 2
           omega
          ·simp only[go_sem]
           rfl
          ·exact (eZ.trans ((Pw.put _ _ _).trans hx)).to (by simp[ifO]) (fun _=>by simp[ifT,fZ]) (by first | omega | (simp[L2]; omega) | simp[L2])
        | 3,_=>
          simp only[go_sem]
          refine hK _ _ _ _ L (eZ.to ?_ (fun _=>by simp[ifT]) (by simp[L2,wL]; omega))
          rw[dj]; simp[ifO]
    ·have bZ:okB (.mk 30 t n a ks)=true→False:=by
      rw[dj]
      intro h
      split at h
      ·simp only[ae5,decide_eq_true_eq] at h
       exact hA ⟨by grind,by grind,rfl⟩
      ·cases h
     simp only[go_sem,ca]
     refine L.cu false (by grind) fun H4 L hm=>?_
     simp only[go_sem]
     exact hK _ _ _ _ L (Pw.no bZ)
   by_cases yH:k=33
   ·subst yH
    simp only[go_sem,hs,ca]
    refine (ga (t:=t)).mono ?_
    rintro r H3 ⟨rfl,dE⟩
    have L:=L.ext dE
    have ca:=L.cell i hi
    have dj:=E1 (t:=t) (n:=n) (p:=a) (ks:=ks)
    by_cases hA:t=[]∧n=0∧ks.length=1
    ·obtain ⟨rfl,rfl,h2⟩:=hA
     match ks,h2 with
     | [x],_=>
     rw[qE] at hK
     simp only at dj
     simp only[aA,ny,EZ,wL] at dO dP hw
     simp only[go_sem,ca]
     refine L.cu true (by simp) fun H4 L hm=>?_
     cases b1 with
     | true=>
       simp only[go_sem]
       exact hK _ _ _ _ L (hm.stop (fun _=>rfl) (by omega))
     | false=>
       simp only[go_sem]
       refine L.bc fun bz Hz L=>?_
       simp only[go_sem]
       refine L.cq 0 [[110,111,116,32]] rfl (by simp) (by first | omega | (simp; omega) | simp) fun Hy Oy L=>?_
       have L:=L.drop (ahj _ _) (fun _ h=>h)
       obtain ⟨b,o',c,k1,t1,n1,a1,bm,mD,e1,e2,⟨q0,q1,q2,q3,q4⟩,hr,fi,bF⟩:=gr hk 0 (by simp)
       cases e1
       have ca:=L.cell i hi
       have q0:=ab q0 L.fr bF
       have q1:=ab q1 L.fr bF
       have q2:=ab q2 L.fr bF
       have q3:=ab q3 L.fr bF
       have q4:=ab q4 L.fr bF
       unfold sv at q1
       simp only[aiL,aiM,ahl,aiO,aiN] at q0 q1 q2 q3 q4
       simp only[go_sem,ca,q0,q1,q2,q3,q4]
       refine L.gv (ih x (by omega) dP.2.2.1 L.st (hp.eQ hG L.fr) (L.nh hr) 3 (by omega)) (by first | omega | (simp; omega) | simp) fun H5 O5 s5 b5 L hx=>?_
       simp only[go_sem]
       refine hK _ _ _ _ L ((hm.trans ((Pw.put _ _ _).trans hx)).to ?_ (fun _=>by simp) (by first | omega | (simp[wL]; omega) | simp[wL]))
       rw[dj]; simp
    ·have bZ:okB (.mk 33 t n a ks)=true→False:=by
      rw[dj]
      intro h
      split at h
      ·simp only[ae5,decide_eq_true_eq] at h
       exact hA ⟨by grind,by grind,rfl⟩
      ·cases h
     simp only[go_sem,ca]
     refine L.cu false (by grind) fun H4 L hm=>?_
     simp only[go_sem]
     exact hK _ _ _ _ L (Pw.no bZ)
   by_cases AX:k=42
   ·subst AX
    simp only[go_sem,hs,ca]
    have dj:=E2 (t:=t) (n:=n) (p:=a) (ks:=ks)
    by_cases hA:ks.length=1
    ·match ks,hA with
     | [x],_=>
     rw[l5] at hK
     simp only at dj
     simp only[aA,ny,EZ,wL] at dO dP hw
     refine L.cu true (by simp) fun H4 L hm=>?_
     cases b1 with
     | true=>
       simp only[go_sem]
       exact hK _ _ _ _ L (hm.stop (fun _=>rfl) (by omega))
     | false=>
       obtain ⟨b,o',c,k1,t1,n1,a1,bm,mD,e1,e2,⟨q0,q1,q2,q3,q4⟩,hr,fi,bF⟩:=gr hk 0 (by simp)
       cases e1
       have ca:=L.cell i hi
       have q0:=ab q0 L.fr bF
       have q1:=ab q1 L.fr bF
       have q2:=ab q2 L.fr bF
       have q3:=ab q3 L.fr bF
       have q4:=ab q4 L.fr bF
       unfold sv at q1
       simp only[aiL,aiM,ahl,aiO,aiN] at q0 q1 q2 q3 q4
       simp only[go_sem,ca,q0,q1,q2,q3,q4]
       refine L.gv (ih x (by omega) dP.2.2.1 L.st (hp.eQ hG L.fr) (L.nh hr) 7 (by omega)) (by first | omega | (simp; omega) | simp) fun H5 O5 s5 b5 L hx=>?_
       have E5:=hx.len
       simp only[go_sem]
       refine L.bc fun bz Hz L=>?_
       simp only[go_sem]
       refine L.cq 0 [[46]] rfl (by simp) (by first | omega | (simp; omega) | simp) fun Hy Oy L=>?_
       have L:=L.drop (ahj _ _) (fun _ h=>h)
       have ca:=L.cell i hi
       simp only[go_sem,ca]
       refine L.gv (eL L.st) (by first | omega | (simp; omega) | simp) fun H6 O6 s6 b6 L hn=>?_
       simp only[go_sem]
       refine hK _ _ _ _ L ((hm.trans (hx.trans ((Pw.put _ _ _).trans hn))).to ?_ (fun _=>by simp) (by first | omega | (simp[wL]; omega) | simp[wL]))
       rw[dj]; simp[fH,aT]; grind
    ·have bZ:okB (.mk 42 t n a ks)=true→False:=by
      rw[dj]
      intro h
      split at h
      ·exact hA rfl
      ·cases h
     refine L.cu false (by grind) fun H4 L hm=>?_
     simp only[go_sem]
     exact hK _ _ _ _ L (Pw.no bZ)
   by_cases Bj:k=43
   ·subst Bj
    simp only[go_sem,hs,ca]
    refine (ga (t:=t)).mono ?_
    rintro r H3 ⟨rfl,dE⟩
    have L:=L.ext dE
    have ca:=L.cell i hi
    have dj:=E3 (t:=t) (n:=n) (p:=a) (ks:=ks)
    by_cases hA:t=[]∧n=0∧ks.length=2
    ·obtain ⟨rfl,rfl,h2⟩:=hA
     match ks,h2 with
     | [x,y],_=>
     rw[l6] at hK
     simp only at dj
     simp only[aA,ny,EZ,wL] at dO dP hw
     simp only[go_sem,ca]
     refine L.cu true (by simp) fun H4 L hm=>?_
     cases b1 with
     | true=>
       simp only[go_sem]
       exact hK _ _ _ _ L (hm.stop (fun _=>rfl) (by omega))
     | false=>
       obtain ⟨b,o',c,k1,t1,n1,a1,bm,mD,e1,e2,⟨q0,q1,q2,q3,q4⟩,hr,fi,bF⟩:=gr hk 0 (by simp)
       cases e1
       have ca:=L.cell i hi
       have q0:=ab q0 L.fr bF
       have q1:=ab q1 L.fr bF
       have q2:=ab q2 L.fr bF
       have q3:=ab q3 L.fr bF
       have q4:=ab q4 L.fr bF
       unfold sv at q1
       simp only[aiL,aiM,ahl,aiO,aiN] at q0 q1 q2 q3 q4
       simp only[go_sem,ca,q0,q1,q2,q3,q4]
       refine L.gv (ih x (by omega) dP.2.2.1 L.st (hp.eQ hG L.fr) (L.nh hr) 7 (by omega)) (by first | omega | (simp; omega) | simp) fun H5 O5 s5 b5 L hx=>?_
       have E5:=hx.len
       simp only[go_sem]
       refine L.bc fun bz Hz L=>?_
       simp only[go_sem]
       refine L.cq 0 [[91]] rfl (by simp) (by first | omega | (simp; omega) | simp) fun Hy Oy L=>?_
       have L:=L.drop (ahj _ _) (fun _ h=>h)
       obtain ⟨b,o',c,k1,t1,n1,a1,bm,mD,e1,e2,⟨q0,q1,q2,q3,q4⟩,hr,fi,bF⟩:=gr hk 1 (by simp)
       cases e1
       have ca:=L.cell i hi
       have q0:=ab q0 L.fr bF
       have q1:=ab q1 L.fr bF
       have q2:=ab q2 L.fr bF
       have q3:=ab q3 L.fr bF
       have q4:=ab q4 L.fr bF
       unfold sv at q1
       simp only[aiL,aiM,ahl,aiO,aiN] at q0 q1 q2 q3 q4
       simp only[go_sem,ca,q0,q1,q2,q3,q4]
       refine L.gv (ih y (by omega) dP.2.2.2.1 L.st (hp.eQ hG L.fr) (L.nh hr) 0 (by omega)) (by first | omega | (simp; omega) | simp) fun H6 O6 s6 b6 L hy=>?_
       have Wv:=hy.len
       simp at Wv
       simp only[go_sem]
       refine L.bc fun bz Hz L=>?_
       simp only[go_sem]
       refine L.cq 0 [[93]] rfl (by simp) (by first | omega | (simp; omega) | simp) fun Hy Oy L=>?_
       have L:=L.drop (ahj _ _) (fun _ h=>h)
       simp only[go_sem]
       refine hK _ _ _ _ L ((hm.trans (hx.trans ((Pw.put _ _ _).trans (hy.trans (Pw.put _ _ _))))).to ?_ (fun _=>by simp[fZ]) (by first | omega | (simp[wL]; omega) | simp[wL]))
       rw[dj]; simp
    ·have bZ:okB (.mk 43 t n a ks)=true→False:=by
      rw[dj]
      intro h
      split at h
      ·simp only[ae5,decide_eq_true_eq] at h
       exact hA ⟨by grind,by grind,rfl⟩
      ·cases h
     simp only[go_sem,ca]
     refine L.cu false (by grind) fun H4 L hm=>?_
     simp only[go_sem]
     exact hK _ _ _ _ L (Pw.no bZ)
   simp only[go_sem,hs,ca,ym,yH,AX,Bj]
   refine L.gv (ihp k n a t ks dO dP hb ym yH AX Bj L.st (hp.eQ hG L.fr) (L.nh (NO.mk hk))) (by omega) fun H5 O5 s5 b5 L hx=>?_
   simp only[go_sem]
   exact hK _ _ _ _ L hx
theorem HY {N:Nat} (ih:oB N) (ihp:E4 N):oB (N + 1):=by
 intro x hN dP H O q s bad hp hG v hx req ae1 hw
 obtain ⟨k,t,n,a,ks⟩:=x
 obtain ⟨aa,cc,rfl,hk,jG,eJ⟩:=hx.open
 simp only[aq] at hN
 have tm:wN (.mk k t n a ks)=t.length + 64 + wL ks:=rfl
 rw[tm] at hw
 refine yw (args:=[_,_,_]) Tryz.func23 YS (ahi rfl) ?_
 have L:=PL.start hp
 simp only[go_sem,c23,YP]
 refine L.aS fun bx H1 L=>?_
 have ca:=L.cell 0 rfl
 simp only[go_sem,QH,YO,ca]
 refine (LZ k).mono ?_
 rintro r H2 ⟨rfl,cQ⟩
 have L:=L.ext cQ
 simp only[go_sem]
 refine ⟨fun ba=>?_,fun nf=>?_⟩
 ·have UT:iU (.mk k t n a ks) req=40 :: (sB (.mk k t n a ks) ++ [41]):=by
   have:jm (.mk k t n a ks) < req:=by show ko k < req; omega
   simp[iU,ou,this]
  simp only[go_sem,YQ]
  refine L.bc fun bz Hz L=>?_
  simp only[go_sem]
  refine L.cq 0 [[40]] rfl (by simp) (by first | omega | (simp; omega) | simp) fun Hy Oy L=>?_
  have L:=L.drop (ahj _ _) (fun _ h=>h)
  simp only[go_sem,YR]
  refine L.bc fun bz Hz L=>?_
  simp only[go_sem]
  refine ⟨_,rfl,?_⟩
  refine zA ih ihp (by omega) dP hG hp hk eJ L 1 rfl (by simp; omega) (fun H' O' s' b' L hx=>?_) _ _ _ _ _ _ _ _ _ _ _ _ _ _ _ _ _ _ _ _ _ _ _
  have hlen:=hx.len
  simp at hlen
  refine (U4 (ts:=[[41]]) L.st (L.get 0 rfl) (by simp; omega) (by simp)).mono fun nA ⟨O'',h1,h2,h3⟩=>?_
  have L:=L.sJ h1 h2 h3
  exact L.bo (((Pw.put _ _ _).trans (hx.trans (Pw.put _ _ _))).to (by simp) (fun _=>by rw[UT]; simp) (by simp; omega))
 ·have UT:iU (.mk k t n a ks) req=sB (.mk k t n a ks):=by
   have:¬ jm (.mk k t n a ks) < req:=by show ¬ ko k < req; omega
   simp[iU,ou,this]
  refine zA ih ihp (by omega) dP hG hp hk eJ L 0 rfl (by omega) (fun H' O' s' b' L hx=>?_) _ _ _ _ _ _ _ _ _ _ _ _ _ _ _ _ _ _ _ _ _ _ _
  exact L.bo (hx.to rfl (fun _=>by rw[UT]) (by omega))
theorem oC (a b:Bs):((⟨⟨a⟩⟩:ByteArray)=⟨⟨b⟩⟩)=(a=b):=by
 apply propext
 constructor
 ·intro h; injection h with h; injection h
 ·rintro rfl; rfl
theorem Pz {k n p:Int} {t:Bs} {ks:List Nd}:lU [114,101,99] (.mk k t n p ks)=match ks with
 | [x]=>decide (k=52) && aT t && decide (n=0) && okB x
 | _=>false:=by
 rw[lU.eq_def]
 rcases ks with _ | ⟨a,_ | ⟨b,r⟩⟩ <;> rfl
theorem PA {k n p:Int} {t:Bs} {ks:List Nd}:lU [109,97,112] (.mk k t n p ks)=match ks with
 | [x,y]=>decide (k=52) && decide (t=[]) && decide (n=0) && okB x && okB y
 | _=>false:=by
 rw[lU.eq_def]
 rcases ks with _ | ⟨a,_ | ⟨b,_ | ⟨c,r⟩⟩⟩ <;> rfl
theorem PB {fn:Bs} (h1:fn≠[114,101,99]) (h2:fn≠[109,97,112]) {k n p:Int} {t:Bs} {ks:List Nd}:lU fn (.mk k t n p ks)=okB (.mk k t n p ks):=by
 rw[lU.eq_def]
 simp only[h1,h2,if_false]
theorem L3 {N:Nat} (ih:oB N) (fn:Bs) (x:Nd) (hN:aq x≤N) (dP:ny x) {H:Heap} {O:List Nat} {q:Nat} {s:Bs} {bad:Bool} (hp:Pr H O q s bad) (hG:bS H) {v:Value} (hx:NO H O x v) :
 PC 112 [.pointer (some ⟨q,0,none⟩),sv fn,v] H O q s bad (lU fn x) (sG fn x) (wN x - 2):=by
 intro hw
 have eS:=hx
 have ad7:=dP
 have hN0:=hN
 obtain ⟨k,t,n,a,ks⟩:=x
 obtain ⟨aa,cc,rfl,hk,jG,eJ⟩:=hx.open
 simp only[aq] at hN
 have tm:wN (.mk k t n a ks)=t.length + 64 + wL ks:=rfl
 rw[tm] at hw ⊢
 refine af (args:=[_,_,_]) Tryz.func112 Tu (ahi rfl) ?_
 have L:=PL.start hp
 have mz:=oC fn [114,101,99]
 have tD:=oC fn [109,97,112]
 simp only[go_sem,ZO]
 refine L.aS fun bx H1 L=>?_
 have ca:=L.cell 0 rfl
 by_cases h1:fn=[114,101,99]
 ·subst h1
  simp only[go_sem,sv,ca]
  refine (gk (t:=t) 52 1).mono ?_
  rintro r H2 ⟨rfl,cQ⟩
  have L:=L.ext cQ
  have dj:=Pz (k:=k) (t:=t) (n:=n) (p:=a) (ks:=ks)
  by_cases hA:k=52∧ks.length=1
  ·obtain ⟨rfl,h2⟩:=hA
   match ks,h2 with
   | [x],_=>
   rw[tZ]
   simp only at dj
   simp only[aA,ny,EZ,wL] at hN dP hw
   simp only[go_sem]
   refine L.cu true (by simp) fun H4 L hm=>?_
   cases bad with
   | true=>
     simp only[go_sem]
     exact L.bo (hm.stop (fun _=>rfl) (by omega))
   | false=>
     have ca:=L.cell 0 rfl
     simp only[go_sem,ca]
     refine L.gv (eL L.st) (by first | omega | (simp; omega) | simp) fun H6 O6 s6 b6 L hn=>?_
     have Wv:=hn.len
     simp only[go_sem]
     refine L.bc fun bz Hz L=>?_
     simp only[go_sem]
     refine L.cq 0 [[58,32]] rfl (by simp) (by first | omega | (simp; omega) | simp) fun Hy Oy L=>?_
     have L:=L.drop (ahj _ _) (fun _ h=>h)
     obtain ⟨b,o',c,k1,t1,n1,a1,bm,mD,e1,e2,⟨q0,q1,q2,q3,q4⟩,hr,fi,bF⟩:=gr hk 0 (by simp)
     cases e1
     have ca:=L.cell 0 rfl
     have q0:=ab q0 L.fr bF
     have q1:=ab q1 L.fr bF
     have q2:=ab q2 L.fr bF
     have q3:=ab q3 L.fr bF
     have q4:=ab q4 L.fr bF
     unfold sv at q1
     simp only[aiL,aiM,ahl,aiO,aiN] at q0 q1 q2 q3 q4
     simp only[go_sem,ca,q0,q1,q2,q3,q4]
     refine L.gv (ih x (by omega) dP.2.2.1 L.st (hp.eQ hG L.fr) (L.nh hr) 0 (by omega)) (by first | omega | (simp; omega) | simp) fun H5 O5 s5 b5 L hx=>?_
     simp only[go_sem]
     refine L.bo ((hm.trans (hn.trans ((Pw.put _ _ _).trans hx))).to ?_ (fun _=>by simp[fZ]) (by first | omega | (simp[wL]; omega) | simp[wL]))
     rw[dj]; simp[fH,aT] <;> grind
  ·have bZ:lU [114,101,99] (.mk k t n a ks)=true→False:=by
    rw[dj]
    intro h
    split at h
    ·simp only[ae5,decide_eq_true_eq] at h
     exact hA ⟨by grind,rfl⟩
    ·cases h
   simp only[go_sem]
   refine L.cu false (by grind) fun H4 L hm=>?_
   simp only[go_sem]
   exact L.bo (Pw.no bZ)
 by_cases h2:fn=[109,97,112]
 ·subst h2
  simp only[go_sem,sv,mz,h1,ca]
  refine (gk (t:=t) 52 2).mono ?_
  rintro r H2 ⟨rfl,cQ⟩
  have L:=L.ext cQ
  have ca:=L.cell 0 rfl
  have dj:=PA (k:=k) (t:=t) (n:=n) (p:=a) (ks:=ks)
  by_cases hA:k=52∧ks.length=2
  ·obtain ⟨rfl,h2⟩:=hA
   match ks,h2 with
   | [x,y],_=>
   rw[ua]
   simp only at dj
   simp only[aA,ny,EZ,wL] at hN dP hw
   have e52:(decide ((52:Int)=52) && (decide ((2:Int) < 0) || decide ((([x,y]:List Nd).length:Int)=2)))=true:=by simp
   rw[e52]
   simp only[go_sem,ca]
   refine (ga (t:=t)).mono ?_
   rintro r H3 ⟨rfl,dE⟩
   have L:=L.ext dE
   simp only[go_sem]
   refine L.fN _ fun H4 L hm=>?_
   cases hb:(bad || !(decide (t=[]) && decide (n=0))) with
   | true=>
     rw[hb] at L hm
     simp only[go_sem]
     exact L.bo (hm.stop (fun h=>by rw[dj] at h; grind) (by omega))
   | false=>
     rw[hb] at L hm
     obtain ⟨b,o',c,k1,t1,n1,a1,bm,mD,e1,e2,⟨q0,q1,q2,q3,q4⟩,hr,fi,bF⟩:=gr hk 0 (by simp)
     cases e1
     have ca:=L.cell 0 rfl
     have q0:=ab q0 L.fr bF
     have q1:=ab q1 L.fr bF
     have q2:=ab q2 L.fr bF
     have q3:=ab q3 L.fr bF
     have q4:=ab q4 L.fr bF
     unfold sv at q1
     simp only[aiL,aiM,ahl,aiO,aiN] at q0 q1 q2 q3 q4
     simp only[go_sem,ca,q0,q1,q2,q3,q4]
     refine L.gv (ih x (by omega) dP.2.2.1 L.st (hp.eQ hG L.fr) (L.nh hr) 0 (by omega)) (by first | omega | (simp; omega) | simp) fun H5 O5 s5 b5 L hx=>?_
     have E5:=hx.len
     simp only[go_sem]
     refine L.bc fun bz Hz L=>?_
     simp only[go_sem]
     refine L.cq 0 [[58,32]] rfl (by simp) (by first | omega | (simp; omega) | simp) fun Hy Oy L=>?_
     have L:=L.drop (ahj _ _) (fun _ h=>h)
     obtain ⟨b,o',c,k1,t1,n1,a1,bm,mD,e1,e2,⟨q0,q1,q2,q3,q4⟩,hr,fi,bF⟩:=gr hk 1 (by simp)
     cases e1
     have ca:=L.cell 0 rfl
     have q0:=ab q0 L.fr bF
     have q1:=ab q1 L.fr bF
     have q2:=ab q2 L.fr bF
     have q3:=ab q3 L.fr bF
     have q4:=ab q4 L.fr bF
     unfold sv at q1
     simp only[aiL,aiM,ahl,aiO,aiN] at q0 q1 q2 q3 q4
     simp only[go_sem,ca,q0,q1,q2,q3,q4]
     refine L.gv (ih y (by omega) dP.2.2.2.1 L.st (hp.eQ hG L.fr) (L.nh hr) 0 (by omega)) (by first | omega | (simp; omega) | simp) fun H6 O6 s6 b6 L hy=>?_
     simp only[go_sem]
     refine L.bo ((hm.trans (hx.trans ((Pw.put _ _ _).trans hy))).to ?_ (fun _=>by simp[fZ]) (by first | omega | (simp[wL]; omega) | simp[wL]))
     rw[dj]; simp[aiR]
  ·have bZ:lU [109,97,112] (.mk k t n a ks)=true→False:=by
    rw[dj]
    intro h
    split at h
    ·simp only[ae5,decide_eq_true_eq] at h
     exact hA ⟨by grind,rfl⟩
    ·cases h
   have e52:(decide (k=52) && (decide ((2:Int) < 0) || decide ((ks.length:Int)=2)))=false:=by grind
   rw[e52]
   simp only[go_sem,ca]
   refine L.cu false (by grind) fun H4 L hm=>?_
   simp only[go_sem]
   exact L.bo (Pw.no bZ)
 ·simp only[go_sem,sv,mz,tD,h1,h2,ca]
  rw[PB h1 h2,l9 h1 h2]
  refine L.gv (ih _ hN0 ad7 L.st (hp.eQ hG L.fr) (L.nh eS) 0 (by omega)) (by rw[tm]; omega) fun H5 O5 s5 b5 L hx=>?_
  simp only[go_sem]
  exact L.bo (hx.to rfl (fun _=>by rw[fZ]) (by rw[tm]; omega))
theorem AZ (fn:Bs) (f:Bool):∀ (ks:List Nd) (i:Nat) (h:i < ks.length),sA fn f (ks.take (i + 1))=sA fn f (ks.take i) ++ ((if i=0 then (if f then [] else [44,32]) else [44,32]) ++ sG fn ks[i])
 | x :: r,0,_=>by simp[sA]
 | x :: r,i + 1,h=>by
   have:=AZ fn false r i (by simpa using h)
   simp only[ahq,sA,ah2,this]
   cases i <;> simp
theorem xL (fn:Bs):∀ (ks:List Nd) (i:Nat) (h:i < ks.length),nu fn (ks.take (i + 1))=(nu fn (ks.take i) && lU fn ks[i])
 | x :: r,0,_=>by simp[nu]
 | x :: r,i + 1,h=>by
   have:=xL fn r i (by simpa using h)
   simp only[ahq,nu,ah2,this,aiR]
theorem eM:∀ (ks:List Nd) (i:Nat) (h:i < ks.length),wL (ks.take (i + 1))=wL (ks.take i) + wN ks[i]
 | x :: r,0,_=>by simp[wL]
 | x :: r,i + 1,h=>by
   have:=eM r i (by simpa using h)
   simp only[ahq,wL,ah2,this]; omega
theorem mc:∀ (ks:List Nd) (i:Nat),wL (ks.take i)≤wL ks
 | [],i=>by simp[wL]
 | x :: r,0=>by simp[wL]
 | x :: r,i + 1=>by
   have:=mc r i
   simp only[ahq,wL]; omega
theorem xM:∀ (ks:List Nd),64 * ks.length≤wL ks
 | []=>by simp[wL]
 | x :: r=>by
   have:=xM r
   obtain ⟨k,t,n,a,kk⟩:=x
   simp only[wL,wN,afK]; omega
theorem kV:∀ (ks:List Nd) (i:Nat) (h:i < ks.length),EZ ks→ny ks[i]
 | x :: r,0,_,h=>h.1
 | x :: r,i + 1,hl,h=>kV r i (by simpa using hl) h.2
theorem L4 {α:Type} (e x:α) (l:List α):(e :: (l ++ [x]))[l.length + 1]?=some x:=by simp
theorem cJ {N:Nat} (ih:oB N) {k n a:Int} {t:Bs} {ks:List Nd} (dO:aA ks≤N) (dP:ny (.mk k t n a ks)) {H0 H1:Heap} {O0 O1:List Nat} {q bx cc:Nat} {aa:Option Addr} {s0 s1:Bs} {b0 b1 ok1:Bool} (hG:bS H0) (hp:Pr H0 O0 q s0 b0)
 (hk:dA H0 O0 (aW ks) [.slice aa ks.length cc]) (eJ:ks.length≤maxLen) (L:PL O0 H0 q O1 s1 b1 H1 [.dz bx 24 [.int .i64 k,sv t,.int .i64 n,.int .i64 a,.slice aa ks.length cc]])
 (eZ:Pw s0 b0 s1 b1 ok1 [] 0)
 (hw:s0.length + (t.length + 60 + wL ks)≤140737488355328) (o1 o3 o4 o5 o6 o7 o8 o9 o10 o11:Option Value) :
 vc afI (fun _ _=>False) D2 [some (.pointer (some ⟨q,0,none⟩)),o1,some (.pointer (some ⟨bx,0,none⟩)),o3,o4,o5,o6,o7,o8,o9,o10,o11] H1 (u5 [] fun r H'=>r= .tuple #[]∧∃ O' s' mU,Pr H' O' q s' mU∧Fr O0 H0 H'∧Oo H0 O0 O'∧Pw s0 b0 s' mU (ok1 && (decide (n=0) && nu t ks)) (t ++ 40 :: (sA t true ks ++ [41])) (t.length + 60 + wL ks)):=by
 have hlen:=eZ.len
 have ca:=L.cell 0 rfl
 rw[JW]
 simp only[go_sem,ca]
 refine L.fN (decide (n=0)) fun H2 L hm=>?_
 have ca:=L.cell 0 rfl
 simp only[go_sem,ca,sv]
 refine L.bc fun bz Hz L=>?_
 simp only[go_sem]
 refine L.cq 0 [t,[40]] rfl (by simp) (by first | omega | (simp; omega) | simp) fun Hy Oy L=>?_
 have L:=L.drop (ahj _ _) (fun _ h=>h)
 have ca:=L.cell 0 rfl
 simp only[go_sem,ca]
 generalize jl:s1 ++ [t,[40]].flatten=s2 at *
 have abn:Pw s0 b0 s2 (b1 || !decide (n=0)) (ok1 && decide (n=0)) (t ++ [40]) (t.length + 1):=by
  rw[← jl]
  exact (eZ.trans (hm.trans (Pw.put _ _ _))).to (by simp) (fun _=>by simp) (by simp)
 have aeN:=Hy
 refine bC (fun (i:Nat) H'=>i≤ks.length∧∃ O' s' b' l,PL O0 H0 q O' s' b' H' (l ++ [.dz bx 24 [.int .i64 k,sv t,.int .i64 n,.int .i64 a,.slice aa ks.length cc]])∧Pw s2 (b1 || !decide (n=0)) s' b' (nu t (ks.take i)) (sA t true (ks.take i)) (wL (ks.take i)))
  (fun i=>[(0,.pointer (some ⟨q,0,none⟩)),(3,.pointer (some ⟨bx,0,none⟩)),(39,.slice aa ks.length cc),(40,.int .i64 ks.length),(41,.int .i64 i)]) (fun i=>ks.length - i) 0 ?_ ?_ ?_
 ·exact ⟨ahn _,_,_,_,[],L,by simpa [sA,nu,wL] using Pw.refl s2 _⟩
 ·simp only[go_sem]
 ·rintro i H1 ⟨hi,O1,s1,b1,l1,L,eZ⟩
  have KF:=abn.len
  have p8:=eZ.len
  rcases ae8 i ks.length with ba | nf
  ·have h0:(0:Int)≤(i:Int):=by omega
   have h1:(i:Int) < (ks.length:Int):=by omega
   have gl:=dD ba eJ
   have tj:=eM ks i ba
   have Ah:=mc ks (i + 1)
   have tm:64≤wN ks[i]:=by
    cases e:ks[i]; simp only[wN]; omega
   have hsi:=hJ ks i ba
   obtain ⟨b,o,c,k1,t1,n1,a1,bm,mD,e1,e2,⟨q0,q1,q2,q3,q4⟩,hr,fi,bF⟩:=gr hk i ba
   cases e1
   have q0:=ab q0 L.fr bF
   have q1:=ab q1 L.fr bF
   have q2:=ab q2 L.fr bF
   have q3:=ab q3 L.fr bF
   have q4:=ab q4 L.fr bF
   simp only[ahl] at q0
   unfold sv at q1
   simp only[go_sem,h0,h1,q0,q1,q2,q3,q4]
   refine ay fun H5 np fP _=>?_
   have L5:=L.push fP np
   simp only[go_sem]
   refine aC np rfl (ax fi) fun H6 gL fB _=>?_
   have L:=L5.Na 0 rfl fB gL
   have fin:∀ (H7:Heap) (O7:List Nat) (s7:Bs) (b7:Bool) (l7:List dR),PL O0 H0 q O7 s7 b7 H7 (l7 ++ [.dz bx 24 [.int .i64 k,sv t,.int .i64 n,.int .i64 a,.slice (some ⟨b,o,none⟩) ks.length cc]])→Pw s2 (b1 || !decide (n=0)) s7 b7 (nu t (ks.take (i + 1))) (sA t true (ks.take (i + 1))) (wL (ks.take (i + 1)))→True:=fun _ _ _ _ _ _ _=>trivial
   rcases aiP i with uG | tE
   ·have hg:¬ ((0:Int) < (i:Int)):=by omega
    have ck:=L.cell 0 rfl
    have ca:=L.cell (l1.length + 1) (L4 _ _ _)
    unfold sv at ck ca
    simp only[go_sem,hg,ck,ca]
    refine L.gv (L3 ih t ks[i] (by omega) (kV ks i ba dP.2.2) L.st (hp.eQ hG L.fr) (L.nh hr)) (by omega) fun H7 O7 s7 b7 L hq=>?_
    simp only[go_sem,gl]
    refine aj (i + 1) ?_ ?_ ⟨by omega,O7,s7,b7,_ :: l1,L,?_⟩
    ·show ks.length - (i + 1) < ks.length - i
     omega
    ·simp only[go_sem,gl]
    ·refine (eZ.trans hq).to (by rw[xL _ ks i ba]) (fun _=>?_) (by omega)
     rw[AZ t true ks i ba,if_pos uG]; simp
   ·have hg:(0:Int) < (i:Int):=by omega
    simp only[go_sem,hg]
    refine L.bc fun bz Hz L=>?_
    simp only[go_sem]
    refine L.cq 0 [[44,32]] rfl (by simp) (by first | omega | (simp; omega) | simp) fun Hy Oy L=>?_
    have L:=L.drop (ahj _ _) (fun _ h=>h)
    have ck:=L.cell 0 rfl
    have ca:=L.cell (l1.length + 1) (L4 _ _ _)
    unfold sv at ck ca
    simp only[go_sem,ck,ca]
    refine L.gv (L3 ih t ks[i] (by omega) (kV ks i ba dP.2.2) L.st (hp.eQ hG L.fr) (L.nh hr)) (by first | omega | (simp; omega) | simp) fun H7 O7 s7 b7 L hq=>?_
    simp only[go_sem,gl]
    refine aj (i + 1) ?_ ?_ ⟨by omega,O7,s7,b7,_ :: l1,L,?_⟩
    ·show ks.length - (i + 1) < ks.length - i
     omega
    ·simp only[go_sem,gl]
    ·refine (eZ.trans ((Pw.put _ _ _).trans hq)).to (by rw[xL _ ks i ba]; simp) (fun _=>?_) (by first | omega | (simp; omega) | simp)
     rw[AZ t true ks i ba,if_neg (by omega)]; simp
  ·have h1:¬ ((i:Int) < (ks.length:Int)):=by omega
   obtain rfl:i=ks.length:=by omega
   rw[ain] at eZ p8
   simp only[go_sem,h1]
   refine L.bc fun bz Hz L=>?_
   simp only[go_sem]
   refine L.cq 0 [[41]] rfl (by simp) (by first | omega | (simp; omega) | simp) fun Hy Oy L=>?_
   simp only[go_sem]
   exact L.bo ((abn.trans (eZ.trans (Pw.put _ _ _))).to (by simp[aiR]) (fun _=>by simp) (by first | omega | (simp; omega) | simp))
theorem PD {N:Nat} (ih:oB N) {k n a:Int} {t:Bs} {ks:List Nd} (dO:aA ks≤N) (dP:ny (.mk k t n a ks)) {H:Heap} {O:List Nat} {q:Nat} {s:Bs} {bad:Bool} (hp:Pr H O q s bad) (hG:bS H) {v:Value} (hx:NO H O (.mk k t n a ks) v) :
 PC 94 [.pointer (some ⟨q,0,none⟩),v] H O q s bad (decide (t ∈ aZ) && (decide (n=0) && nu t ks)) (t ++ 40 :: (sA t true ks ++ [41])) (t.length + 60 + wL ks):=by
 intro hw
 obtain ⟨aa,cc,rfl,hk,jG,eJ⟩:=hx.open
 refine af (args:=[_,_]) Tryz.func94 ZK (ahi rfl) ?_
 have L:=PL.start hp
 simp only[go_sem,c94]
 refine L.aS fun bx H1 L=>?_
 have ca:=L.cell 0 rfl
 by_cases h1:t=[102,108,97,103]
 ·have e1:=eq_true h1
  rw[decide_eq_true (show t ∈ aZ by rw[h1]; decide)]
  simp only[go_sem,cM,sv,ca,e1]
  exact cJ ih dO dP hG hp hk eJ L (Pw.refl s bad) hw _ _ _ _ _ _ _ _ _ _
 have e1:=eq_false h1
 by_cases h2:t=[110,117,109]
 ·have e2:=eq_true h2
  rw[decide_eq_true (show t ∈ aZ by rw[h2]; decide)]
  simp only[go_sem,cM,sv,ca,e1,e2]
  exact cJ ih dO dP hG hp hk eJ L (Pw.refl s bad) hw _ _ _ _ _ _ _ _ _ _
 have e2:=eq_false h2
 by_cases h3:t=[115,101,116]
 ·have e3:=eq_true h3
  rw[decide_eq_true (show t ∈ aZ by rw[h3]; decide)]
  simp only[go_sem,cM,sv,ca,e1,e2,e3]
  exact cJ ih dO dP hG hp hk eJ L (Pw.refl s bad) hw _ _ _ _ _ _ _ _ _ _
 have e3:=eq_false h3
 by_cases h4:t=[109,97,112]
 ·have e4:=eq_true h4
  rw[decide_eq_true (show t ∈ aZ by rw[h4]; decide)]
  simp only[go_sem,cM,sv,ca,e1,e2,e3,e4]
  exact cJ ih dO dP hG hp hk eJ L (Pw.refl s bad) hw _ _ _ _ _ _ _ _ _ _
 have e4:=eq_false h4
 by_cases h5:t=[114,101,99]
 ·have e5:=eq_true h5
  rw[decide_eq_true (show t ∈ aZ by rw[h5]; decide)]
  simp only[go_sem,cM,sv,ca,e1,e2,e3,e4,e5]
  exact cJ ih dO dP hG hp hk eJ L (Pw.refl s bad) hw _ _ _ _ _ _ _ _ _ _
 have e5:=eq_false h5
 by_cases h6:t=[112,97,105,114]
 ·have e6:=eq_true h6
  rw[decide_eq_true (show t ∈ aZ by rw[h6]; decide)]
  simp only[go_sem,cM,sv,ca,e1,e2,e3,e4,e5,e6]
  exact cJ ih dO dP hG hp hk eJ L (Pw.refl s bad) hw _ _ _ _ _ _ _ _ _ _
 have e6:=eq_false h6
 by_cases h7:t=[111,110,101]
 ·have e7:=eq_true h7
  rw[decide_eq_true (show t ∈ aZ by rw[h7]; decide)]
  simp only[go_sem,cM,sv,ca,e1,e2,e3,e4,e5,e6,e7]
  exact cJ ih dO dP hG hp hk eJ L (Pw.refl s bad) hw _ _ _ _ _ _ _ _ _ _
 have e7:=eq_false h7
 by_cases h8:t=[119,114,105,116,101]
 ·have e8:=eq_true h8
  rw[decide_eq_true (show t ∈ aZ by rw[h8]; decide)]
  simp only[go_sem,cM,sv,ca,e1,e2,e3,e4,e5,e6,e7,e8]
  exact cJ ih dO dP hG hp hk eJ L (Pw.refl s bad) hw _ _ _ _ _ _ _ _ _ _
 have e8:=eq_false h8
 by_cases h9:t=[115,105,122,101]
 ·have e9:=eq_true h9
  rw[decide_eq_true (show t ∈ aZ by rw[h9]; decide)]
  simp only[go_sem,cM,sv,ca,e1,e2,e3,e4,e5,e6,e7,e8,e9]
  exact cJ ih dO dP hG hp hk eJ L (Pw.refl s bad) hw _ _ _ _ _ _ _ _ _ _
 have e9:=eq_false h9
 by_cases Bg:t=[115,117,109]
 ·have Nj:=eq_true Bg
  rw[decide_eq_true (show t ∈ aZ by rw[Bg]; decide)]
  simp only[go_sem,cM,sv,ca,e1,e2,e3,e4,e5,e6,e7,e8,e9,Nj]
  exact cJ ih dO dP hG hp hk eJ L (Pw.refl s bad) hw _ _ _ _ _ _ _ _ _ _
 have Nj:=eq_false Bg
 by_cases Ku:t=[110,117,109,98,101,114]
 ·have PF:=eq_true Ku
  rw[decide_eq_true (show t ∈ aZ by rw[Ku]; decide)]
  simp only[go_sem,cM,sv,ca,e1,e2,e3,e4,e5,e6,e7,e8,e9,Nj,PF]
  exact cJ ih dO dP hG hp hk eJ L (Pw.refl s bad) hw _ _ _ _ _ _ _ _ _ _
 have PF:=eq_false Ku
 by_cases Nb:t=[111,110]
 ·have Rq:=eq_true Nb
  rw[decide_eq_true (show t ∈ aZ by rw[Nb]; decide)]
  simp only[go_sem,cM,sv,ca,e1,e2,e3,e4,e5,e6,e7,e8,e9,Nj,PF,Rq]
  exact cJ ih dO dP hG hp hk eJ L (Pw.refl s bad) hw _ _ _ _ _ _ _ _ _ _
 have Rq:=eq_false Nb
 by_cases Nc:t=[107,101,121,115]
 ·have Vd:=eq_true Nc
  rw[decide_eq_true (show t ∈ aZ by rw[Nc]; decide)]
  simp only[go_sem,cM,sv,ca,e1,e2,e3,e4,e5,e6,e7,e8,e9,Nj,PF,Rq,Vd]
  exact cJ ih dO dP hG hp hk eJ L (Pw.refl s bad) hw _ _ _ _ _ _ _ _ _ _
 have Vd:=eq_false Nc
 by_cases Nf:t=[118,97,108,117,101,115]
 ·have Ww:=eq_true Nf
  rw[decide_eq_true (show t ∈ aZ by rw[Nf]; decide)]
  simp only[go_sem,cM,sv,ca,e1,e2,e3,e4,e5,e6,e7,e8,e9,Nj,PF,Rq,Vd,Ww]
  exact cJ ih dO dP hG hp hk eJ L (Pw.refl s bad) hw _ _ _ _ _ _ _ _ _ _
 have Ww:=eq_false Nf
 by_cases Ng:t=[102,105,114,115,116]
 ·have e15:=eq_true Ng
  rw[decide_eq_true (show t ∈ aZ by rw[Ng]; decide)]
  simp only[go_sem,cM,sv,ca,e1,e2,e3,e4,e5,e6,e7,e8,e9,Nj,PF,Rq,Vd,Ww,e15]
  exact cJ ih dO dP hG hp hk eJ L (Pw.refl s bad) hw _ _ _ _ _ _ _ _ _ _
 have e15:=eq_false Ng
 by_cases BR:t=[115,101,99,111,110,100]
 ·have e16:=eq_true BR
  rw[decide_eq_true (show t ∈ aZ by rw[BR]; decide)]
  simp only[go_sem,cM,sv,ca,e1,e2,e3,e4,e5,e6,e7,e8,e9,Nj,PF,Rq,Vd,Ww,e15,e16]
  exact cJ ih dO dP hG hp hk eJ L (Pw.refl s bad) hw _ _ _ _ _ _ _ _ _ _
 have e16:=eq_false BR
 by_cases Nh:t=[99,111,110,102,108,105,99,116]
 ·have e17:=eq_true Nh
  rw[decide_eq_true (show t ∈ aZ by rw[Nh]; decide)]
  simp only[go_sem,cM,sv,ca,e1,e2,e3,e4,e5,e6,e7,e8,e9,Nj,PF,Rq,Vd,Ww,e15,e16,e17]
  exact cJ ih dO dP hG hp hk eJ L (Pw.refl s bad) hw _ _ _ _ _ _ _ _ _ _
 have e17:=eq_false Nh
 rw[decide_eq_false (show ¬ t ∈ aZ by simp only[aZ,afa,ahy,or_false,not_or]; exact ⟨h1,h2,h3,h4,h5,h6,h7,h8,h9,Bg,Ku,Nb,Nc,Nf,Ng,BR,Nh⟩)]
 simp only[go_sem,cM,sv,ca,e1,e2,e3,e4,e5,e6,e7,e8,e9,Nj,PF,Rq,Vd,Ww,e15,e16,e17]
 refine L.fN false fun H2 L hm=>?_
 simp only[go_sem]
 exact cJ ih dO dP hG hp hk eJ L hm hw _ _ _ _ _ _ _ _ _ _
def ni:Kw:=[(45,[116,114,117,101]),(46,[102,97,108,115,101]),(49,[115]),(50,[98,111,116,116,111,109])]
theorem mW {k n p:Int} {t w:Bs} {ks:List Nd} (h:dx k=some w):okB (.mk k t n p ks)=(decide (t=[]) && decide (n=0) && ks.isEmpty):=by
 have hk:k=45∨k=46∨k=49∨k=50:=by
  unfold dx at h
  repeat' split at h
  all_goals first
   | (cases h; done)
   | (rename_i hk; simp[hk])
 rcases hk with rfl | rfl | rfl | rfl <;> (rw[okB.eq_def]; rfl)
theorem L7 {n p:Int} {t:Bs} {ks:List Nd}:okB (.mk 44 t n p ks)=mh (.mk 44 t n p ks):=by
 rw[okB.eq_def]; rfl
theorem L8 {n p:Int} {t:Bs} {ks:List Nd}:okB (.mk 47 t n p ks)=dQ (.mk 47 t n p ks):=by
 rw[okB.eq_def]; simp[dQ,kindOf,ak,aL,numOf,eH]; grind
theorem xN {n p:Int} {t:Bs} {ks:List Nd}:okB (.mk 48 t n p ks)=(aT t && decide (n=0) && ks.isEmpty):=by
 rw[okB.eq_def]; rfl
theorem L9 {n p:Int} {t:Bs} {ks:List Nd}:okB (.mk 51 t n p ks)=(decide (t ∈ aZ) && decide (n=0) && nu t ks):=by
 rw[okB.eq_def]; rfl
theorem Ia {N:Nat} (ih:oB N):E4 N:=by
 intro k n a t ks dO dP hb ym yH AX Bj H O q s bad hp hG v hx hw
 have eS:=hx
 obtain ⟨aa,cc,rfl,hk,jG,eJ⟩:=hx.open
 refine af (args:=[_,_]) Tryz.func49 Zz (ahi rfl) ?_
 have L:=PL.start hp
 simp only[go_sem,c49]
 refine L.aS fun bx H1 L=>?_
 have hH1:=L.fr.size
 have ca:=L.cell 0 rfl
 by_cases Ve:k=44
 ·subst Ve
  rw[L7,qF]
  simp only[go_sem,ca]
  refine L.gv (qH L.st (hp.eQ hG L.fr) (L.nh eS) dP.1 dP.2.1) (by omega) fun H5 O5 s5 b5 L hx=>?_
  simp only[go_sem]
  exact L.bo (hx.to rfl (fun _=>rfl) (by omega))
 by_cases Ma:k=47
 ·subst Ma
  rw[L8,l8]
  simp only[go_sem,ca]
  refine L.gv (ow L.st (L.nh eS)) (by simp only[ak]; omega) fun H5 O5 s5 b5 L hx=>?_
  simp only[go_sem]
  exact L.bo (hx.to rfl (fun _=>rfl) (by simp only[ak]; omega))
 by_cases Ai:k=48
 ·subst Ai
  rw[xN,eu]
  simp only[go_sem,ca]
  refine L.cu ks.isEmpty (dL ks) fun H4 L hm=>?_
  have ca:=L.cell 0 rfl
  simp only[go_sem,ca]
  refine L.gv (eL L.st) (by first | omega | (simp; omega) | simp) fun H6 O6 s6 b6 L hn=>?_
  simp only[go_sem]
  exact L.bo ((hm.trans hn).to (by simp[fH,aT]; grind) (fun _=>by simp) (by omega))
 by_cases Vf:k=51
 ·subst Vf
  rw[L9,pB]
  simp only[go_sem,ca]
  refine L.gv (PD ih dO dP L.st (hp.eQ hG L.fr) (L.nh eS)) hw fun H5 O5 s5 b5 L hx=>?_
  simp only[go_sem]
  exact L.bo (hx.to (by simp[aiR]) (fun _=>rfl) (by omega))
 by_cases rC:k=45
 ·subst rC
  have dj:=mW (n:=n) (p:=a) (t:=t) (ks:=ks) (show dx 45=some _ from rfl)
  have Vg:=gO (n:=n) (p:=a) (t:=t) (ks:=ks) (show dx 45=some _ from rfl)
  have hs:=cW t
  simp only[go_sem,ca]
  have wl:(fI ni 45).length≤6:=by decide
  refine eD fun r H1 hm hf hr=>?_
  simp only[go_sem]
  refine aF hm hf hr rfl fun H1 hm hf=>?_
  simp only[go_sem]
  refine aF hm hf hr rfl fun H1 hm hf=>?_
  simp only[go_sem]
  refine aF hm hf hr rfl fun H1 hm hf=>?_
  simp only[go_sem]
  refine aF hm hf hr rfl fun H1 hm hf=>?_
  have L:=L.ext hf
  have ca:=L.cell 0 rfl
  unfold sv at ca
  simp only[go_sem,ca]
  have hm:mV H1 r ni:=hm
  refine (ga (t:=t)).mono ?_
  rintro v H2 ⟨rfl,cQ⟩
  have hm:=hm.fr cQ (by simp)
  have L:=L.ext cQ
  have ca:=L.cell 0 rfl
  simp only[go_sem,ca]
  refine (pF L.st _).mono ?_
  rintro v H3 ⟨rfl,h1,h2⟩
  have L:=L.sJ h1 h2 (Oo.refl _ _)
  have hm:=hm.fr h2 (fun hx=>by have:=hp.lt _ hx; omega)
  have ca:=L.cell 0 rfl
  simp only[go_sem,ca]
  refine dU hm ?_
  simp only[go_sem]
  refine L.bc fun bz Hz L=>?_
  simp only[go_sem]
  refine L.cq 0 [fI ni 45] rfl (by simp) (by have:=wl; simp; omega) fun Hy Oy L=>?_
  simp only[go_sem]
  refine L.bo (((Pw.EY _ _ _).trans (Pw.put _ _ _)).to ?_ (fun h=>?_) (by have:=wl; simp; omega))
  ·rw[dj,← dL]; grind
  ·rw[Vg]; simp; decide
 by_cases Vh:k=46
 ·subst Vh
  have dj:=mW (n:=n) (p:=a) (t:=t) (ks:=ks) (show dx 46=some _ from rfl)
  have Vg:=gO (n:=n) (p:=a) (t:=t) (ks:=ks) (show dx 46=some _ from rfl)
  have hs:=cW t
  simp only[go_sem,ca]
  have wl:(fI ni 46).length≤6:=by decide
  refine eD fun r H1 hm hf hr=>?_
  simp only[go_sem]
  refine aF hm hf hr rfl fun H1 hm hf=>?_
  simp only[go_sem]
  refine aF hm hf hr rfl fun H1 hm hf=>?_
  simp only[go_sem]
  refine aF hm hf hr rfl fun H1 hm hf=>?_
  simp only[go_sem]
  refine aF hm hf hr rfl fun H1 hm hf=>?_
  have L:=L.ext hf
  have ca:=L.cell 0 rfl
  unfold sv at ca
  simp only[go_sem,ca]
  have hm:mV H1 r ni:=hm
  refine (ga (t:=t)).mono ?_
  rintro v H2 ⟨rfl,cQ⟩
  have hm:=hm.fr cQ (by simp)
  have L:=L.ext cQ
  have ca:=L.cell 0 rfl
  simp only[go_sem,ca]
  refine (pF L.st _).mono ?_
  rintro v H3 ⟨rfl,h1,h2⟩
  have L:=L.sJ h1 h2 (Oo.refl _ _)
  have hm:=hm.fr h2 (fun hx=>by have:=hp.lt _ hx; omega)
  have ca:=L.cell 0 rfl
  simp only[go_sem,ca]
  refine dU hm ?_
  simp only[go_sem]
  refine L.bc fun bz Hz L=>?_
  simp only[go_sem]
  refine L.cq 0 [fI ni 46] rfl (by simp) (by have:=wl; simp; omega) fun Hy Oy L=>?_
  simp only[go_sem]
  refine L.bo (((Pw.EY _ _ _).trans (Pw.put _ _ _)).to ?_ (fun h=>?_) (by have:=wl; simp; omega))
  ·rw[dj,← dL]; grind
  ·rw[Vg]; simp; decide
 by_cases Vi:k=49
 ·subst Vi
  have dj:=mW (n:=n) (p:=a) (t:=t) (ks:=ks) (show dx 49=some _ from rfl)
  have Vg:=gO (n:=n) (p:=a) (t:=t) (ks:=ks) (show dx 49=some _ from rfl)
  have hs:=cW t
  simp only[go_sem,ca]
  have wl:(fI ni 49).length≤6:=by decide
  refine eD fun r H1 hm hf hr=>?_
  simp only[go_sem]
  refine aF hm hf hr rfl fun H1 hm hf=>?_
  simp only[go_sem]
  refine aF hm hf hr rfl fun H1 hm hf=>?_
  simp only[go_sem]
  refine aF hm hf hr rfl fun H1 hm hf=>?_
  simp only[go_sem]
  refine aF hm hf hr rfl fun H1 hm hf=>?_
  have L:=L.ext hf
  have ca:=L.cell 0 rfl
  unfold sv at ca
  simp only[go_sem,ca]
  have hm:mV H1 r ni:=hm
  refine (ga (t:=t)).mono ?_
  rintro v H2 ⟨rfl,cQ⟩
  have hm:=hm.fr cQ (by simp)
  have L:=L.ext cQ
  have ca:=L.cell 0 rfl
  simp only[go_sem,ca]
  refine (pF L.st _).mono ?_
  rintro v H3 ⟨rfl,h1,h2⟩
  have L:=L.sJ h1 h2 (Oo.refl _ _)
  have hm:=hm.fr h2 (fun hx=>by have:=hp.lt _ hx; omega)
  have ca:=L.cell 0 rfl
  simp only[go_sem,ca]
  refine dU hm ?_
  simp only[go_sem]
  refine L.bc fun bz Hz L=>?_
  simp only[go_sem]
  refine L.cq 0 [fI ni 49] rfl (by simp) (by have:=wl; simp; omega) fun Hy Oy L=>?_
  simp only[go_sem]
  refine L.bo (((Pw.EY _ _ _).trans (Pw.put _ _ _)).to ?_ (fun h=>?_) (by have:=wl; simp; omega))
  ·rw[dj,← dL]; grind
  ·rw[Vg]; simp; decide
 by_cases Vj:k=50
 ·subst Vj
  have dj:=mW (n:=n) (p:=a) (t:=t) (ks:=ks) (show dx 50=some _ from rfl)
  have Vg:=gO (n:=n) (p:=a) (t:=t) (ks:=ks) (show dx 50=some _ from rfl)
  have hs:=cW t
  simp only[go_sem,ca]
  have wl:(fI ni 50).length≤6:=by decide
  refine eD fun r H1 hm hf hr=>?_
  simp only[go_sem]
  refine aF hm hf hr rfl fun H1 hm hf=>?_
  simp only[go_sem]
  refine aF hm hf hr rfl fun H1 hm hf=>?_
  simp only[go_sem]
  refine aF hm hf hr rfl fun H1 hm hf=>?_
  simp only[go_sem]
  refine aF hm hf hr rfl fun H1 hm hf=>?_
  have L:=L.ext hf
  have ca:=L.cell 0 rfl
  unfold sv at ca
  simp only[go_sem,ca]
  have hm:mV H1 r ni:=hm
  refine (ga (t:=t)).mono ?_
  rintro v H2 ⟨rfl,cQ⟩
  have hm:=hm.fr cQ (by simp)
  have L:=L.ext cQ
  have ca:=L.cell 0 rfl
  simp only[go_sem,ca]
  refine (pF L.st _).mono ?_
  rintro v H3 ⟨rfl,h1,h2⟩
  have L:=L.sJ h1 h2 (Oo.refl _ _)
  have hm:=hm.fr h2 (fun hx=>by have:=hp.lt _ hx; omega)
  have ca:=L.cell 0 rfl
  simp only[go_sem,ca]
  refine dU hm ?_
  simp only[go_sem]
  refine L.bc fun bz Hz L=>?_
  simp only[go_sem]
  refine L.cq 0 [fI ni 50] rfl (by simp) (by have:=wl; simp; omega) fun Hy Oy L=>?_
  simp only[go_sem]
  refine L.bo (((Pw.EY _ _ _).trans (Pw.put _ _ _)).to ?_ (fun h=>?_) (by have:=wl; simp; omega))
  ·rw[dj,← dL]; grind
  ·rw[Vg]; simp; decide
 have bZ:okB (.mk k t n a ks)=true→False:=by
  intro h
  rw[okB.eq_def] at h
  simp[hb,ym,yH,AX,Bj,Ve,Ma,Ai,Vf,dx,rC,Vh,Vi,Vj] at h
 simp only[go_sem,ca,Ve,Ma,Ai,Vf,rC,Vh,Vi,Vj]
 refine L.fN false fun H2 L hm=>?_
 simp only[go_sem]
 exact L.bo (Pw.no bZ)
theorem oD:∀ N,oB N
 | 0=>fun x h=>by cases x; simp only[aq] at h; omega
 | N + 1=>HY (oD N) (Ia (oD N))
theorem E6 {g:Nat} (hg:dV afI g=true) {okF:Nd→Bool} {tF:Nd→Bs} {wF:Nd→Nat} (word:Bs) {k n a:Int} {t:Bs} {ks:List Nd} {q:Nat}
 (qW:∀ x ∈ ks,∀ {H:Heap} {O:List Nat} {s:Bs} {bad:Bool} {v:Value},Pr H O q s bad→bS H→NO H O x v→PC g [.pointer (some ⟨q,0,none⟩),v] H O q s bad (okF x) (tF x) (wF x))
 {H:Heap} {O:List Nat} {s:Bs} {bad:Bool} (hp:Pr H O q s bad) (hG:bS H) {v:Value} (hx:NO H O (.mk k t n a ks) v) :
 PC 67 [.pointer (some ⟨q,0,none⟩),sv word,v,.func (.func g) #[.pointer (some ⟨q,0,none⟩)] #[]] H O q s bad (decide (ks.length=2) && ks.all okF) (word ++ 40 :: ((ks.map tF).getD 0 [] ++ 44 :: 32 :: ((ks.map tF).getD 1 [] ++ [41]))) (word.length + 4 + (ks.map wF).sum):=by
 intro hw
 obtain ⟨aa,cc,rfl,hk,jG,eJ⟩:=hx.open
 refine af (args:=[_,_,_,_]) Tryz.func67 ZC (ahi rfl) ?_
 have L:=PL.start hp
 simp only[go_sem,c67]
 refine L.aS fun bx H1 L=>?_
 have ca:=L.cell 0 rfl
 by_cases h2:ks.length=2
 ·match ks,h2 with
  | [x,y],_=>
  simp only[afi,List.map_nil,aiQ,List.sum_nil] at hw
  simp only[go_sem,ca]
  refine L.cu true (by simp) fun H4 L hm=>?_
  cases bad with
  | true=>
    simp only[go_sem]
    exact L.bo (hm.stop (fun _=>rfl) (by omega))
  | false=>
    simp only[go_sem,sv]
    refine L.bc fun bz Hz L=>?_
    simp only[go_sem]
    refine L.cq 0 [word,[40]] rfl (by simp) (by first | omega | (simp; omega) | simp) fun Hy Oy L=>?_
    have L:=L.drop (ahj _ _) (fun _ h=>h)
    obtain ⟨b,o',c,k1,t1,n1,a1,bm,mD,e1,e2,⟨q0,q1,q2,q3,q4⟩,hr,fi,bF⟩:=gr hk 0 (by simp)
    cases e1
    have ca:=L.cell 0 rfl
    have q0:=ab q0 L.fr bF
    have q1:=ab q1 L.fr bF
    have q2:=ab q2 L.fr bF
    have q3:=ab q3 L.fr bF
    have q4:=ab q4 L.fr bF
    unfold sv at q1
    simp only[aiL,aiM,ahl,aiO,aiN] at q0 q1 q2 q3 q4
    simp only[go_sem,ca,q0,q1,q2,q3,q4]
    refine ⟨hg,L.gv (qW x (by simp) L.st (hp.eQ hG L.fr) (L.nh hr)) (by first | omega | (simp; omega) | simp) fun H5 O5 s5 b5 L hx=>?_⟩
    have E5:=hx.len
    simp at E5
    simp only[go_sem]
    refine L.bc fun bz Hz L=>?_
    simp only[go_sem]
    refine L.cq 0 [[44,32]] rfl (by simp) (by first | omega | (simp; omega) | simp) fun Hy Oy L=>?_
    have L:=L.drop (ahj _ _) (fun _ h=>h)
    obtain ⟨b,o',c,k1,t1,n1,a1,bm,mD,e1,e2,⟨q0,q1,q2,q3,q4⟩,hr,fi,bF⟩:=gr hk 1 (by simp)
    cases e1
    have ca:=L.cell 0 rfl
    have q0:=ab q0 L.fr bF
    have q1:=ab q1 L.fr bF
    have q2:=ab q2 L.fr bF
    have q3:=ab q3 L.fr bF
    have q4:=ab q4 L.fr bF
    unfold sv at q1
    simp only[aiL,aiM,ahl,aiO,aiN] at q0 q1 q2 q3 q4
    simp only[go_sem,ca,q0,q1,q2,q3,q4]
    refine ⟨hg,L.gv (qW y (by simp) L.st (hp.eQ hG L.fr) (L.nh hr)) (by first | omega | (simp; omega) | simp) fun H6 O6 s6 b6 L hy=>?_⟩
    have Wv:=hy.len
    simp at Wv
    simp only[go_sem]
    refine L.bc fun bz Hz L=>?_
    simp only[go_sem]
    refine L.cq 0 [[41]] rfl (by simp) (by first | omega | (simp; omega) | simp) fun Hy Oy L=>?_
    have L:=L.drop (ahj _ _) (fun _ h=>h)
    simp only[go_sem]
    exact L.bo ((hm.trans ((Pw.put _ _ _).trans (hx.trans ((Pw.put _ _ _).trans (hy.trans (Pw.put _ _ _)))))).to (by simp) (fun _=>by simp) (by first | omega | (simp; omega) | simp))
 ·simp only[go_sem,ca]
  refine L.cu false (by grind) fun H4 L hm=>?_
  simp only[go_sem]
  exact L.bo (Pw.no (fun h=>by simp[h2] at h))
theorem Gv (ks:List Nd) (i:Nat) (h:i < ks.length) (dk:∀ j (h:j < ks.length),j < i→kindOf ks[j]=47):(kindOf ks[i]=47→i < (aP ks).length)∧(kindOf ks[i]≠47→aP ks=ks.take i∧bt ks=ks.drop i):=by
 induction ks generalizing i with
 | nil=>simp at h
 | cons x r ih=>
   cases i with
   | zero=>
     constructor
     ·intro hk
      simp only[aiK] at hk
      simp[aP,ahr,hk]
     ·intro hk
      simp only[aiK] at hk
      simp[aP,bt,ahr,ahz,hk]
   | succ i=>
     have h0:=dk 0 (by simp) (by omega)
     simp only[aiK] at h0
     obtain ⟨i1,i2⟩:=ih i (by simpa using h) fun j hj DJ=>by
      have:=dk (j + 1) (by simp; omega) (by omega)
      simpa using this
     simp only[ah2]
     constructor
     ·intro hk
      have:=i1 hk
      simp[aP,ahr,h0] at this ⊢
      exact this
     ·intro hk
      obtain ⟨a,b⟩:=i2 hk
      simp[aP,bt,ahr,ahz,h0] at a b ⊢
      exact ⟨a,b⟩
theorem xO (ks:List Nd) (dk:∀ j (h:j < ks.length),kindOf ks[j]=47):aP ks=ks∧bt ks=[]:=by
 induction ks with
 | nil=>exact ⟨rfl,rfl⟩
 | cons x r ih=>
   have h0:=dk 0 (by simp)
   simp only[aiK] at h0
   obtain ⟨a,b⟩:=ih fun j hj=>by
    have:=dk (j + 1) (by simp; omega)
    simpa using this
   simp[aP,bt,ahr,ahz,h0] at a b ⊢
   exact ⟨a,b⟩
theorem dA.Rr {H:Heap} {M:List Nat} {m:Nat} {l:List iH} {a:Option Addr} {n c k:Nat} (h:dA H M (.list m l) [.slice a n c]) (hk:k≤l.length):dA H M (.list m (l.drop k)) [.slice (if c=k then a else a.map (·.add (k * m))) (n - k) (c - k)]:=by
 simp only[dA] at h ⊢
 obtain ⟨a',c',css,h1,h2,h3,h4,h5,h6⟩:=h
 simp only[afV.injEq,and_true,Value.slice.injEq] at h1
 obtain ⟨rfl,rfl,rfl⟩:=h1
 have hlen:=cS.length h4
 refine ⟨_,c - k,css.drop k,by rw[ahs],by rw[ahs]; omega,by omega,cS.drop k h4,fun x hx=>h5 x (List.mem_of_mem_drop hx),?_⟩
 rw[← iw k h5]
 by_cases hc:c=k
 ·refine .inl ?_
  rw[iw k h5,afO (by omega)]; rfl
 ·rw[if_neg hc]
  rcases h6 with h6 | ⟨b,o,h7,h8,h9⟩
  ·exact .inl (by rw[h6]; simp)
  ·refine .inr ⟨b,o + k * m,by rw[h7]; simp[kZ],h8,fun j hj=>?_⟩
   simp only[ahs] at hj
   rw[Nat.add_assoc,h9 (k * m + j) (by omega)]
   simp
def xP:List Nd→Nat
 | []=>0
 | x :: r=>jU (aL x) + 8 + xP r
theorem oE:∀ (ks:List Nd) (i:Nat) (h:i < ks.length),vk (ks.take (i + 1))=vk (ks.take i) ++ sR ks[i]
 | x :: r,0,_=>by simp[vk]
 | x :: r,i + 1,h=>by
   have:=oE r i (by simpa using h)
   simp only[ahq,vk,ah2,this,List.append_assoc]
theorem xQ:∀ (ks:List Nd) (i:Nat) (h:i < ks.length),xP (ks.take (i + 1))=xP (ks.take i) + (jU (aL ks[i]) + 8)
 | x :: r,0,_=>by simp[xP]
 | x :: r,i + 1,h=>by
   have:=xQ r i (by simpa using h)
   simp only[ahq,xP,ah2,this]; omega
theorem E7:∀ (ks:List Nd) (i:Nat),xP (ks.take i)≤xP ks
 | [],i=>by simp[xP]
 | x :: r,0=>by simp[xP]
 | x :: r,i + 1=>by
   have:=E7 r i
   simp only[ahq,xP]; omega
theorem Pw.Mb {s s' t t':Bs} {b b' k k':Bool} {w w':Nat} (h:Pw s b s' b' k t w) (hk:k=false) (bZ:k'=true→False) (hw:w≤w'):Pw s b s' b' k' t' w':=by
 have hb:b'=true:=by rw[h.bad,hk]; cases b <;> rfl
 subst hb
 exact h.stop (fun h=>(bZ h).elim) hw
theorem Gw (ks:List Nd) (h:ks.length≤maxLen):decide ((0:Int)≤afd.wrap ((ks.length:Int) - 1))= !ks.isEmpty:=by
 cases ks with
 | nil=>decide
 | cons x r=>
   unfold maxLen at h
   have hl:(x :: r).length=r.length + 1:=rfl
   rw[aV _ (by omega) (by omega),hl]
   simp
theorem uV {ks:List Nd} {H0:Heap} {O0:List Nat} {q cc:Nat} {aa:Option Addr} {s:Bs} {bad:Bool} (hp:Pr H0 O0 q s bad)
 (hk:dA H0 O0 (aW ks) [.slice aa ks.length cc]) (jG:ks.length≤cc) (eJ:ks.length≤maxLen) (hmc:cc≤maxLen) (k:Nat) (QT:k≤ks.length) (hl:aP ks=ks.take k) (hr:bt ks=ks.drop k)
 (hw:s.length + (8 + jU (aP ks) + xP (bt ks))≤140737488355328) (o3 o4 o5 o6 o7 o8 o9 o10 o11:Option Value) :
 vc afI (fun _ _=>False) D1 [some (.pointer (some ⟨q,0,none⟩)),some (.slice aa ks.length cc),some (.int .i64 k),o3,o4,o5,o6,o7,o8,o9,o10,o11] H0 (u5 [] fun r H'=>r= .tuple #[]∧∃ O' s' mU,Pr H' O' q s' mU∧Fr O0 H0 H'∧Oo H0 O0 O'∧Pw s bad s' mU ((aP ks).all dQ && (bt ks).all jQ) ([99,108,111,115,101,100] ++ 40 :: (lk true (aP ks) ++ (vk (bt ks) ++ [41]))) (8 + jU (aP ks) + xP (bt ks))):=by
 have L:=PL.start hp
 have Dl:(0:Int)≤(k:Int):=by omega
 have Ed:(k:Int)≤(cc:Int):=by omega
 have TL:(k:Int)≤(ks.length:Int):=by omega
 rw[JT]
 simp only[go_sem]
 refine L.bc fun bz Hz L=>?_
 simp only[go_sem]
 refine L.cq 0 [[99,108,111,115,101,100,40]] rfl (by simp) (by first | omega | (simp; omega) | simp) fun Hy Oy L=>?_
 have L:=L.drop (ahj _ _) (fun _ h=>h)
 simp only[go_sem,Dl,Ed,TL]
 have ri:dA H0 O0 (aW (ks.take k)) [.slice aa k cc]:=by
  have:=dA.BI hk (k:=k) (by simpa using QT)
  rw[← aiT] at this; exact this
 refine L.gv (uh L.st (L.C9 ri)) (by rw[← hl]; first | omega | (simp; omega) | simp) fun H5 O5 s5 b5 L hq=>?_
 have pX:dA H0 O0 (aW (ks.drop k)) [.slice (if cc=k then aa else aa.map (·.add (k * 5))) (ks.length - k) (cc - k)]:=by
  have:=dA.Rr hk (k:=k) (by simpa using QT)
  rw[← List.map_drop] at this; exact this
 rw[← hl] at hq
 simp only[go_sem,Dl,Ed,TL]
 have Wx:ks.length - k=(bt ks).length:=by rw[hr,ahs]
 rw[← hr] at pX
 rw[Wx] at pX ⊢
 have hrm:(bt ks).length≤maxLen:=by omega
 have hq1:=(Pw.put s bad [99,108,111,115,101,100,40]).trans hq
 have yU:Pw s bad s5 b5 ((aP ks).all dQ) ([99,108,111,115,101,100] ++ 40 :: lk true (aP ks)) (7 + jU (aP ks)):=by
  refine (((Pw.put s bad [99,108,111,115,101,100,40]).trans hq)).to (by simp) (fun _=>by simp) (by simp)
 clear hq1 hq
 generalize bt ks=rs at *
 generalize aP ks=ls at *
 generalize (if cc=k then aa else aa.map (·.add (k * 5)))=ar at *
 generalize cc - k=cr at *
 refine bC (fun (i:Nat) H'=>i≤rs.length∧∃ O' s' b' l,PL O0 H0 q O' s' b' H' l∧Pw s5 b5 s' b' ((rs.take i).all jQ) (vk (rs.take i)) (xP (rs.take i)))
  (fun i=>[(0,.pointer (some ⟨q,0,none⟩)),(32,.slice ar rs.length cr),(33,.int .i64 rs.length),(34,.int .i64 i)]) (fun i=>rs.length - i) 0 ?_ ?_ ?_
 ·exact ⟨ahn _,_,_,_,_,L,by simpa [vk,xP] using Pw.refl s5 _⟩
 ·simp only[go_sem]
 ·rintro i H1 ⟨hi,O1,s1,b1,l1,L,eZ⟩
  have KF:=yU.len
  have p8:=eZ.len
  rcases ae8 i rs.length with ba | nf
  ·have h0:(0:Int)≤(i:Int):=by omega
   have h1:(i:Int) < (rs.length:Int):=by omega
   have gl:=dD ba hrm
   have tj:=xQ rs i ba
   have Ah:=E7 rs (i + 1)
   obtain ⟨b,o,c,k1,t1,n1,a1,bm,mD,e1,e2,⟨q0,q1,q2,q3,q4⟩,Ib,fi,bF⟩:=gr pX i ba
   cases e1
   have q0:=ab q0 L.fr bF
   have q1:=ab q1 L.fr bF
   have q2:=ab q2 L.fr bF
   have q3:=ab q3 L.fr bF
   have q4:=ab q4 L.fr bF
   simp only[ahl] at q0
   unfold sv at q1
   rw[e2] at Ib tj
   obtain ⟨a2,c2,u0,Nl,yh,nr⟩:=Ib.open
   simp only[aiV.injEq,aiX.injEq,afV.injEq,and_true,true_and] at u0
   subst u0
   simp only[aL] at tj
   have E8:jQ rs[i]=(decide (k1=20) && lj (.mk k1 t1 n1 a1 bm) && !bm.isEmpty && bm.all dQ):=by rw[e2]; rfl
   have abo:jQ rs[i]=false→((ls.all dQ && rs.all jQ)=true→False):=fun hf h=>by
    simp only[ae5] at h
    have:=afg.1 h.2 rs[i] (List.getElem_mem ba)
    rw[hf] at this; cases this
   simp only[go_sem,h0,h1,q0,q1,q2,q3,q4]
   refine ay fun H5 np fP _=>?_
   have L5:=L.push fP np
   simp only[go_sem]
   refine aC np rfl (ax fi) fun H6 gL fB _=>?_
   have L:=L5.Na 0 rfl fB gL
   have ck:=L.cell 0 rfl
   unfold sv at ck
   by_cases mi:k1=20
   ·subst mi
    have nf:decide ((0:Int)≤afd.wrap ((bm.length:Int) - 1))= !bm.isEmpty:=Gw bm nr
    simp only[go_sem,ck]
    refine (ga (t:=t1)).mono ?_
    rintro r H7 ⟨rfl,fK⟩
    have L:=L.ext fK
    have ck:=L.cell 0 rfl
    unfold sv at ck
    by_cases hC:t1=[]∧n1=0∧bm≠[]
    ·obtain ⟨rfl,rfl,dH⟩:=hC
     have ad8:bm.isEmpty=false:=by simpa using dH
     have tE:0 < bm.length:=aho.2 dH
     have E9:afd.wrap ((bm.length:Int) - 1)=((bm.length - 1:Nat):Int):=by
      unfold maxLen at nr
      rw[aV _ (by omega) (by omega)]; omega
     rw[E9]
     simp only[go_sem,ck]
     refine L.cu true (by simp) fun H8 L hm=>?_
     have zB:jQ rs[i]=bm.all dQ:=by rw[E8,ad8]; simp[lj,ak,numOf]
     cases b1 with
     | true=>
       simp only[go_sem]
       exact L.bo ((yU.trans (eZ.trans hm)).stop (fun h=>by
        simp only[ae5] at h
        have ht:(rs.take i).all jQ=true:=afg.2 fun y hy=>afg.1 h.2 y (List.mem_of_mem_take hy)
        simp[h.1,ht]) (by omega))
     | false=>
       have C8:(0:Int)≤((bm.length - 1:Nat):Int):=by omega
       have yN:((bm.length - 1:Nat):Int) < (bm.length:Int):=by omega
       have yf:((bm.length - 1:Nat):Int)≤(c2:Int):=by omega
       have ri:dA H0 O0 (aW (bm.take (bm.length - 1))) [.slice a2 (bm.length - 1:Nat) c2]:=by
        have:=dA.BI Nl (k:=bm.length - 1) (by simp)
        rw[← aiT] at this; exact this
       have Vk:=oA bm (bm.length - 1) (by omega)
       rw[show bm.length - 1 + 1=bm.length by omega,ain] at Vk
       simp only[go_sem]
       refine L.bc fun bz Hz L=>?_
       simp only[go_sem]
       refine L.cq 0 [[59,32]] rfl (by simp) (by first | omega | (simp; omega) | simp) fun Hy Oy L=>?_
       have L:=L.drop (ahj _ _) (fun _ h=>h)
       have ck:=L.cell 0 rfl
       unfold sv at ck
       simp only[go_sem,ck,C8,yN,yf]
       refine L.gv (uh L.st (L.C9 ri)) (by first | omega | (simp; omega) | simp) fun H9 O9 s9 b9 L Wn=>?_
       have hl9:=Wn.len
       simp at hl9
       have Rs:sR rs[i]=59 :: 32 :: (lk true (bm.take (bm.length - 1)) ++ ((if bm.length - 1=0 then [] else [32]) ++ 61 :: 62 :: 32 :: 39 :: (ak bm[bm.length - 1] ++ [39]))):=by
        rw[e2]
        have d1:bm.dropLast=bm.take (bm.length - 1):=aiU
        have d2:bm.getLast?=some bm[bm.length - 1]:=by rw[List.getLast?_eq_getElem?,List.getElem?_eq_getElem]
        have d3:(bm.take (bm.length - 1)).isEmpty=decide (bm.length - 1=0):=by
         rw[Bool.eq_iff_iff]
         simp only[ah6,decide_eq_true_eq,← List.length_eq_zero_iff,afP]
         omega
        simp only[sR,aL,d1,d2,d3]
        simp
       have Da:bm.all dQ=((bm.take (bm.length - 1)).all dQ && dQ bm[bm.length - 1]):=by
        have:=fy dQ bm (bm.length - 1) (by omega)
        rw[show bm.length - 1 + 1=bm.length by omega,ain] at this
        exact this
       rcases aiP (bm.length - 1) with hz | I4
       ·have hg:¬ ((0:Int) < ((bm.length - 1:Nat):Int)):=by omega
        simp only[go_sem,hg]
        refine L.bc fun bz Hz L=>?_
        simp only[go_sem]
        refine L.cq 0 [[61,62,32]] rfl (by simp) (by first | omega | (simp; omega) | simp) fun Hy Oy L=>?_
        have L:=L.drop (ahj _ _) (fun _ h=>h)
        have ck:=L.cell 0 rfl
        unfold sv at ck
        obtain ⟨b,o',c,k2,t2,n2,a2,Vl,kv2,e3,e4,⟨p0,p1,p2,p3,p4⟩,qS,Mc,kz⟩:=gr Nl (bm.length - 1) (by omega)
        cases e3
        have p0:=ab p0 L.fr kz
        have p1:=ab p1 L.fr kz
        have p2:=ab p2 L.fr kz
        have p3:=ab p3 L.fr kz
        have p4:=ab p4 L.fr kz
        simp only[ahl] at p0
        unfold sv at p1
        simp only[go_sem,ck,C8,yN,p0,p1,p2,p3,p4]
        refine L.gv (ow L.st (L.nh qS)) (by first | omega | (simp; omega) | simp) fun Hq Oq sq bq L Vm=>?_
        simp only[go_sem,gl]
        refine aj (i + 1) ?_ ?_ ⟨by omega,_,_,_,_,L,?_⟩
        ·show rs.length - (i + 1) < rs.length - i
         omega
        ·simp only[go_sem,gl]
        ·refine (eZ.trans (hm.trans ((Pw.put _ _ _).trans (Wn.trans ((Pw.put _ _ _).trans Vm))))).to (by rw[fy _ rs i ba,zB,Da]; simp) (fun _=>?_) (by first | omega | (simp; omega) | simp)
         rw[oE rs i ba,Rs,if_pos hz]; simp
       ·have hg:(0:Int) < ((bm.length - 1:Nat):Int):=by omega
        simp only[go_sem,hg]
        refine L.bc fun bz Hz L=>?_
        simp only[go_sem]
        refine L.cq 0 [[32]] rfl (by simp) (by first | omega | (simp; omega) | simp) fun Hy Oy L=>?_
        have L:=L.drop (ahj _ _) (fun _ h=>h)
        simp only[go_sem]
        refine L.bc fun bz Hz L=>?_
        simp only[go_sem]
        refine L.cq 0 [[61,62,32]] rfl (by simp) (by first | omega | (simp; omega) | simp) fun Hy Oy L=>?_
        have L:=L.drop (ahj _ _) (fun _ h=>h)
        have ck:=L.cell 0 rfl
        unfold sv at ck
        obtain ⟨b,o',c,k2,t2,n2,a2,Vl,kv2,e3,e4,⟨p0,p1,p2,p3,p4⟩,qS,Mc,kz⟩:=gr Nl (bm.length - 1) (by omega)
        cases e3
        have p0:=ab p0 L.fr kz
        have p1:=ab p1 L.fr kz
        have p2:=ab p2 L.fr kz
        have p3:=ab p3 L.fr kz
        have p4:=ab p4 L.fr kz
        simp only[ahl] at p0
        unfold sv at p1
        simp only[go_sem,ck,C8,yN,p0,p1,p2,p3,p4]
        refine L.gv (ow L.st (L.nh qS)) (by first | omega | (simp; omega) | simp) fun Hq Oq sq bq L Vm=>?_
        simp only[go_sem,gl]
        refine aj (i + 1) ?_ ?_ ⟨by omega,_,_,_,_,L,?_⟩
        ·show rs.length - (i + 1) < rs.length - i
         omega
        ·simp only[go_sem,gl]
        ·refine (eZ.trans (hm.trans ((Pw.put _ _ _).trans (Wn.trans ((Pw.put _ _ _).trans ((Pw.put _ _ _).trans Vm)))))).to (by rw[fy _ rs i ba,zB,Da]; simp) (fun _=>?_) (by first | omega | (simp; omega) | simp)
         rw[oE rs i ba,Rs,if_neg (by omega)]; simp
    ·have hC':jQ rs[i]=false:=by
      cases hv:jQ rs[i] with
      | false=>rfl
      | true=>
        rw[E8] at hv
        simp only[lj,ak,numOf,ae5,decide_eq_true_eq] at hv
        refine absurd ⟨of_decide_eq_true hv.1.1.2.1,of_decide_eq_true hv.1.1.2.2,fun he=>?_⟩ hC
        rw[he] at hv
        exact absurd hv.1.2 (by decide)
     simp only[go_sem,ck]
     refine L.cu false (by rw[nf]; cases bm <;> simp_all) fun H8 L hm=>?_
     simp only[go_sem]
     exact L.bo ((yU.trans (eZ.trans hm)).Mb (by simp) (abo hC') (by omega))
   ·have hC':jQ rs[i]=false:=by rw[E8]; simp[mi]
    simp only[go_sem,ck,mi]
    refine L.fN false fun H7 L hm=>?_
    simp only[go_sem]
    exact L.bo ((yU.trans (eZ.trans hm)).Mb (by simp) (abo hC') (by omega))
  ·have h1:¬ ((i:Int) < (rs.length:Int)):=by omega
   obtain rfl:i=rs.length:=by omega
   rw[ain] at eZ p8
   simp only[go_sem,h1]
   refine L.bc fun bz Hz L=>?_
   simp only[go_sem]
   refine L.cq 0 [[41]] rfl (by simp) (by first | omega | (simp; omega) | simp) fun Hy Oy L=>?_
   have L:=L.drop (ahj _ _) (fun _ h=>h)
   simp only[go_sem]
   exact L.bo ((yU.trans (eZ.trans (Pw.put _ _ _))).to (by simp) (fun _=>by simp) (by first | omega | (simp; omega) | simp))
theorem Ic {H:Heap} {O:List Nat} {q:Nat} {s:Bs} {bad:Bool} (hp:Pr H O q s bad) {ks:List Nd} {v:Value} (hk:dA H O (aW ks) [v]) :
 PC 70 [.pointer (some ⟨q,0,none⟩),v] H O q s bad ((aP ks).all dQ && (bt ks).all jQ) ([99,108,111,115,101,100] ++ 40 :: (lk true (aP ks) ++ (vk (bt ks) ++ [41]))) (8 + jU (aP ks) + xP (bt ks)):=by
 intro hw
 obtain ⟨aa,cc,rfl,jG,eJ,hmc⟩:∃ aa cc,v= .slice aa ks.length cc∧ks.length≤cc∧ks.length≤maxLen∧cc≤maxLen:=by
  obtain ⟨a,c,h1,h5,h4⟩:=dA.slice hk
  simp only[List.length_map] at h1 h5
  exact ⟨a,c,h1,h5,by omega,h4⟩
 refine af (args:=[_,_]) Tryz.func70 ZH (ahi rfl) ?_
 simp only[go_sem,c70]
 refine bC (fun (i:Nat) H'=>H'=H∧i≤ks.length∧∀ j (h:j < ks.length),j < i→kindOf ks[j]=47)
  (fun i=>[(0,.pointer (some ⟨q,0,none⟩)),(1,.slice aa ks.length cc),(4,.int .i64 i)]) (fun i=>ks.length - i) 0 ?_ ?_ ?_
 ·exact ⟨rfl,ahn _,fun j h hj=>by omega⟩
 ·simp only[go_sem]
 ·rintro i H1 ⟨rfl,hi,dk⟩
  rcases ae8 i ks.length with ba | nf
  ·have h0:(0:Int)≤(i:Int):=by omega
   have h1:(i:Int) < (ks.length:Int):=by omega
   obtain ⟨b,o,c,k1,t1,n1,a1,bm,mD,e1,e2,⟨q0,q1,q2,q3,q4⟩,hr,fi,bF⟩:=gr hk i ba
   cases e1
   simp only[ahl] at q0
   obtain ⟨l1,l2⟩:=Gv ks i ba dk
   by_cases Ma:k1=47
   ·subst Ma
    have gl:=dD ba eJ
    simp only[go_sem,h0,h1,q0,gl]
    refine aj (i + 1) ?_ ?_ ⟨rfl,by omega,fun j hj DJ=>?_⟩
    ·show ks.length - (i + 1) < ks.length - i
     omega
    ·simp only[go_sem]
    ·rcases ae8 j i with h | h
     ·exact dk j hj h
     ·obtain rfl:j=i:=by omega
      rw[e2]; rfl
   ·have hl:=l2 (by rw[e2]; exact Ma)
    simp only[go_sem,h0,h1,q0,Ma]
    exact uV hp hk jG eJ hmc i hi hl.1 hl.2 hw _ _ _ _ _ _ _ _ _
  ·have h1:¬ ((i:Int) < (ks.length:Int)):=by omega
   obtain rfl:i=ks.length:=by omega
   have hl:=xO ks fun j hj=>dk j hj hj
   simp only[go_sem,h1]
   exact uV hp hk jG eJ hmc _ (afJ _) (by rw[ain]; exact hl.1) (by rw[List.drop_length]; exact hl.2) hw _ _ _ _ _ _ _ _ _
theorem qK:∀ ks:List Nd,jU ks≤wL ks
 | []=>by simp[jU,wL]
 | x :: r=>by
   have:=qK r
   obtain ⟨k,t,n,a,kk⟩:=x
   simp only[jU,wL,wN,ak]; omega
theorem Me:∀ ks:List Nd,xP ks≤wL ks
 | []=>by simp[xP,wL]
 | x :: r=>by
   have:=Me r
   obtain ⟨k,t,n,a,kk⟩:=x
   have:=qK kk
   simp only[xP,wL,wN,aL]; omega
theorem Fa:∀ (l m:List Nd),wL (l ++ m)=wL l + wL m
 | [],m=>by simp[wL]
 | x :: l,m=>by
   have:=Fa l m
   simp only[ahm,wL,this]; omega
theorem wcl (ks:List Nd):jU (aP ks) + xP (bt ks)≤wL ks:=by
 have h1:=qK (aP ks)
 have h2:=Me (bt ks)
 have h3:aP ks ++ bt ks=ks:=List.takeWhile_append_dropWhile
 have h4:=Fa (aP ks) (bt ks)
 rw[h3] at h4
 omega
theorem oF:∀ ks:List Nd,fw ks=ks.map cV
 | []=>rfl
 | x :: r=>by rw[fw,oF r]; rfl
theorem Fb:∀ ks:List Nd,(ks.map wN).sum=wL ks
 | []=>rfl
 | x :: r=>by rw[afi,aiQ,Fb r]; rfl
theorem Fc:∀ ks:List Nd,(ks.map fun _=>20).sum≤wL ks
 | []=>afJ _
 | x :: r=>by
   have:=Fc r
   obtain ⟨k,t,n,a,kk⟩:=x
   rw[afi,aiQ]
   simp only[wL,wN]; omega
theorem zC {x:Nd}:∀ {ks:List Nd},x ∈ ks→aq x≤aA ks
 | y :: r,h=>by
   rcases afa.1 h with rfl | h
   ·simp only[aA]; omega
   ·have:=zC h
    simp only[aA]; omega
theorem pG {x:Nd}:∀ {ks:List Nd},x ∈ ks→EZ ks→ny x
 | y :: r,h,hi=>by
   rcases afa.1 h with rfl | h
   ·exact hi.1
   ·exact pG h hi.2
theorem vO {x:Nd} (h:ny x):-9223372036854775808≤numOf x∧numOf x≤9223372036854775807:=by
 obtain ⟨k,t,n,a,ks⟩:=x
 exact ⟨h.1,h.2.1⟩
theorem zD:∀ (ks:List Nd) (i:Nat) (h:i < ks.length),fb (ks.take (i + 1))=(fb (ks.take i) && uQ ks[i])
 | x :: r,0,_=>by simp[fb]
 | x :: r,i + 1,h=>by
   have:=zD r i (by simpa using h)
   simp only[ahq,fb,ah2,this,aiR]
theorem Db (f:Bool):∀ (ks:List Nd) (i:Nat) (h:i < ks.length),ti f (ks.take (i + 1))=ti f (ks.take i) ++ ((if i=0 then (if f then [] else [44,32]) else [44,32]) ++ sM ks[i])
 | x :: r,0,_=>by simp[ti]
 | x :: r,i + 1,h=>by
   have:=Db false r i (by simpa using h)
   simp only[ahq,ti,ah2,this]
   cases i <;> simp
theorem Mf {k n p:Int} {t:Bs} {ks:List Nd}:uQ (.mk k t n p ks)=(decide (k=22) && aT t && decide (n=0) && decide (ks.length=1) && (fw ks).all id):=by rw[uQ]
def Mg (N:Nat):Prop:=∀ x:Nd,aq x≤N→ny x→∀ {H:Heap} {O:List Nat} {q:Nat} {s:Bs} {bad:Bool} (hp:Pr H O q s bad) (hG:bS H) {v:Value} (hx:NO H O x v),
 PC 37 [.pointer (some ⟨q,0,none⟩),v] H O q s bad (cV x) (sL x) (wN x)
theorem Mh {N:Nat} (ih:Mg N):Mg (N + 1):=by
 intro x hN dP H O q s bad hp hG v hx hw
 have eS:=hx
 obtain ⟨k,t,n,a,ks⟩:=x
 obtain ⟨aa,cc,rfl,hk,jG,eJ⟩:=hx.open
 simp only[aq] at hN
 have tm:wN (.mk k t n a ks)=t.length + 64 + wL ks:=rfl
 rw[tm] at hw ⊢
 have Wn:=qK ks
 refine af (args:=[_,_]) Tryz.func37 Zm (ahi rfl) ?_
 have L:=PL.start hp
 simp only[go_sem,c37]
 refine L.aS fun bx H1 L=>?_
 have ca:=L.cell 0 rfl
 by_cases jz:k=21
 ·subst jz
  have dj:cV (.mk 21 t n a ks)=(aT t && decide (n=0) && ks.isEmpty):=by rw[cV.eq_def]; rfl
  rw[ma]
  simp only[go_sem,ca]
  refine L.cu ks.isEmpty (dL ks) fun H4 L hm=>?_
  have ca:=L.cell 0 rfl
  simp only[go_sem,ca]
  refine L.gv (eL L.st) (by first | omega | (simp; omega) | simp) fun H6 O6 s6 b6 L hn=>?_
  simp only[go_sem]
  exact L.bo ((hm.trans hn).to (by rw[dj]; simp[fH,aT]; grind) (fun _=>by simp) (by omega))
 simp only[go_sem,ca,jz]
 refine (ga (t:=t)).mono ?_
 rintro r H2 ⟨rfl,cQ⟩
 have L:=L.ext cQ
 simp only[go_sem]
 refine L.fN _ fun H3 L hm=>?_
 by_cases fQ:t=[]∧n=0
 ·obtain ⟨rfl,rfl⟩:=fQ
  simp only[decide_true,Bool.and_self] at hm L ⊢
  cases bad with
  | true=>
    simp only[go_sem]
    exact L.bo (hm.stop (fun _=>rfl) (by omega))
  | false=>
    have ca:=L.cell 0 rfl
    have hL:=@cV.eq_def (.mk k [] 0 a ks)
    by_cases Bg:k=10
    ·subst Bg
     have dj:cV (.mk 10 [] 0 a ks)=ks.isEmpty:=hL
     rw[pC,dj]
     simp only[go_sem,ca]
     refine L.cu ks.isEmpty (dL ks) fun H4 L nr=>?_
     have ca:=L.cell 0 rfl
     simp only[go_sem,ca]
     refine L.bc fun bz Hz L=>?_
     simp only[go_sem]
     refine L.cq 0 [[102,108,97,103]] rfl (by simp) (by first | omega | (simp; omega) | simp) fun Hy Oy L=>?_
     have L:=L.drop (ahj _ _) (fun _ h=>h)
     simp only[go_sem]
     exact L.bo ((hm.trans (nr.trans (Pw.put _ _ _))).to (by simp) (fun _=>by simp) (by first | omega | (simp; omega) | simp))
    by_cases h18:k=18
    ·subst h18
     have dj:cV (.mk 18 [] 0 a ks)=ks.isEmpty:=hL
     rw[ie,dj]
     simp only[go_sem,ca]
     refine L.cu ks.isEmpty (dL ks) fun H4 L nr=>?_
     have ca:=L.cell 0 rfl
     simp only[go_sem,ca]
     refine L.bc fun bz Hz L=>?_
     simp only[go_sem]
     refine L.cq 0 [[114,101,103,105,115,116,101,114]] rfl (by simp) (by first | omega | (simp; omega) | simp) fun Hy Oy L=>?_
     have L:=L.drop (ahj _ _) (fun _ h=>h)
     simp only[go_sem]
     exact L.bo ((hm.trans (nr.trans (Pw.put _ _ _))).to (by simp) (fun _=>by simp) (by first | omega | (simp; omega) | simp))
    by_cases Ku:k=11
    ·subst Ku
     have dj:cV (.mk 11 [] 0 a ks)=(decide (ks.length=2) && ks.all mh):=hL
     simp only[go_sem,ca]
     have Mj:=Fc ks
     refine L.gv (E6 (g:=68) (okF:=mh) (tF:=fun x=>ah4 (numOf x)) (wF:=fun _=>20) (by kernel_rfl) [109,97,120] (fun x hx {H O s bad v} hp hG hv=>qH hp hG hv (vO (pG hx dP.2.2)).1 (vO (pG hx dP.2.2)).2) L.st (hp.eQ hG L.fr) (L.nh eS)) (by simp at Mj ⊢; omega) fun H5 O5 s5 b5 L hx=>?_
     simp only[go_sem]
     refine L.bo ((hm.trans hx).to (by rw[dj]; simp) (fun h=>?_) (by simp at Mj ⊢; omega))
     simp only[ahG,ae5,decide_eq_true_eq] at h
     match ks,h.1 with
     | [x,y],_=>rw[uc]; simp
    by_cases Nb:k=12
    ·subst Nb
     have dj:cV (.mk 12 [] 0 a ks)=(decide (ks.length=2) && ks.all mh):=hL
     simp only[go_sem,ca]
     have Mj:=Fc ks
     refine L.gv (E6 (g:=68) (okF:=mh) (tF:=fun x=>ah4 (numOf x)) (wF:=fun _=>20) (by kernel_rfl) [109,105,110] (fun x hx {H O s bad v} hp hG hv=>qH hp hG hv (vO (pG hx dP.2.2)).1 (vO (pG hx dP.2.2)).2) L.st (hp.eQ hG L.fr) (L.nh eS)) (by simp at Mj ⊢; omega) fun H5 O5 s5 b5 L hx=>?_
     simp only[go_sem]
     refine L.bo ((hm.trans hx).to (by rw[dj]; simp) (fun h=>?_) (by simp at Mj ⊢; omega))
     simp only[ahG,ae5,decide_eq_true_eq] at h
     match ks,h.1 with
     | [x,y],_=>rw[ud]; simp
    by_cases BR:k=16
    ·subst BR
     have dj:cV (.mk 16 [] 0 a ks)=(decide (ks.length=2) && (fw ks).all id):=hL
     simp only[go_sem,ca]
     refine L.gv (E6 (g:=37) (okF:=cV) (tF:=sL) (wF:=wN) (by kernel_rfl) [108,101,120] (fun x hx {H O s bad v} hp hG hv=>ih x (by have:=zC hx; omega) (pG hx dP.2.2) hp hG hv) L.st (hp.eQ hG L.fr) (L.nh eS)) (by rw[Fb]; simp; omega) fun H5 O5 s5 b5 L hx=>?_
     simp only[go_sem]
     refine L.bo ((hm.trans hx).to (by rw[dj,oF]; simp) (fun h=>?_) (by rw[Fb]; first | omega | (simp; omega) | simp))
     simp only[ahG,ae5,decide_eq_true_eq] at h
     match ks,h.1 with
     | [x,y],_=>rw[ue]; simp
    by_cases Nc:k=13
    ·subst Nc
     have dj:cV (.mk 13 [] 0 a ks)=ks.all dQ:=hL
     rw[ov,dj]
     simp only[go_sem,ca]
     refine L.bc fun bz Hz L=>?_
     simp only[go_sem]
     refine L.cq 0 [[115,101,116]] rfl (by simp) (by first | omega | (simp; omega) | simp) fun Hy Oy L=>?_
     have L:=L.drop (ahj _ _) (fun _ h=>h)
     have ca:=L.cell 0 rfl
     simp only[go_sem,ca]
     refine L.gv (qI L.st (L.C9 hk)) (by first | omega | (simp; omega) | simp) fun H5 O5 s5 b5 L hx=>?_
     simp only[go_sem]
     exact L.bo ((hm.trans ((Pw.put _ _ _).trans hx)).to (by simp) (fun _=>by simp) (by first | omega | (simp; omega) | simp))
    by_cases Nh:k=17
    ·subst Nh
     have dj:cV (.mk 17 [] 0 a ks)=ks.all dQ:=hL
     rw[mR,dj]
     simp only[go_sem,ca]
     refine L.bc fun bz Hz L=>?_
     simp only[go_sem]
     refine L.cq 0 [[102,108,97,116]] rfl (by simp) (by first | omega | (simp; omega) | simp) fun Hy Oy L=>?_
     have L:=L.drop (ahj _ _) (fun _ h=>h)
     have ca:=L.cell 0 rfl
     simp only[go_sem,ca]
     refine L.gv (qI L.st (L.C9 hk)) (by first | omega | (simp; omega) | simp) fun H5 O5 s5 b5 L hx=>?_
     simp only[go_sem]
     exact L.bo ((hm.trans ((Pw.put _ _ _).trans hx)).to (by simp) (fun _=>by simp) (by first | omega | (simp; omega) | simp))
    by_cases h19:k=19
    ·subst h19
     have dj:cV (.mk 19 [] 0 a ks)=((aP ks).all dQ && (bt ks).all jQ):=hL
     have hwc:=wcl ks
     rw[jT,dj]
     simp only[go_sem,ca]
     refine L.gv (Ic L.st (L.C9 hk)) (by omega) fun H5 O5 s5 b5 L hx=>?_
     simp only[go_sem]
     exact L.bo ((hm.trans hx).to (by simp) (fun _=>by simp) (by omega))
    by_cases Nf:k=14
    ·subst Nf
     have dj:cV (.mk 14 [] 0 a ks)=(ks.dropLast.all dQ && ((fw ks).getLast?.getD false)):=hL
     have nf:=Gw ks eJ
     simp only[go_sem,ca]
     refine L.cu (!ks.isEmpty) nf fun H4 L nr=>?_
     by_cases dH:ks=[]
     ·subst dH
      simp only[List.isEmpty_nil,aiY] at nr L ⊢
      simp only[go_sem]
      exact L.bo ((hm.trans nr).Mb (by simp) (fun h=>by rw[dj] at h; simp[fw] at h) (by omega))
     ·have hem:ks.isEmpty=false:=by simpa using dH
      have tE:0 < ks.length:=aho.2 dH
      rw[hem] at nr L ⊢
      simp only[Bool.not_false,aiY,Bool.or_false,aip] at nr L ⊢
      have E9:afd.wrap ((ks.length:Int) - 1)=((ks.length - 1:Nat):Int):=by
       unfold maxLen at eJ
       rw[aV _ (by omega) (by omega)]; omega
      rw[E9]
      have C8:(0:Int)≤((ks.length - 1:Nat):Int):=by omega
      have yN:((ks.length - 1:Nat):Int) < (ks.length:Int):=by omega
      have yf:((ks.length - 1:Nat):Int)≤(cc:Int):=by omega
      have ri:dA H O (aW (ks.take (ks.length - 1))) [.slice aa (ks.length - 1:Nat) cc]:=by
       have:=dA.BI hk (k:=ks.length - 1) (by simp)
       rw[← aiT] at this; exact this
      have Vk:=eM ks (ks.length - 1) (by omega)
      rw[show ks.length - 1 + 1=ks.length by omega,ain] at Vk
      have ae2:=qK (ks.take (ks.length - 1))
      have jk:ks=ks.take (ks.length - 1) ++ [ks[ks.length - 1]]:=by
       have:=aim (l:=ks) (i:=ks.length - 1) (by omega)
       rw[show ks.length - 1 + 1=ks.length by omega,ain] at this
       exact this
      simp only[go_sem]
      refine L.bc fun bz Hz L=>?_
      simp only[go_sem]
      refine L.cq 0 [[109,97,112]] rfl (by simp) (by first | omega | (simp; omega) | simp) fun Hy Oy L=>?_
      have L:=L.drop (ahj _ _) (fun _ h=>h)
      have ca:=L.cell 0 rfl
      simp only[go_sem,ca,C8,yN,yf]
      refine L.gv (qI L.st (L.C9 ri)) (by first | omega | (simp; omega) | simp) fun H5 O5 s5 b5 L ta=>?_
      have E5:=ta.len
      simp at E5
      simp only[go_sem]
      refine L.bc fun bz Hz L=>?_
      simp only[go_sem]
      refine L.cq 0 [[32]] rfl (by simp) (by first | omega | (simp; omega) | simp) fun Hy Oy L=>?_
      have L:=L.drop (ahj _ _) (fun _ h=>h)
      have ca:=L.cell 0 rfl
      obtain ⟨b,o',c,k1,t1,n1,a1,bm,mD,e1,e2,⟨q0,q1,q2,q3,q4⟩,hr,fi,bF⟩:=gr hk (ks.length - 1) (by omega)
      cases e1
      have q0:=ab q0 L.fr bF
      have q1:=ab q1 L.fr bF
      have q2:=ab q2 L.fr bF
      have q3:=ab q3 L.fr bF
      have q4:=ab q4 L.fr bF
      simp only[ahl] at q0
      unfold sv at q1
      simp only[go_sem,ca,C8,yN,q0,q1,q2,q3,q4]
      refine L.gv (ih _ (by have:=hJ ks (ks.length - 1) (by omega); omega) (kV ks _ (by omega) dP.2.2) L.st (hp.eQ hG L.fr) (L.nh hr)) (by first | omega | (simp; omega) | simp) fun H6 O6 s6 b6 L hy=>?_
      simp only[go_sem]
      refine L.bo ((hm.trans (nr.trans ((Pw.put _ _ _).trans (ta.trans ((Pw.put _ _ _).trans hy))))).to ?_ (fun _=>?_) (by first | omega | (simp; omega) | simp))
      ·rw[dj,oF]
       have d1:ks.dropLast=ks.take (ks.length - 1):=aiU
       have d2:ks.getLast?=some ks[ks.length - 1]:=by rw[List.getLast?_eq_getElem?,List.getElem?_eq_getElem]
       rw[d1,List.getLast?_map,d2]; simp
      ·have:=ub (n:=0) (p:=a) (t:=[]) (ks:=ks.take (ks.length - 1)) (x:=ks[ks.length - 1])
       rw[← jk] at this
       rw[this]; simp
    by_cases Ng:k=15
    ·subst Ng
     have dj:cV (.mk 15 [] 0 a ks)=(!ks.isEmpty && fb ks):=hL
     have hgt:decide ((0:Int) < (ks.length:Int))= !ks.isEmpty:=by cases ks <;> simp <;> omega
     rw[pD,dj]
     simp only[go_sem,ca]
     refine L.cu (!ks.isEmpty) hgt fun H4 L nr=>?_
     simp only[go_sem]
     refine L.bc fun bz Hz L=>?_
     simp only[go_sem]
     refine L.cq 0 [[123]] rfl (by simp) (by first | omega | (simp; omega) | simp) fun Hy Oy L=>?_
     have L:=L.drop (ahj _ _) (fun _ h=>h)
     have ca:=L.cell 0 rfl
     have yU:=hm.trans (nr.trans (Pw.put _ _ [[123]].flatten))
     generalize D9:s ++ [[123]].flatten=s5 at *
     generalize FI:((false || !true) || !!ks.isEmpty)=b5 at *
     simp only[go_sem,ca]
     refine bC (fun (i:Nat) H'=>i≤ks.length∧∃ O' s' b' l,PL O H q O' s' b' H' l∧Pw s5 b5 s' b' (fb (ks.take i)) (ti true (ks.take i)) (wL (ks.take i)))
      (fun i=>[(0,.pointer (some ⟨q,0,none⟩)),(126,.slice aa ks.length cc),(127,.int .i64 ks.length),(128,.int .i64 i)]) (fun i=>ks.length - i) 0 ?_ ?_ ?_
     ·exact ⟨ahn _,_,_,_,_,L,by simpa [ti,fb,wL] using Pw.refl s5 _⟩
     ·simp only[go_sem]
     ·rintro i H1 ⟨hi,O1,s1,b1,l1,Li,eZ⟩
      have KF:s5.length≤s.length + 1:=by simpa using yU.len
      have p8:=eZ.len
      rcases ae8 i ks.length with ba | nf
      ·have h0:(0:Int)≤(i:Int):=by omega
       have h1:(i:Int) < (ks.length:Int):=by omega
       have gl:=dD ba eJ
       have tj:=eM ks i ba
       have Ah:=mc ks (i + 1)
       have Rt:=zD ks i ba
       have hsM:=Db true ks i ba
       have hsi:=hJ ks i ba
       have Wy:=kV ks i ba dP.2.2
       obtain ⟨b,o,c,k1,t1,n1,a1,bm,mD,e1,e2,⟨q0,q1,q2,q3,q4⟩,Ib,fi,bF⟩:=gr hk i ba
       cases e1
       have L:=Li
       have q0:=ab q0 L.fr bF
       have q1:=ab q1 L.fr bF
       have q2:=ab q2 L.fr bF
       have q3:=ab q3 L.fr bF
       have q4:=ab q4 L.fr bF
       simp only[ahl] at q0
       unfold sv at q1
       rw[e2] at Ib tj Rt hsM hsi Wy
       obtain ⟨a2,c2,u0,Nl,yh,PG⟩:=Ib.open
       simp only[aiV.injEq,aiX.injEq,afV.injEq,and_true,true_and] at u0
       subst u0
       simp only[aq,wN,ny] at hsi tj Wy
       rw[Mf] at Rt
       simp only[go_sem,h0,h1,q0,q1,q2,q3,q4]
       refine ay fun H5 np fP _=>?_
       have L5:=L.push fP np
       simp only[go_sem]
       refine aC np rfl (ax fi) fun H6 gL fB _=>?_
       have L:=L5.Na 0 rfl fB gL
       rcases aiP i with uG | tE
       ·have hg:¬ ((0:Int) < (i:Int)):=by omega
        have qL:=Pw.refl s1 b1
        rw[if_pos uG] at hsM
        simp only[go_sem,hg]
        have ck:=L.cell 0 rfl
        unfold sv at ck
        simp only[go_sem,ck]
        refine (gk (t:=t1) 22 1).mono ?_
        rintro r Hb ⟨rfl,CB⟩
        have L:=L.ext CB
        have ck:=L.cell 0 rfl
        unfold sv at ck
        by_cases hM:k1=22∧bm.length=1
        ·obtain ⟨rfl,h2⟩:=hM
         match bm,h2 with
         | [y],_=>
         simp only[aA,wL,EZ] at hsi tj Wy
         simp only[go_sem]
         refine L.cu true (by simp) fun Hc L yI=>?_
         cases b1 with
         | true=>
           simp only[go_sem,gl]
           refine aj (i + 1) ?_ ?_ ⟨by omega,_,_,_,_,L,(eZ.trans (qL.trans yI)).stop (fun h=>by rw[Rt] at h; simp only[ae5] at h; simp[h.1]) (by first | omega | (simp; omega) | simp)⟩
           ·show ks.length - (i + 1) < ks.length - i
            omega
           ·simp only[go_sem,gl]
         | false=>
           have ck:=L.cell 0 rfl
           unfold sv at ck
           simp only[go_sem,ck]
           refine L.gv (eL (t:=t1) L.st) (by first | omega | (simp; omega) | simp) fun Hn On sn bn L hn=>?_
           have PH:=hn.len
           simp only[go_sem]
           refine L.bc fun bz Hz L=>?_
           simp only[go_sem]
           refine L.cq 0 [[58,32]] rfl (by simp) (by first | omega | (simp; omega) | simp) fun Hy Oy L=>?_
           have L:=L.drop (ahj _ _) (fun _ h=>h)
           have ck:=L.cell 0 rfl
           unfold sv at ck
           obtain ⟨b,o',c,k2,t2,n2,a2,Vl,kv2,e3,e4,⟨p0,p1,p2,p3,p4⟩,qS,Mc,kz⟩:=gr Nl 0 (by simp)
           cases e3
           have p0:=ab p0 L.fr kz
           have p1:=ab p1 L.fr kz
           have p2:=ab p2 L.fr kz
           have p3:=ab p3 L.fr kz
           have p4:=ab p4 L.fr kz
           simp only[aiL,ahl,afT] at p0 p1 p2 p3 p4
           unfold sv at p1
           simp only[go_sem,ck,p0,p1,p2,p3,p4]
           refine L.gv (ih y (by omega) Wy.2.2.1 L.st (hp.eQ hG L.fr) (L.nh qS)) (by first | omega | (simp; omega) | simp) fun Hy Oy sy Ru L hy=>?_
           simp only[go_sem,gl]
           refine aj (i + 1) ?_ ?_ ⟨by omega,_,_,_,_,L,(eZ.trans (qL.trans (yI.trans (hn.trans ((Pw.put _ _ _).trans hy))))).to ?_ (fun _=>?_) (by first | omega | (simp; omega) | simp)⟩
           ·show ks.length - (i + 1) < ks.length - i
            omega
           ·simp only[go_sem,gl]
           ·rw[Rt,oF]; simp[fH,aT] <;> grind
           ·rw[hsM,xD]; simp
        ·have bZ:fb (ks.take (i + 1))=true→False:=fun h=>by
          rw[Rt] at h
          simp only[ae5,decide_eq_true_eq] at h
          exact hM ⟨h.2.1.1.1.1,h.2.1.2⟩
         simp only[go_sem]
         refine L.cu false (by grind) fun Hc L yI=>?_
         simp only[go_sem,gl]
         refine aj (i + 1) ?_ ?_ ⟨by omega,_,_,_,_,L,(eZ.trans (qL.trans yI)).Mb (by simp) bZ (by first | omega | (simp; omega) | simp)⟩
         ·show ks.length - (i + 1) < ks.length - i
          omega
         ·simp only[go_sem,gl]
       ·have hg:(0:Int) < (i:Int):=by omega
        rw[if_neg (by omega)] at hsM
        simp only[go_sem,hg]
        refine L.bc fun bz Hz L=>?_
        simp only[go_sem]
        refine L.cq 0 [[44,32]] rfl (by simp) (by first | omega | (simp; omega) | simp) fun Hy Oy L=>?_
        have L:=L.drop (ahj _ _) (fun _ h=>h)
        have qL:=Pw.put s1 b1 [[44,32]].flatten
        have hlp:(s1 ++ [[44,32]].flatten).length≤s1.length + 2:=by simp
        generalize rr:s1 ++ [[44,32]].flatten=sp at *
        have ck:=L.cell 0 rfl
        unfold sv at ck
        simp only[go_sem,ck]
        refine (gk (t:=t1) 22 1).mono ?_
        rintro r Hb ⟨rfl,CB⟩
        have L:=L.ext CB
        have ck:=L.cell 0 rfl
        unfold sv at ck
        by_cases hM:k1=22∧bm.length=1
        ·obtain ⟨rfl,h2⟩:=hM
         match bm,h2 with
         | [y],_=>
         simp only[aA,wL,EZ] at hsi tj Wy
         simp only[go_sem]
         refine L.cu true (by simp) fun Hc L yI=>?_
         cases b1 with
         | true=>
           simp only[go_sem,gl]
           refine aj (i + 1) ?_ ?_ ⟨by omega,_,_,_,_,L,(eZ.trans (qL.trans yI)).stop (fun h=>by rw[Rt] at h; simp only[ae5] at h; simp[h.1]) (by first | omega | (simp; omega) | simp)⟩
           ·show ks.length - (i + 1) < ks.length - i
            omega
           ·simp only[go_sem,gl]
         | false=>
           have ck:=L.cell 0 rfl
           unfold sv at ck
           simp only[go_sem,ck]
           refine L.gv (eL (t:=t1) L.st) (by first | omega | (simp; omega) | simp) fun Hn On sn bn L hn=>?_
           have PH:=hn.len
           simp only[go_sem]
           refine L.bc fun bz Hz L=>?_
           simp only[go_sem]
           refine L.cq 0 [[58,32]] rfl (by simp) (by first | omega | (simp; omega) | simp) fun Hy Oy L=>?_
           have L:=L.drop (ahj _ _) (fun _ h=>h)
           have ck:=L.cell 0 rfl
           unfold sv at ck
           obtain ⟨b,o',c,k2,t2,n2,a2,Vl,kv2,e3,e4,⟨p0,p1,p2,p3,p4⟩,qS,Mc,kz⟩:=gr Nl 0 (by simp)
           cases e3
           have p0:=ab p0 L.fr kz
           have p1:=ab p1 L.fr kz
           have p2:=ab p2 L.fr kz
           have p3:=ab p3 L.fr kz
           have p4:=ab p4 L.fr kz
           simp only[aiL,ahl,afT] at p0 p1 p2 p3 p4
           unfold sv at p1
           simp only[go_sem,ck,p0,p1,p2,p3,p4]
           refine L.gv (ih y (by omega) Wy.2.2.1 L.st (hp.eQ hG L.fr) (L.nh qS)) (by first | omega | (simp; omega) | simp) fun Hy Oy sy Ru L hy=>?_
           simp only[go_sem,gl]
           refine aj (i + 1) ?_ ?_ ⟨by omega,_,_,_,_,L,(eZ.trans (qL.trans (yI.trans (hn.trans ((Pw.put _ _ _).trans hy))))).to ?_ (fun _=>?_) (by first | omega | (simp; omega) | simp)⟩
           ·show ks.length - (i + 1) < ks.length - i
            omega
           ·simp only[go_sem,gl]
           ·rw[Rt,oF]; simp[fH,aT] <;> grind
           ·rw[hsM,xD]; simp
        ·have bZ:fb (ks.take (i + 1))=true→False:=fun h=>by
          rw[Rt] at h
          simp only[ae5,decide_eq_true_eq] at h
          exact hM ⟨h.2.1.1.1.1,h.2.1.2⟩
         simp only[go_sem]
         refine L.cu false (by grind) fun Hc L yI=>?_
         simp only[go_sem,gl]
         refine aj (i + 1) ?_ ?_ ⟨by omega,_,_,_,_,L,(eZ.trans (qL.trans yI)).Mb (by simp) bZ (by first | omega | (simp; omega) | simp)⟩
         ·show ks.length - (i + 1) < ks.length - i
          omega
         ·simp only[go_sem,gl]
      ·have h1:¬ ((i:Int) < (ks.length:Int)):=by omega
       obtain rfl:i=ks.length:=by omega
       rw[ain] at eZ p8
       have L:=Li
       simp only[go_sem,h1]
       refine L.bc fun bz Hz L=>?_
       simp only[go_sem]
       refine L.cq 0 [[125]] rfl (by simp) (by first | omega | (simp; omega) | simp) fun Hy Oy L=>?_
       have L:=L.drop (ahj _ _) (fun _ h=>h)
       simp only[go_sem]
       exact L.bo ((yU.trans (eZ.trans (Pw.put _ _ _))).to (by simp) (fun _=>by simp) (by first | omega | (simp; omega) | simp))
    have bZ:cV (.mk k [] 0 a ks)=true→False:=by
     intro h
     rw[hL] at h
     simp[jz,Bg,h18,Nc,Nh,Nf,Ku,Nb,BR,Ng,h19] at h
    simp only[go_sem,ca,Bg,h18,Ku,Nb,BR,Nc,Nh,Nf,Ng,h19]
    refine L.fN false fun H4 L nr=>?_
    simp only[go_sem]
    exact L.bo (Pw.no bZ)
 ·have bZ:cV (.mk k t n a ks)=true→False:=by
   intro h
   rw[cV.eq_def] at h
   simp only[jz,if_false,ae5,decide_eq_true_eq] at h
   exact fQ ⟨h.1.1,h.1.2⟩
  have hpf:(decide (t=[]) && decide (n=0))=false:=by grind
  rw[hpf] at hm L ⊢
  simp only[go_sem]
  exact L.bo (Pw.no bZ)
theorem sN:∀ N,Mg N
 | 0=>fun x h=>by cases x; simp only[aq] at h; omega
 | N + 1=>Mh (sN N)
def Rv:Prop:=∀ {k n a:Int} {t:Bs} {ks:List Nd},(k=4∨k=5)→ny (.mk k t n a ks)→∀ {H:Heap} {O:List Nat} {q:Nat} {s:Bs} {bad:Bool} (hp:Pr H O q s bad) (hG:bS H) {v:Value} (hx:NO H O (.mk k t n a ks) v),
 PC 59 [.pointer (some ⟨q,0,none⟩),v] H O q s bad (l4 (.mk k t n a ks)) (sD (.mk k t n a ks)) (wN (.mk k t n a ks))
theorem PI (hf:Rv) (x:Nd) (dP:ny x) {H:Heap} {O:List Nat} {q:Nat} {s:Bs} {bad:Bool} (hp:Pr H O q s bad) (hG:bS H) {v:Value} (hx:NO H O x v) :
 PC 31 [.pointer (some ⟨q,0,none⟩),v] H O q s bad (l4 x) (sD x) (wN x):=by
 intro hw
 have eS:=hx
 obtain ⟨k,t,n,a,ks⟩:=x
 obtain ⟨aa,cc,rfl,hk,jG,eJ⟩:=hx.open
 have tm:wN (.mk k t n a ks)=t.length + 64 + wL ks:=rfl
 rw[tm] at hw ⊢
 have yJ:=ku k n a t ks
 refine af (args:=[_,_]) Tryz.func31 Zi (ahi rfl) ?_
 have L:=PL.start hp
 simp only[go_sem,c31]
 refine L.aS fun bx H1 L=>?_
 have ca:=L.cell 0 rfl
 by_cases h2:k=2
 ·subst h2
  simp only[go_sem,ca]
  by_cases h1:ks.length=1
  ·match ks,h1 with
   | [y],_=>
   simp only[wL] at hw
   refine L.cu true (by simp) fun H4 L hm=>?_
   cases bad with
   | true=>
     simp only[go_sem]
     exact L.bo (hm.stop (fun _=>rfl) (by omega))
   | false=>
     have ca:=L.cell 0 rfl
     simp only[go_sem,ca]
     refine L.bc fun bz Hz L=>?_
     simp only[go_sem]
     refine L.cq 0 [[108,97,116,116,105,99,101,32]] rfl (by simp) (by first | omega | (simp; omega) | simp) fun Hy Oy L=>?_
     have L:=L.drop (ahj _ _) (fun _ h=>h)
     have ca:=L.cell 0 rfl
     simp only[go_sem,ca]
     refine L.gv (eL L.st) (by first | omega | (simp; omega) | simp) fun H5 O5 s5 b5 L hn=>?_
     have E5:=hn.len
     simp at E5
     simp only[go_sem]
     refine L.bc fun bz Hz L=>?_
     simp only[go_sem]
     refine L.cq 0 [[32,61,32]] rfl (by simp) (by first | omega | (simp; omega) | simp) fun Hy Oy L=>?_
     have L:=L.drop (ahj _ _) (fun _ h=>h)
     have ca:=L.cell 0 rfl
     obtain ⟨b,o',c,k1,t1,n1,a1,bm,mD,e1,e2,⟨q0,q1,q2,q3,q4⟩,hr,fi,bF⟩:=gr hk 0 (by simp)
     cases e1
     have ca:=L.cell 0 rfl
     have q0:=ab q0 L.fr bF
     have q1:=ab q1 L.fr bF
     have q2:=ab q2 L.fr bF
     have q3:=ab q3 L.fr bF
     have q4:=ab q4 L.fr bF
     unfold sv at q1
     simp only[aiL,aiM,ahl,aiO,aiN] at q0 q1 q2 q3 q4
     simp only[go_sem,ca,q0,q1,q2,q3,q4]
     refine L.gv (sN _ y (afJ _) dP.2.2.1 L.st (hp.eQ hG L.fr) (L.nh hr)) (by first | omega | (simp; omega) | simp) fun H6 O6 s6 b6 L hy=>?_
     simp only[go_sem]
     refine L.bo ((hm.trans ((Pw.put _ _ _).trans (hn.trans ((Pw.put _ _ _).trans hy)))).to ?_ (fun _=>?_) (by first | omega | (simp[wL]; omega) | simp[wL]))
     ·rw[yJ]; simp[fH,aT] <;> grind
     ·simp[sD]
  ·refine L.cu false (by grind) fun H4 L hm=>?_
   simp only[go_sem]
   refine L.bo (Pw.no fun h=>?_)
   rw[yJ] at h
   rcases ks with _ | ⟨y,_ | ⟨z,r⟩⟩
   ·simp at h
   ·exact h1 rfl
   ·simp at h
 by_cases h3:k=3
 ·subst h3
  simp only[go_sem,ca]
  by_cases h1:ks.length=1
  ·match ks,h1 with
   | [y],_=>
   simp only[wL] at hw
   refine L.cu true (by simp) fun H4 L hm=>?_
   cases bad with
   | true=>
     simp only[go_sem]
     exact L.bo (hm.stop (fun _=>rfl) (by omega))
   | false=>
     have ca:=L.cell 0 rfl
     simp only[go_sem,ca]
     refine L.bc fun bz Hz L=>?_
     simp only[go_sem]
     refine L.cq 0 [[111,98,106,101,99,116,32]] rfl (by simp) (by first | omega | (simp; omega) | simp) fun Hy Oy L=>?_
     have L:=L.drop (ahj _ _) (fun _ h=>h)
     have ca:=L.cell 0 rfl
     simp only[go_sem,ca]
     refine L.gv (eL L.st) (by first | omega | (simp; omega) | simp) fun H5 O5 s5 b5 L hn=>?_
     have E5:=hn.len
     simp at E5
     simp only[go_sem]
     refine L.bc fun bz Hz L=>?_
     simp only[go_sem]
     refine L.cq 0 [[58,32]] rfl (by simp) (by first | omega | (simp; omega) | simp) fun Hy Oy L=>?_
     have L:=L.drop (ahj _ _) (fun _ h=>h)
     have ca:=L.cell 0 rfl
     obtain ⟨b,o',c,k1,t1,n1,a1,bm,mD,e1,e2,⟨q0,q1,q2,q3,q4⟩,hr,fi,bF⟩:=gr hk 0 (by simp)
     cases e1
     have ca:=L.cell 0 rfl
     have q0:=ab q0 L.fr bF
     have q1:=ab q1 L.fr bF
     have q2:=ab q2 L.fr bF
     have q3:=ab q3 L.fr bF
     have q4:=ab q4 L.fr bF
     unfold sv at q1
     simp only[aiL,aiM,ahl,aiO,aiN] at q0 q1 q2 q3 q4
     simp only[go_sem,ca,q0,q1,q2,q3,q4]
     refine L.gv (sN _ y (afJ _) dP.2.2.1 L.st (hp.eQ hG L.fr) (L.nh hr)) (by first | omega | (simp; omega) | simp) fun H6 O6 s6 b6 L hy=>?_
     simp only[go_sem]
     refine L.bo ((hm.trans ((Pw.put _ _ _).trans (hn.trans ((Pw.put _ _ _).trans hy)))).to ?_ (fun _=>?_) (by first | omega | (simp[wL]; omega) | simp[wL]))
     ·rw[yJ]; simp[fH,aT] <;> grind
     ·simp[sD]
  ·refine L.cu false (by grind) fun H4 L hm=>?_
   simp only[go_sem]
   refine L.bo (Pw.no fun h=>?_)
   rw[yJ] at h
   rcases ks with _ | ⟨y,_ | ⟨z,r⟩⟩
   ·simp at h
   ·exact h1 rfl
   ·simp at h
 by_cases rC:k=4∨k=5
 ·have e2:(k=2)=False:=eq_false h2
  have e3:(k=3)=False:=eq_false h3
  by_cases h4:k=4
  ·simp only[go_sem,ca,e2,e3,eq_true h4]
   refine L.gv (hf rC dP L.st (hp.eQ hG L.fr) (L.nh eS)) (by rw[tm]; omega) fun H6 O6 s6 b6 L hy=>?_
   simp only[go_sem]
   exact L.bo (hy.to rfl (fun _=>rfl) (by rw[tm]; omega))
  ·have h5:k=5:=by omega
   simp only[go_sem,ca,e2,e3,eq_false h4,eq_true h5]
   refine L.gv (hf rC dP L.st (hp.eQ hG L.fr) (L.nh eS)) (by rw[tm]; omega) fun H6 O6 s6 b6 L hy=>?_
   simp only[go_sem]
   exact L.bo (hy.to rfl (fun _=>rfl) (by rw[tm]; omega))
 ·have h4:¬ k=4:=fun h=>rC (.inl h)
  have h5:¬ k=5:=fun h=>rC (.inr h)
  have bZ:l4 (.mk k t n a ks)=true→False:=by
   intro h
   rw[yJ] at h
   simp[h2,h3,h4,h5] at h
  simp only[go_sem,ca,h2,h3,h4,h5]
  refine L.fN false fun H2 L hm=>?_
  simp only[go_sem]
  exact L.bo (Pw.no bZ)
theorem xS (f:Bool):∀ (ks:List Nd) (i:Nat) (h:i < ks.length),pQ f (ks.take (i + 1))=pQ f (ks.take i) ++ ((if i=0 then (if f then [] else [44,32]) else [44,32]) ++ Ds ks[i])
 | x :: r,0,_=>by simp[pQ]
 | x :: r,i + 1,h=>by
   have:=xS false r i (by simpa using h)
   simp only[ahq,pQ,ah2,this]
   cases i <;> simp
theorem jL {α:Type} (x:α) (l:List α):(l ++ [x])[l.length]?=some x:=by simp
theorem Vn:Rv:=by
 intro k n a t ks rC dP H O q s bad hp hG v hx hw
 have eS:=hx
 obtain ⟨aa,cc,rfl,hk,jG,eJ⟩:=hx.open
 have tm:wN (.mk k t n a ks)=t.length + 64 + wL ks:=rfl
 rw[tm] at hw ⊢
 have yJ:=ku k n a t ks
 refine af (args:=[_,_]) Tryz.func59 ZA (ahi rfl) ?_
 have L:=PL.start hp
 simp -implicitDefEqProofs only[go_sem,c59]
 refine L.aS fun bx H1 L=>?_
 have ca:=L.cell 0 rfl
 by_cases h2:2≤ks.length
 ·have Vo:afd.wrap ((ks.length:Int) - 2)=((ks.length - 2:Nat):Int):=by
   unfold maxLen at eJ
   rw[aV _ (by omega) (by omega)]; omega
  have C8:(0:Int)≤((ks.length - 2:Nat):Int):=by omega
  generalize qQ:ks.take (ks.length - 2)=ps
  have fQ:ps.length=ks.length - 2:=by rw[← qQ,afP]; omega
  have yf:((ks.length - 2:Nat):Int)≤(cc:Int):=by omega
  have ri:dA H O (aW ps) [.slice aa (ks.length - 2:Nat) cc]:=by
   have:=dA.BI hk (k:=ks.length - 2) (by simp)
   rw[← aiT,qQ] at this; exact this
  have hpm:ps.length≤maxLen:=by omega
  have abp:ks.take ps.length=ps:=by rw[fQ]; exact qQ
  have Wl:ps.length < ks.length:=by omega
  have I4:ps.length + 1 < ks.length:=by omega
  have hwp:wL ps + wN ks[ps.length] + wN ks[ps.length + 1]=wL ks:=by
   have q1:=eM ks ps.length Wl
   have q2:=eM ks (ps.length + 1) I4
   rw[show ps.length + 1 + 1=ks.length by omega,ain] at q2
   rw[abp] at q1
   omega
  have Ml:ks=ps ++ [ks[ps.length],ks[ps.length + 1]]:=by
   have q1:=aim Wl
   have q2:=aim I4
   rw[show ps.length + 1 + 1=ks.length by omega,ain,q1,abp] at q2
   simpa using q2
  rw[← fQ] at Vo C8 yf ri
  rcases rC with rfl | rfl
  ·simp -implicitDefEqProofs only[go_sem,ca,Vo,C8]
   refine L.fN _ fun H4 L hm=>?_
   by_cases kD:n=0
   ·subst kD
    simp only[decide_true] at hm L ⊢
    cases bad with
    | true=>
      simp -implicitDefEqProofs only[go_sem]
      exact L.bo (hm.stop (fun _=>rfl) (by omega))
    | false=>
      have ca:=L.cell 0 rfl
      simp -implicitDefEqProofs only[go_sem,ca]
      refine L.bc fun bz Hz L=>?_
      simp -implicitDefEqProofs only[go_sem]
      refine L.cq 0 [[117,112,100,97,116,101,32]] rfl (by simp) (by first | omega | (simp; omega) | simp) fun Hy Oy L=>?_
      have L:=L.drop (ahj _ _) (fun _ h=>h)
      have ca:=L.cell 0 rfl
      simp -implicitDefEqProofs only[go_sem,ca]
      refine L.gv (eL L.st) (by first | omega | (simp; omega) | simp) fun H5 O5 s5 b5 L hn=>?_
      have E5:=hn.len
      simp at E5
      simp -implicitDefEqProofs only[go_sem]
      refine L.bc fun bz Hz L=>?_
      simp -implicitDefEqProofs only[go_sem]
      refine L.cq 0 [[40]] rfl (by simp) (by first | omega | (simp; omega) | simp) fun Hy Oy L=>?_
      have L:=L.drop (ahj _ _) (fun _ h=>h)
      have ca:=L.cell 0 rfl
      simp -implicitDefEqProofs only[go_sem,ca,C8,yf]
      have yU:=hm.trans ((Pw.put _ _ _).trans (hn.trans (Pw.put _ _ [[40]].flatten)))
      generalize BW:s5 ++ [[40]].flatten=s6 at *
      have Wv:s6.length≤s.length + (8 + t.length):=by have:=yU.len; simp at this; omega
      refine bC (fun (i:Nat) H'=>i≤ps.length∧∃ O' s' b' l,PL O H q O' s' b' H' (l ++ [.dz bx 24 [.int .i64 4,sv t,.int .i64 0,.int .i64 a,.slice aa ks.length cc]])∧Pw s6 b5 s' b' ((ps.take i).all kI) (pQ true (ps.take i)) (wL (ps.take i)))
       (fun i=>[(0,.pointer (some ⟨q,0,none⟩)),(3,.pointer (some ⟨bx,0,none⟩)),(4,.int .i64 ps.length),(43,.slice aa ps.length cc),(44,.int .i64 ps.length),(45,.int .i64 i)]) (fun i=>ps.length - i) 0 ?_ ?_ ?_
      ·exact ⟨ahn _,_,_,_,[],L,by simpa [pQ,wL] using Pw.refl s6 _⟩
      ·simp -implicitDefEqProofs only[go_sem]
      ·rintro i H1 ⟨hi,O1,s1,b1,l1,Li,eZ⟩
       have p8:=eZ.len
       rcases ae8 i ps.length with ba | nf
       ·have h0:(0:Int)≤(i:Int):=by omega
        have h1:(i:Int) < (ps.length:Int):=by omega
        have gl:=dD ba hpm
        have tj:=eM ps i ba
        have Ah:=mc ps (i + 1)
        have Ie:=xS true ps i ba
        have A0:=fy kI ps i ba
        obtain ⟨b,o,c,k1,t1,n1,a1,bm,mD,e1,e2,⟨q0,q1,q2,q3,q4⟩,Ib,fi,bF⟩:=gr ri i ba
        cases e1
        have L:=Li
        have q0:=ab q0 L.fr bF
        have q1:=ab q1 L.fr bF
        have q2:=ab q2 L.fr bF
        have q3:=ab q3 L.fr bF
        have q4:=ab q4 L.fr bF
        simp only[ahl] at q0
        unfold sv at q1
        rw[e2] at Ib tj Ie A0
        obtain ⟨a2,c2,u0,Nl,yh,PG⟩:=Ib.open
        simp only[aiV.injEq,aiX.injEq,afV.injEq,and_true,true_and] at u0
        subst u0
        simp only[wN] at tj
        simp only[Ds,kI,kindOf,ak,aL,numOf] at Ie A0
        simp -implicitDefEqProofs only[go_sem,h0,h1,q0,q1,q2,q3,q4]
        refine ay fun H5 np fP _=>?_
        have L5:=L.push fP np
        simp -implicitDefEqProofs only[go_sem]
        refine aC np rfl (ax fi) fun H6 gL fB _=>?_
        have L:=L5.Na 0 rfl fB gL
        rcases aiP i with uG | tE
        ·have hg:¬ ((0:Int) < (i:Int)):=by omega
         have qL:=Pw.refl s1 b1
         rw[if_pos uG] at Ie
         simp -implicitDefEqProofs only[go_sem,hg]
         have ck:=L.cell 0 rfl
         unfold sv at ck
         simp -implicitDefEqProofs only[go_sem,ck]
         refine (gk (t:=t1) 6 0).mono ?_
         rintro r Hb ⟨rfl,CB⟩
         have L:=L.ext CB
         rw[show decide ((0:Int) < 0)=false from rfl,aip,dL]
         simp -implicitDefEqProofs only[go_sem]
         refine L.fN _ fun Hc L yI=>?_
         have ck:=L.cell 0 rfl
         unfold sv at ck
         simp -implicitDefEqProofs only[go_sem,ck]
         refine L.gv (eL (t:=t1) L.st) (by first | omega | (simp; omega) | simp) fun Hn On sn bn L ju=>?_
         have PH:=ju.len
         simp -implicitDefEqProofs only[go_sem]
         refine L.bc fun bz Hz L=>?_
         simp -implicitDefEqProofs only[go_sem]
         refine L.cq 0 [[58,32]] rfl (by simp) (by first | omega | (simp; omega) | simp) fun Hy Oy L=>?_
         have L:=L.drop (ahj _ _) (fun _ h=>h)
         have ck:=L.cell 0 rfl
         unfold sv at ck
         simp -implicitDefEqProofs only[go_sem,ck]
         refine L.gv (sK L.st) (by first | omega | (simp; omega) | simp) fun Hy Oy sy Ru L hy=>?_
         simp -implicitDefEqProofs only[go_sem,gl]
         refine aj (i + 1) ?_ ?_ ⟨by omega,_,_,_,_ :: l1,L,(eZ.trans (qL.trans (yI.trans (ju.trans ((Pw.put _ _ _).trans hy))))).to ?_ (fun _=>?_) (by first | omega | (simp; omega) | simp)⟩
         ·show ps.length - (i + 1) < ps.length - i
          omega
         ·simp -implicitDefEqProofs only[go_sem,gl]
         ·rw[A0]; simp[fH,aT] <;> grind
         ·rw[Ie]; simp
        ·have hg:(0:Int) < (i:Int):=by omega
         rw[if_neg (by omega)] at Ie
         simp -implicitDefEqProofs only[go_sem,hg]
         refine L.bc fun bz Hz L=>?_
         simp -implicitDefEqProofs only[go_sem]
         refine L.cq 0 [[44,32]] rfl (by simp) (by first | omega | (simp; omega) | simp) fun Hy Oy L=>?_
         have L:=L.drop (ahj _ _) (fun _ h=>h)
         have qL:=Pw.put s1 b1 [[44,32]].flatten
         have hlp:(s1 ++ [[44,32]].flatten).length≤s1.length + 2:=by simp
         generalize rr:s1 ++ [[44,32]].flatten=sp at *
         have ck:=L.cell 0 rfl
         unfold sv at ck
         simp -implicitDefEqProofs only[go_sem,ck]
         refine (gk (t:=t1) 6 0).mono ?_
         rintro r Hb ⟨rfl,CB⟩
         have L:=L.ext CB
         rw[show decide ((0:Int) < 0)=false from rfl,aip,dL]
         simp -implicitDefEqProofs only[go_sem]
         refine L.fN _ fun Hc L yI=>?_
         have ck:=L.cell 0 rfl
         unfold sv at ck
         simp -implicitDefEqProofs only[go_sem,ck]
         refine L.gv (eL (t:=t1) L.st) (by first | omega | (simp; omega) | simp) fun Hn On sn bn L ju=>?_
         have PH:=ju.len
         simp -implicitDefEqProofs only[go_sem]
         refine L.bc fun bz Hz L=>?_
         simp -implicitDefEqProofs only[go_sem]
         refine L.cq 0 [[58,32]] rfl (by simp) (by first | omega | (simp; omega) | simp) fun Hy Oy L=>?_
         have L:=L.drop (ahj _ _) (fun _ h=>h)
         have ck:=L.cell 0 rfl
         unfold sv at ck
         simp -implicitDefEqProofs only[go_sem,ck]
         refine L.gv (sK L.st) (by first | omega | (simp; omega) | simp) fun Hy Oy sy Ru L hy=>?_
         simp -implicitDefEqProofs only[go_sem,gl]
         refine aj (i + 1) ?_ ?_ ⟨by omega,_,_,_,_ :: l1,L,(eZ.trans (qL.trans (yI.trans (ju.trans ((Pw.put _ _ _).trans hy))))).to ?_ (fun _=>?_) (by first | omega | (simp; omega) | simp)⟩
         ·show ps.length - (i + 1) < ps.length - i
          omega
         ·simp -implicitDefEqProofs only[go_sem,gl]
         ·rw[A0]; simp[fH,aT] <;> grind
         ·rw[Ie]; simp
       ·have h1:¬ ((i:Int) < (ps.length:Int)):=by omega
        obtain rfl:i=ps.length:=by omega
        rw[ain] at eZ p8
        have hpn:((ps.length:Nat):Int) < (ks.length:Int):=by omega
        have Vp:afd.wrap ((ps.length:Int) + 1)=((ps.length + 1:Nat):Int):=dD (n:=ks.length) (by omega) eJ
        have Vq:((ps.length + 1:Nat):Int) < (ks.length:Int):=by omega
        have Vr:(0:Int)≤((ps.length + 1:Nat):Int):=by omega
        have L:=Li
        simp -implicitDefEqProofs only[go_sem,h1]
        refine L.bc fun bz Hz L=>?_
        simp -implicitDefEqProofs only[go_sem]
        refine L.cq 0 [[41,32,111,110,32]] rfl (by simp) (by first | omega | (simp; omega) | simp) fun Hy Oy L=>?_
        have L:=L.drop (ahj _ _) (fun _ h=>h)
        obtain ⟨b,o',c,k1,t1,n1,a1,bm,mD,e1,e2,⟨r0,r1,r2,r3,r4⟩,hr,fi,bF⟩:=gr hk ps.length (by omega)
        cases e1
        rw[e2] at hr
        obtain ⟨a2,c2,u0,Nl,yh,PG⟩:=hr.open
        simp only[aiV.injEq,aiX.injEq,afV.injEq,and_true,true_and] at u0
        subst u0
        have Ea:t1.length + 64≤wN ks[ps.length]:=by rw[e2]; simp only[wN]; omega
        have ca:=L.cell l1.length (jL _ _)
        unfold sv at ca
        have q0:=ab r0 L.fr bF
        have q1:=ab r1 L.fr bF
        have q2:=ab r2 L.fr bF
        have q3:=ab r3 L.fr bF
        have q4:=ab r4 L.fr bF
        simp only[ahl] at q0
        unfold sv at q1
        simp -implicitDefEqProofs only[go_sem,ca,C8,hpn,q0,q1,q2,q3,q4]
        refine (gk (t:=t1) 48 0).mono ?_
        rintro r Hb ⟨rfl,CB⟩
        have L:=L.ext CB
        rw[show decide ((0:Int) < 0)=false from rfl,aip,dL]
        simp -implicitDefEqProofs only[go_sem]
        refine L.fN _ fun Hc L yI=>?_
        have ca:=L.cell l1.length (jL _ _)
        unfold sv at ca
        have q0:=ab r0 L.fr bF
        have q1:=ab r1 L.fr bF
        have q2:=ab r2 L.fr bF
        have q3:=ab r3 L.fr bF
        have q4:=ab r4 L.fr bF
        simp only[ahl] at q0
        unfold sv at q1
        simp -implicitDefEqProofs only[go_sem,ca,C8,hpn,q0,q1,q2,q3,q4]
        refine L.gv (eL (t:=t1) L.st) (by simp; omega) fun Hn On sn bn L ju=>?_
        have PH:=ju.len
        simp at PH
        have ca:=L.cell l1.length (jL _ _)
        unfold sv at ca
        simp -implicitDefEqProofs only[go_sem,ca]
        refine L.bc fun bz Hz L=>?_
        simp -implicitDefEqProofs only[go_sem]
        refine L.cq 0 [[32,61,32]] rfl (by simp) (by first | omega | (simp; omega) | simp) fun Hy Oy L=>?_
        have L:=L.drop (ahj _ _) (fun _ h=>h)
        have ca:=L.cell l1.length (jL _ _)
        unfold sv at ca
        obtain ⟨b3,o3,c3,k3,t3,n3,a3,ad9,kv3,e3,e4,⟨r0,r1,r2,r3,r4⟩,Hf,abq,bF⟩:=gr hk (ps.length + 1) (by omega)
        cases e3
        have q0:=ab r0 L.fr bF
        have q1:=ab r1 L.fr bF
        have q2:=ab r2 L.fr bF
        have q3:=ab r3 L.fr bF
        have q4:=ab r4 L.fr bF
        simp only[ahl] at q0
        unfold sv at q1
        simp -implicitDefEqProofs only[go_sem,ca,Vp,Vq,Vr,q0,q1,q2,q3,q4]
        refine L.gv (oD _ _ (afJ _) (kV ks (ps.length + 1) (by omega) dP.2.2) L.st (hp.eQ hG L.fr) (L.nh Hf) 0 (by omega)) (by simp; omega) fun Hy Oy sy Ru L hy=>?_
        simp -implicitDefEqProofs only[go_sem]
        refine L.bo ((yU.trans (eZ.trans ((Pw.put _ _ _).trans (yI.trans (ju.trans ((Pw.put _ _ _).trans hy)))))).to ?_ (fun _=>?_) ?_)
        ·have Ws:su ks[ps.length]=(decide (k1=48) && aT t1 && decide (n1=0) && bm.isEmpty):=by rw[e2]; rfl
         have Iv:=du ps ks[ps.length] ks[ps.length + 1]
         rw[← Ml] at Iv
         rw[yJ]
         simp only[Iv,Ws]
         simp[fH,aT]
         grind
        ·have ht1:ak ks[ps.length]=t1:=by rw[e2]; rfl
         have Vs:=ES (n:=0) (p:=a) (t:=t) (ps:=ps) (o:=ks[ps.length]) (e:=ks[ps.length + 1])
         rw[← Ml,ht1] at Vs
         rw[Vs]; simp[fZ]
        ·simp; omega
   ·have hnf:decide (n=0)=false:=by simpa using kD
    have Iv:=du ps ks[ps.length] ks[ps.length + 1]
    rw[← Ml] at Iv
    rw[hnf] at hm L ⊢
    simp -implicitDefEqProofs only[go_sem]
    refine L.bo (Pw.no fun h=>?_)
    rw[yJ] at h
    simp[Iv,kD] at h
  ·simp -implicitDefEqProofs only[go_sem,ca,Vo,C8]
   refine L.cu true (by simp) fun H4 L hm=>?_
   cases bad with
   | true=>
     simp -implicitDefEqProofs only[go_sem]
     exact L.bo (hm.stop (fun _=>rfl) (by omega))
   | false=>
     have ca:=L.cell 0 rfl
     simp -implicitDefEqProofs only[go_sem,ca]
     refine L.bc fun bz Hz L=>?_
     simp -implicitDefEqProofs only[go_sem]
     refine L.cq 0 [[113,117,101,114,121,32]] rfl (by simp) (by first | omega | (simp; omega) | simp) fun Hy Oy L=>?_
     have L:=L.drop (ahj _ _) (fun _ h=>h)
     have ca:=L.cell 0 rfl
     simp -implicitDefEqProofs only[go_sem,ca]
     refine L.gv (eL L.st) (by first | omega | (simp; omega) | simp) fun H5 O5 s5 b5 L hn=>?_
     have E5:=hn.len
     simp at E5
     simp -implicitDefEqProofs only[go_sem]
     refine L.bc fun bz Hz L=>?_
     simp -implicitDefEqProofs only[go_sem]
     refine L.cq 0 [[40]] rfl (by simp) (by first | omega | (simp; omega) | simp) fun Hy Oy L=>?_
     have L:=L.drop (ahj _ _) (fun _ h=>h)
     have ca:=L.cell 0 rfl
     simp -implicitDefEqProofs only[go_sem,ca,C8,yf]
     have yU:=hm.trans ((Pw.put _ _ _).trans (hn.trans (Pw.put _ _ [[40]].flatten)))
     generalize BW:s5 ++ [[40]].flatten=s6 at *
     have Wv:s6.length≤s.length + (7 + t.length):=by have:=yU.len; simp at this; omega
     refine bC (fun (i:Nat) H'=>i≤ps.length∧∃ O' s' b' l,PL O H q O' s' b' H' (l ++ [.dz bx 24 [.int .i64 5,sv t,.int .i64 n,.int .i64 a,.slice aa ks.length cc]])∧Pw s6 b5 s' b' ((ps.take i).all kI) (pQ true (ps.take i)) (wL (ps.take i)))
      (fun i=>[(0,.pointer (some ⟨q,0,none⟩)),(3,.pointer (some ⟨bx,0,none⟩)),(4,.int .i64 ps.length),(43,.slice aa ps.length cc),(44,.int .i64 ps.length),(45,.int .i64 i)]) (fun i=>ps.length - i) 0 ?_ ?_ ?_
     ·exact ⟨ahn _,_,_,_,[],L,by simpa [pQ,wL] using Pw.refl s6 _⟩
     ·simp -implicitDefEqProofs only[go_sem]
     ·rintro i H1 ⟨hi,O1,s1,b1,l1,Li,eZ⟩
      have p8:=eZ.len
      rcases ae8 i ps.length with ba | nf
      ·have h0:(0:Int)≤(i:Int):=by omega
       have h1:(i:Int) < (ps.length:Int):=by omega
       have gl:=dD ba hpm
       have tj:=eM ps i ba
       have Ah:=mc ps (i + 1)
       have Ie:=xS true ps i ba
       have A0:=fy kI ps i ba
       obtain ⟨b,o,c,k1,t1,n1,a1,bm,mD,e1,e2,⟨q0,q1,q2,q3,q4⟩,Ib,fi,bF⟩:=gr ri i ba
       cases e1
       have L:=Li
       have q0:=ab q0 L.fr bF
       have q1:=ab q1 L.fr bF
       have q2:=ab q2 L.fr bF
       have q3:=ab q3 L.fr bF
       have q4:=ab q4 L.fr bF
       simp only[ahl] at q0
       unfold sv at q1
       rw[e2] at Ib tj Ie A0
       obtain ⟨a2,c2,u0,Nl,yh,PG⟩:=Ib.open
       simp only[aiV.injEq,aiX.injEq,afV.injEq,and_true,true_and] at u0
       subst u0
       simp only[wN] at tj
       simp only[Ds,kI,kindOf,ak,aL,numOf] at Ie A0
       simp -implicitDefEqProofs only[go_sem,h0,h1,q0,q1,q2,q3,q4]
       refine ay fun H5 np fP _=>?_
       have L5:=L.push fP np
       simp -implicitDefEqProofs only[go_sem]
       refine aC np rfl (ax fi) fun H6 gL fB _=>?_
       have L:=L5.Na 0 rfl fB gL
       rcases aiP i with uG | tE
       ·have hg:¬ ((0:Int) < (i:Int)):=by omega
        have qL:=Pw.refl s1 b1
        rw[if_pos uG] at Ie
        simp -implicitDefEqProofs only[go_sem,hg]
        have ck:=L.cell 0 rfl
        unfold sv at ck
        simp -implicitDefEqProofs only[go_sem,ck]
        refine (gk (t:=t1) 6 0).mono ?_
        rintro r Hb ⟨rfl,CB⟩
        have L:=L.ext CB
        rw[show decide ((0:Int) < 0)=false from rfl,aip,dL]
        simp -implicitDefEqProofs only[go_sem]
        refine L.fN _ fun Hc L yI=>?_
        have ck:=L.cell 0 rfl
        unfold sv at ck
        simp -implicitDefEqProofs only[go_sem,ck]
        refine L.gv (eL (t:=t1) L.st) (by first | omega | (simp; omega) | simp) fun Hn On sn bn L ju=>?_
        have PH:=ju.len
        simp -implicitDefEqProofs only[go_sem]
        refine L.bc fun bz Hz L=>?_
        simp -implicitDefEqProofs only[go_sem]
        refine L.cq 0 [[58,32]] rfl (by simp) (by first | omega | (simp; omega) | simp) fun Hy Oy L=>?_
        have L:=L.drop (ahj _ _) (fun _ h=>h)
        have ck:=L.cell 0 rfl
        unfold sv at ck
        simp -implicitDefEqProofs only[go_sem,ck]
        refine L.gv (sK L.st) (by first | omega | (simp; omega) | simp) fun Hy Oy sy Ru L hy=>?_
        simp -implicitDefEqProofs only[go_sem,gl]
        refine aj (i + 1) ?_ ?_ ⟨by omega,_,_,_,_ :: l1,L,(eZ.trans (qL.trans (yI.trans (ju.trans ((Pw.put _ _ _).trans hy))))).to ?_ (fun _=>?_) (by first | omega | (simp; omega) | simp)⟩
        ·show ps.length - (i + 1) < ps.length - i
         omega
        ·simp -implicitDefEqProofs only[go_sem,gl]
        ·rw[A0]; simp[fH,aT] <;> grind
        ·rw[Ie]; simp
       ·have hg:(0:Int) < (i:Int):=by omega
        rw[if_neg (by omega)] at Ie
        simp -implicitDefEqProofs only[go_sem,hg]
        refine L.bc fun bz Hz L=>?_
        simp -implicitDefEqProofs only[go_sem]
        refine L.cq 0 [[44,32]] rfl (by simp) (by first | omega | (simp; omega) | simp) fun Hy Oy L=>?_
        have L:=L.drop (ahj _ _) (fun _ h=>h)
        have qL:=Pw.put s1 b1 [[44,32]].flatten
        have hlp:(s1 ++ [[44,32]].flatten).length≤s1.length + 2:=by simp
        generalize rr:s1 ++ [[44,32]].flatten=sp at *
        have ck:=L.cell 0 rfl
        unfold sv at ck
        simp -implicitDefEqProofs only[go_sem,ck]
        refine (gk (t:=t1) 6 0).mono ?_
        rintro r Hb ⟨rfl,CB⟩
        have L:=L.ext CB
        rw[show decide ((0:Int) < 0)=false from rfl,aip,dL]
        simp -implicitDefEqProofs only[go_sem]
        refine L.fN _ fun Hc L yI=>?_
        have ck:=L.cell 0 rfl
        unfold sv at ck
        simp -implicitDefEqProofs only[go_sem,ck]
        refine L.gv (eL (t:=t1) L.st) (by first | omega | (simp; omega) | simp) fun Hn On sn bn L ju=>?_
        have PH:=ju.len
        simp -implicitDefEqProofs only[go_sem]
        refine L.bc fun bz Hz L=>?_
        simp -implicitDefEqProofs only[go_sem]
        refine L.cq 0 [[58,32]] rfl (by simp) (by first | omega | (simp; omega) | simp) fun Hy Oy L=>?_
        have L:=L.drop (ahj _ _) (fun _ h=>h)
        have ck:=L.cell 0 rfl
        unfold sv at ck
        simp -implicitDefEqProofs only[go_sem,ck]
        refine L.gv (sK L.st) (by first | omega | (simp; omega) | simp) fun Hy Oy sy Ru L hy=>?_
        simp -implicitDefEqProofs only[go_sem,gl]
        refine aj (i + 1) ?_ ?_ ⟨by omega,_,_,_,_ :: l1,L,(eZ.trans (qL.trans (yI.trans (ju.trans ((Pw.put _ _ _).trans hy))))).to ?_ (fun _=>?_) (by first | omega | (simp; omega) | simp)⟩
        ·show ps.length - (i + 1) < ps.length - i
         omega
        ·simp -implicitDefEqProofs only[go_sem,gl]
        ·rw[A0]; simp[fH,aT] <;> grind
        ·rw[Ie]; simp
      ·have h1:¬ ((i:Int) < (ps.length:Int)):=by omega
       obtain rfl:i=ps.length:=by omega
       rw[ain] at eZ p8
       have hpn:((ps.length:Nat):Int) < (ks.length:Int):=by omega
       have Vp:afd.wrap ((ps.length:Int) + 1)=((ps.length + 1:Nat):Int):=dD (n:=ks.length) (by omega) eJ
       have Vq:((ps.length + 1:Nat):Int) < (ks.length:Int):=by omega
       have Vr:(0:Int)≤((ps.length + 1:Nat):Int):=by omega
       have L:=Li
       simp -implicitDefEqProofs only[go_sem,h1]
       refine L.bc fun bz Hz L=>?_
       simp -implicitDefEqProofs only[go_sem]
       refine L.cq 0 [[41,32,111,110,32]] rfl (by simp) (by first | omega | (simp; omega) | simp) fun Hy Oy L=>?_
       have L:=L.drop (ahj _ _) (fun _ h=>h)
       obtain ⟨b,o',c,k1,t1,n1,a1,bm,mD,e1,e2,⟨r0,r1,r2,r3,r4⟩,hr,fi,bF⟩:=gr hk ps.length (by omega)
       cases e1
       rw[e2] at hr
       obtain ⟨a2,c2,u0,Nl,yh,PG⟩:=hr.open
       simp only[aiV.injEq,aiX.injEq,afV.injEq,and_true,true_and] at u0
       subst u0
       have Ea:t1.length + 64≤wN ks[ps.length]:=by rw[e2]; simp only[wN]; omega
       have ca:=L.cell l1.length (jL _ _)
       unfold sv at ca
       have q0:=ab r0 L.fr bF
       have q1:=ab r1 L.fr bF
       have q2:=ab r2 L.fr bF
       have q3:=ab r3 L.fr bF
       have q4:=ab r4 L.fr bF
       simp only[ahl] at q0
       unfold sv at q1
       simp -implicitDefEqProofs only[go_sem,ca,C8,hpn,q0,q1,q2,q3,q4]
       refine (gk (t:=t1) 48 0).mono ?_
       rintro r Hb ⟨rfl,CB⟩
       have L:=L.ext CB
       rw[show decide ((0:Int) < 0)=false from rfl,aip,dL]
       simp -implicitDefEqProofs only[go_sem]
       refine L.fN _ fun Hc L yI=>?_
       have ca:=L.cell l1.length (jL _ _)
       unfold sv at ca
       have q0:=ab r0 L.fr bF
       have q1:=ab r1 L.fr bF
       have q2:=ab r2 L.fr bF
       have q3:=ab r3 L.fr bF
       have q4:=ab r4 L.fr bF
       simp only[ahl] at q0
       unfold sv at q1
       simp -implicitDefEqProofs only[go_sem,ca,C8,hpn,q0,q1,q2,q3,q4]
       refine L.gv (eL (t:=t1) L.st) (by simp; omega) fun Hn On sn bn L ju=>?_
       have PH:=ju.len
       simp at PH
       have ca:=L.cell l1.length (jL _ _)
       unfold sv at ca
       simp -implicitDefEqProofs only[go_sem,ca]
       refine L.bc fun bz Hz L=>?_
       simp -implicitDefEqProofs only[go_sem]
       refine L.cq 0 [[58,32]] rfl (by simp) (by first | omega | (simp; omega) | simp) fun Hy Oy L=>?_
       have L:=L.drop (ahj _ _) (fun _ h=>h)
       have ca:=L.cell l1.length (jL _ _)
       unfold sv at ca
       simp -implicitDefEqProofs only[go_sem,ca]
       refine L.gv (sK L.st) (by simp; omega) fun Hs Os ss bs L abr=>?_
       have hls:=abr.len
       simp at hls
       simp -implicitDefEqProofs only[go_sem]
       refine L.bc fun bz Hz L=>?_
       simp -implicitDefEqProofs only[go_sem]
       refine L.cq 0 [[32,61,32]] rfl (by simp) (by first | omega | (simp; omega) | simp) fun Hy Oy L=>?_
       have L:=L.drop (ahj _ _) (fun _ h=>h)
       have ca:=L.cell l1.length (jL _ _)
       unfold sv at ca
       obtain ⟨b3,o3,c3,k3,t3,n3,a3,ad9,kv3,e3,e4,⟨r0,r1,r2,r3,r4⟩,Hf,abq,bF⟩:=gr hk (ps.length + 1) (by omega)
       cases e3
       have q0:=ab r0 L.fr bF
       have q1:=ab r1 L.fr bF
       have q2:=ab r2 L.fr bF
       have q3:=ab r3 L.fr bF
       have q4:=ab r4 L.fr bF
       simp only[ahl] at q0
       unfold sv at q1
       simp -implicitDefEqProofs only[go_sem,ca,Vp,Vq,Vr,q0,q1,q2,q3,q4]
       refine L.gv (oD _ _ (afJ _) (kV ks (ps.length + 1) (by omega) dP.2.2) L.st (hp.eQ hG L.fr) (L.nh Hf) 0 (by omega)) (by simp; omega) fun Hy Oy sy Ru L hy=>?_
       simp -implicitDefEqProofs only[go_sem]
       refine L.bo ((yU.trans (eZ.trans ((Pw.put _ _ _).trans (yI.trans (ju.trans ((Pw.put _ _ _).trans (abr.trans ((Pw.put _ _ _).trans hy)))))))).to ?_ (fun _=>?_) ?_)
       ·have Ws:su ks[ps.length]=(decide (k1=48) && aT t1 && decide (n1=0) && bm.isEmpty):=by rw[e2]; rfl
        have Iv:=du ps ks[ps.length] ks[ps.length + 1]
        rw[← Ml] at Iv
        rw[yJ]
        simp only[Iv,Ws]
        simp[fH,aT]
        grind
       ·have ht1:ak ks[ps.length]=t1:=by rw[e2]; rfl
        have Vs:=ET (n:=n) (p:=a) (t:=t) (ps:=ps) (o:=ks[ps.length]) (e:=ks[ps.length + 1])
        rw[← Ml,ht1] at Vs
        rw[Vs]; simp[fZ]
       ·simp; omega
 ·have Iv:kr ks=none:=by
   rcases ks with _ | ⟨x,_ | ⟨y,r⟩⟩
   ·rfl
   ·rfl
   ·simp at h2
  have aea:decide ((0:Int)≤afd.wrap ((ks.length:Int) - 2))=false:=by
   rcases ks with _ | ⟨x,_ | ⟨y,r⟩⟩
   ·rfl
   ·rfl
   ·simp at h2
  simp -implicitDefEqProofs only[go_sem,ca]
  refine L.cu false (by rw[aea]; rfl) fun H4 L hm=>?_
  simp -implicitDefEqProofs only[go_sem]
  refine L.bo (Pw.no fun h=>?_)
  rw[yJ] at h
  rcases rC with rfl | rfl <;> simp[Iv] at h
theorem abt (x:Nd) (dP:ny x) {H:Heap} {O:List Nat} {q:Nat} {s:Bs} {bad:Bool} (hp:Pr H O q s bad) (hG:bS H) {v:Value} (hx:NO H O x v) :
 PC 31 [.pointer (some ⟨q,0,none⟩),v] H O q s bad (l4 x) (sD x) (wN x):=PI Vn x dP hp hG hx
def Ig (R:Except kc Nd):Value:=match R with
 | .error e=>.agg #[.int .i64 e.1,.int .i64 e.2]
 | .ok _=>.agg #[.int .i64 0,.int .i64 0]
theorem abu (s:Bs) (hl:s.length≤maxLen) {H:Heap} (hG:bS H):aE afI 25 #[sv s] H fun v H'=>v=Ig (dr (aJ (bp 64)) s)∧Fr [] H H':=by
 refine af (args:=[_]) Tryz.func25 Zc (ahi rfl) ?_
 have L:Lv [] H [] (fun _=>True) H [] []:=Lv.start (by simp) (fun _ _ _ _=>trivial)
 simp only[go_sem,c25]
 refine L.aS fun b1 H1 L=>?_
 simp only[go_sem]
 refine (Cg s hl (hG.ext L.fr)).mono ?_
 rintro v H3 ⟨hv,dE⟩
 have L:=L.ext dE
 cases e:dr (aJ (bp 64)) s with
 | error e=>
   rw[e] at hv
   simp only[jf] at hv
   subst hv
   simp only[go_sem,je,sv]
   refine L.aS fun b2 H4 L=>?_
   simp only[go_sem]
   refine L.aS fun b3 H5 L=>?_
   simp only[go_sem]
   refine L.ae 1 rfl rfl (by simp[ah3]) fun H6 L=>?_
   simp only[go_sem]
   refine L.ae 0 rfl rfl (by simp[ah3]) fun H7 L=>?_
   have c0:=L.cell 0 rfl
   simp only[go_sem,c0]
   refine L.ae 2 rfl rfl (by simp[ah3]) fun H8 L=>?_
   have c2:=L.cell 2 rfl
   simp only[go_sem,c2]
   exact ⟨rfl,L.fr⟩
 | ok n=>
   rw[e] at hv
   simp only[jf] at hv
   obtain ⟨cs,rfl,hr⟩:=hv
   obtain ⟨kk,tt,nn,aa,ks⟩:=n
   obtain ⟨kv,rfl,jF⟩:=aD.cL hr
   have fi:=dp jF
   simp only[go_sem,je,sv]
   refine L.aS fun b2 H4 L=>?_
   simp only[go_sem]
   refine L.aS fun b3 H5 L=>?_
   simp only[go_sem]
   refine L.ae 1 rfl rfl (ax fi) fun H6 L=>?_
   simp only[go_sem]
   refine L.ae 0 rfl rfl (by simp[ah3]) fun H7 L=>?_
   have c0:=L.cell 0 rfl
   simp only[go_sem,c0]
   refine L.ae 2 rfl rfl (by simp[ah3]) fun H8 L=>?_
   have c2:=L.cell 2 rfl
   simp only[go_sem,c2]
   exact ⟨rfl,L.fr⟩
theorem abv (s:Bs) (hl:s.length≤maxLen) {H:Heap} (hG:bS H):aE afI 38 #[sv s] H fun v H'=>v=Ig (dr (bV (dW 64)) s)∧Fr [] H H':=by
 refine af (args:=[_]) Tryz.func38 Zp (ahi rfl) ?_
 have L:Lv [] H [] (fun _=>True) H [] []:=Lv.start (by simp) (fun _ _ _ _=>trivial)
 simp only[go_sem,c38]
 refine L.aS fun b1 H1 L=>?_
 simp only[go_sem]
 refine (OK s hl (hG.ext L.fr)).mono ?_
 rintro v H3 ⟨hv,dE⟩
 have L:=L.ext dE
 cases e:dr (bV (dW 64)) s with
 | error e=>
   rw[e] at hv
   simp only[jf] at hv
   subst hv
   simp only[go_sem,je,sv]
   refine L.aS fun b2 H4 L=>?_
   simp only[go_sem]
   refine L.aS fun b3 H5 L=>?_
   simp only[go_sem]
   refine L.ae 1 rfl rfl (by simp[ah3]) fun H6 L=>?_
   simp only[go_sem]
   refine L.ae 0 rfl rfl (by simp[ah3]) fun H7 L=>?_
   have c0:=L.cell 0 rfl
   simp only[go_sem,c0]
   refine L.ae 2 rfl rfl (by simp[ah3]) fun H8 L=>?_
   have c2:=L.cell 2 rfl
   simp only[go_sem,c2]
   exact ⟨rfl,L.fr⟩
 | ok n=>
   rw[e] at hv
   simp only[jf] at hv
   obtain ⟨cs,rfl,hr⟩:=hv
   obtain ⟨kk,tt,nn,aa,ks⟩:=n
   obtain ⟨kv,rfl,jF⟩:=aD.cL hr
   have fi:=dp jF
   simp only[go_sem,je,sv]
   refine L.aS fun b2 H4 L=>?_
   simp only[go_sem]
   refine L.aS fun b3 H5 L=>?_
   simp only[go_sem]
   refine L.ae 1 rfl rfl (ax fi) fun H6 L=>?_
   simp only[go_sem]
   refine L.ae 0 rfl rfl (by simp[ah3]) fun H7 L=>?_
   have c0:=L.cell 0 rfl
   simp only[go_sem,c0]
   refine L.ae 2 rfl rfl (by simp[ah3]) fun H8 L=>?_
   have c2:=L.cell 2 rfl
   simp only[go_sem,c2]
   exact ⟨rfl,L.fr⟩
theorem abw (s:Bs) (hl:s.length≤maxLen) {H:Heap} (hG:bS H):aE afI 33 #[sv s] H fun v H'=>v=Ig (dr ft s)∧Fr [] H H':=by
 refine af (args:=[_]) Tryz.func33 Zl (ahi rfl) ?_
 have L:Lv [] H [] (fun _=>True) H [] []:=Lv.start (by simp) (fun _ _ _ _=>trivial)
 simp only[go_sem,c33]
 refine L.aS fun b1 H1 L=>?_
 simp only[go_sem]
 refine (y6 s hl (hG.ext L.fr)).mono ?_
 rintro v H3 ⟨hv,dE⟩
 have L:=L.ext dE
 cases e:dr ft s with
 | error e=>
   rw[e] at hv
   simp only[jf] at hv
   subst hv
   simp only[go_sem,je,sv]
   refine L.aS fun b2 H4 L=>?_
   simp only[go_sem]
   refine L.aS fun b3 H5 L=>?_
   simp only[go_sem]
   refine L.ae 1 rfl rfl (by simp[ah3]) fun H6 L=>?_
   simp only[go_sem]
   refine L.ae 0 rfl rfl (by simp[ah3]) fun H7 L=>?_
   have c0:=L.cell 0 rfl
   simp only[go_sem,c0]
   refine L.ae 2 rfl rfl (by simp[ah3]) fun H8 L=>?_
   have c2:=L.cell 2 rfl
   simp only[go_sem,c2]
   exact ⟨rfl,L.fr⟩
 | ok n=>
   rw[e] at hv
   simp only[jf] at hv
   obtain ⟨cs,rfl,hr⟩:=hv
   obtain ⟨kk,tt,nn,aa,ks⟩:=n
   obtain ⟨kv,rfl,jF⟩:=aD.cL hr
   have fi:=dp jF
   simp only[go_sem,je,sv]
   refine L.aS fun b2 H4 L=>?_
   simp only[go_sem]
   refine L.aS fun b3 H5 L=>?_
   simp only[go_sem]
   refine L.ae 1 rfl rfl (ax fi) fun H6 L=>?_
   simp only[go_sem]
   refine L.ae 0 rfl rfl (by simp[ah3]) fun H7 L=>?_
   have c0:=L.cell 0 rfl
   simp only[go_sem,c0]
   refine L.ae 2 rfl rfl (by simp[ah3]) fun H8 L=>?_
   have c2:=L.cell 2 rfl
   simp only[go_sem,c2]
   exact ⟨rfl,L.fr⟩
def me (s:Bs) (bad:Bool) (R:Except kc Nd):Bs × Int:=if bad then ([],1) else if 65536 < s.length then ([],6) else match R with
 | .ok _=>(s,0)
 | .error e=>if e.1=0 then (s,0) else ([],6)
theorem ui {H:Heap} {O:List Nat} {q g:Nat} {s:Bs} {bad:Bool} (hp:Pr H O q s bad) (hG:bS H) (hl:s.length≤maxLen) (hg:dV afI g=true) {R:Except kc Nd}
 (hc:∀ {H:Heap},bS H→aE afI g #[sv s] H fun v H'=>v=Ig R∧Fr [] H H') :
 aE afI 24 #[.pointer (some ⟨q,0,none⟩),.func (.func g) #[] #[]] H fun r H'=>r= .tuple #[sv (me s bad R).1,.int .i64 (me s bad R).2]∧Fr O H H':=by
 obtain ⟨av,zy,hb⟩:=hp.dz
 have k2:=hb.cell 2
 refine af (args:=[_,_]) Tryz.func24 Za (ahi rfl) ?_
 simp only[go_sem,c24,k2]
 cases bad with
 | true=>
   simp only[go_sem]
   exact ⟨rfl,Fr.refl _ _⟩
 | false=>
   simp only[go_sem]
   refine (U3 hp).mono ?_
   rintro r H1 ⟨rfl,bY⟩
   by_cases h:65536 < s.length
   ·have h1:(65536:Int) < (s.length:Int):=by omega
    simp only[go_sem,sv,h1]
    exact ⟨by simp[me,h],bY⟩
   ·have h1:¬ (65536:Int) < (s.length:Int):=by omega
    simp only[go_sem,sv,h1]
    refine ⟨hg,(hc (hp.eQ hG bY)).mono ?_⟩
    rintro r H2 ⟨rfl,cQ⟩
    have hf:Fr O H H2:=bY.trans' cQ (by simp)
    cases R with
    | ok n=>
      unfold Ig
      simp only[go_sem]
      exact ⟨by simp[me,h],hf⟩
    | error e=>
      unfold Ig
      by_cases he:e.1=0
      ·simp only[go_sem,he]
       exact ⟨by simp[me,h,he],hf⟩
      ·simp only[go_sem,he]
       exact ⟨by simp[me,h,he],hf⟩
theorem Fe {H:Heap} {q:Nat} (hb:eg H q 45 [.pointer none,.slice none 0 0,.bool false]) (h3:3≤q):Pr H [q] q [] false:=
 ⟨⟨_,_,none,hb,.inl rfl,Own.nil _ _ _,rfl⟩,fun x hx=>by simp at hx; omega⟩
theorem abx (x:Nd) (dP:ny x) {H:Heap} (hG:bS H) {v:Value} (hx:NO H [] x v) (hw:wN x≤140737488355328) :
 aE afI 11 #[v] H fun r H'=>r= .tuple #[sv (me (sB x) (!okB x) (dr (aJ (bp 64)) (sB x))).1,.int .i64 (me (sB x) (!okB x) (dr (aJ (bp 64)) (sB x))).2]∧Fr [] H H':=by
 have eS:=hx
 obtain ⟨k,t,n,a,ks⟩:=x
 obtain ⟨aa,cc,rfl,hk,jG,eJ⟩:=hx.open
 refine af (args:=[_]) Tryz.func11 Y5 (ahi rfl) ?_
 simp only[go_sem,c11]
 refine ay fun H1 vr bY gK=>?_
 simp only[go_sem]
 refine ay fun H2 ju cQ jl=>?_
 have h3:3≤H1.size:=by
  obtain ⟨⟨ev,h1,_⟩,_⟩:=hG
  have:=j6 h1
  omega
 have iP:Fr [] H H2:=bY.trans cQ
 have hp:=Fe ju h3
 have Wz:=hG.ext iP
 have bZ:NO H2 [H1.size] (.mk k t n a ks) (.agg #[.int .i64 k,sv t,.int .i64 n,.int .i64 a,.slice aa ks.length cc]):=by
  obtain ⟨cs,h1,h2⟩:=eS
  refine ⟨cs,h1,h2.stay fun b hb _=>⟨fun hm=>?_,iP.same b hb (by simp)⟩⟩
  simp at hm; omega
 have ca:=(vr.ext cQ).cell
 unfold sv at ca
 simp only[go_sem,ca]
 refine ((oD _ _ (afJ _) dP hp Wz bZ 0 (by omega)) (by simp; omega)).mono ?_
 rintro r H3 ⟨rfl,O3,s3,b3,I5,dE,ho3,eZ⟩
 have WA:=hp.eQ Wz dE
 have hlen:=eZ.len
 have vu:b3= !okB (.mk k t n a ks):=by rw[eZ.bad]; simp
 have yz:b3=false→s3=sB (.mk k t n a ks):=fun h=>by rw[eZ.Wu h,fZ]; simp
 have IG:s3.length≤maxLen:=by unfold maxLen; simp at hlen; omega
 simp only[go_sem]
 refine (ui I5 WA IG (by kernel_rfl) (R:=dr (aJ (bp 64)) s3) (fun hG=>abu s3 IG hG)).mono ?_
 rintro r H4 ⟨rfl,iO⟩
 have hF:Fr [] H H4:=(iP.trans' dE (by simp; omega)).trans' iO (fun y hy=>.inr (by
  rcases ho3 y hy with h | h
  ·simp at h; omega
  ·have:=iP.size; omega))
 have he:me s3 b3 (dr (aJ (bp 64)) s3)=me (sB (.mk k t n a ks)) (!okB (.mk k t n a ks)) (dr (aJ (bp 64)) (sB (.mk k t n a ks))):=by
  rw[← vu]
  cases b3 with
  | true=>rfl
  | false=>rw[yz rfl]
 rw[he]
 simp only[go_sem]
 exact hF
theorem aby (x:Nd) (dP:ny x) {H:Heap} (hG:bS H) {v:Value} (hx:NO H [] x v) (hw:wN x≤140737488355328) :
 aE afI 16 #[v] H fun r H'=>r= .tuple #[sv (me (sL x) (!cV x) (dr (bV (dW 64)) (sL x))).1,.int .i64 (me (sL x) (!cV x) (dr (bV (dW 64)) (sL x))).2]∧Fr [] H H':=by
 have eS:=hx
 obtain ⟨k,t,n,a,ks⟩:=x
 obtain ⟨aa,cc,rfl,hk,jG,eJ⟩:=hx.open
 refine af (args:=[_]) Tryz.func16 Y8 (ahi rfl) ?_
 simp only[go_sem,c16]
 refine ay fun H1 vr bY gK=>?_
 simp only[go_sem]
 refine ay fun H2 ju cQ jl=>?_
 have h3:3≤H1.size:=by
  obtain ⟨⟨ev,h1,_⟩,_⟩:=hG
  have:=j6 h1
  omega
 have iP:Fr [] H H2:=bY.trans cQ
 have hp:=Fe ju h3
 have Wz:=hG.ext iP
 have bZ:NO H2 [H1.size] (.mk k t n a ks) (.agg #[.int .i64 k,sv t,.int .i64 n,.int .i64 a,.slice aa ks.length cc]):=by
  obtain ⟨cs,h1,h2⟩:=eS
  refine ⟨cs,h1,h2.stay fun b hb _=>⟨fun hm=>?_,iP.same b hb (by simp)⟩⟩
  simp at hm; omega
 have ca:=(vr.ext cQ).cell
 unfold sv at ca
 simp only[go_sem,ca]
 refine ((sN _ _ (afJ _) dP hp Wz bZ) (by simp; omega)).mono ?_
 rintro r H3 ⟨rfl,O3,s3,b3,I5,dE,ho3,eZ⟩
 have WA:=hp.eQ Wz dE
 have hlen:=eZ.len
 have vu:b3= !cV (.mk k t n a ks):=by rw[eZ.bad]; simp
 have yz:b3=false→s3=sL (.mk k t n a ks):=fun h=>by rw[eZ.Wu h]; simp
 have IG:s3.length≤maxLen:=by unfold maxLen; simp at hlen; omega
 simp only[go_sem]
 refine (ui I5 WA IG (by kernel_rfl) (R:=dr (bV (dW 64)) s3) (fun hG=>abv s3 IG hG)).mono ?_
 rintro r H4 ⟨rfl,iO⟩
 have hF:Fr [] H H4:=(iP.trans' dE (by simp; omega)).trans' iO (fun y hy=>.inr (by
  rcases ho3 y hy with h | h
  ·simp at h; omega
  ·have:=iP.size; omega))
 have he:me s3 b3 (dr (bV (dW 64)) s3)=me (sL (.mk k t n a ks)) (!cV (.mk k t n a ks)) (dr (bV (dW 64)) (sL (.mk k t n a ks))):=by
  rw[← vu]
  cases b3 with
  | true=>rfl
  | false=>rw[yz rfl]
 rw[he]
 simp only[go_sem]
 exact hF
theorem xT:∀ (ks:List Nd) (i:Nat) (h:i < ks.length),sE (ks.take (i + 1))=sE (ks.take i) ++ (sD ks[i] ++ [59,10])
 | x :: r,0,_=>by simp[sE]
 | x :: r,i + 1,h=>by
   have:=xT r i (by simpa using h)
   simp only[ahq,sE,ah2,this]; simp
def sO (x:Nd):Bool:=decide (kindOf x=1) && decide (ak x=[]) && decide (numOf x=0) && (aL x).all l4
theorem abz (x:Nd) (dP:ny x) {H:Heap} (hG:bS H) {v:Value} (hx:NO H [] x v) (hw:wN x + 2 * (aL x).length≤140737488355328) :
 aE afI 14 #[v] H fun r H'=>r= .tuple #[sv (me (sE (aL x)) (!sO x) (dr ft (sE (aL x)))).1,.int .i64 (me (sE (aL x)) (!sO x) (dr ft (sE (aL x)))).2]∧Fr [] H H':=by
 have eS:=hx
 obtain ⟨k,t,n,a,ks⟩:=x
 obtain ⟨aa,cc,rfl,hk,jG,eJ⟩:=hx.open
 refine af (args:=[_]) Tryz.func14 Y6 (ahi rfl) ?_
 simp only[go_sem,c14]
 refine ay fun H1 vr bY gK=>?_
 simp only[go_sem]
 refine ay fun H2 ju cQ jl=>?_
 have h3:3≤H1.size:=by
  obtain ⟨⟨ev,h1,_⟩,_⟩:=hG
  have:=j6 h1
  omega
 have iP:Fr [] H H2:=bY.trans cQ
 have hp:=Fe ju h3
 have Wz:=hG.ext iP
 have ca:=(vr.ext cQ).cell
 unfold sv at ca
 simp only[go_sem,ca]
 refine (gk (t:=t) 1 (-1)).mono ?_
 rintro r H3 ⟨rfl,dE⟩
 have Gy:=iP.trans dE
 have I5:=hp.Ox dE (by simp)
 have hk3:dA H3 [H1.size] (aW ks) [.slice aa ks.length cc]:=hk.stay fun b hb _=>⟨fun hm=>by simp at hm; omega,Gy.same b hb (by simp)⟩
 have WA:=hG.ext Gy
 have ca:=(vr.ext (cQ.trans dE)).cell
 unfold sv at ca
 have hs:=cW t
 have L:=PL.start I5
 rw[show decide ((-1:Int) < 0)=true from rfl,Bool.true_or,Bool.and_true]
 simp only[go_sem,ca]
 refine L.cu (decide (k=1) && decide (t=[]) && decide (n=0)) (by simp only[hs]; grind) fun H4 L hm=>?_
 have ca:=((vr.ext (cQ.trans dE)).fr L.fr (by simp; omega)).cell
 unfold sv at ca
 simp only[go_sem,ca]
 generalize mz:(false || !(decide (k=1) && decide (t=[]) && decide (n=0)))=b1 at *
 refine bC (fun (i:Nat) H'=>i≤ks.length∧∃ O' s' b' l,PL [H1.size] H3 H1.size O' s' b' H' l∧Pw [] b1 s' b' ((ks.take i).all l4) (sE (ks.take i)) (wL (ks.take i) + 2 * i))
  (fun i=>[(4,.pointer (some ⟨H1.size,0,none⟩)),(24,.slice aa ks.length cc),(25,.int .i64 ks.length),(26,.int .i64 i)]) (fun i=>ks.length - i) 0 ?_ ?_ ?_
 ·exact ⟨ahn _,_,_,_,_,L,by simpa [sE,wL] using Pw.refl [] _⟩
 ·simp only[go_sem]
 ·rintro i H5 ⟨hi,O1,s1,b2,l1,Li,eZ⟩
  have hlen:=eZ.len
  simp only[aL] at hw
  have tm:wN (.mk k t n a ks)=t.length + 64 + wL ks:=rfl
  rw[tm] at hw
  rcases ae8 i ks.length with ba | nf
  ·have h0:(0:Int)≤(i:Int):=by omega
   have h1:(i:Int) < (ks.length:Int):=by omega
   have gl:=dD ba eJ
   have tj:=eM ks i ba
   have Ah:=mc ks (i + 1)
   have WB:=fy l4 ks i ba
   have Vs:=xT ks i ba
   obtain ⟨b,o,c,k1,t1,n1,a1,bm,mD,e1,e2,⟨q0,q1,q2,q3,q4⟩,Ib,fi,bF⟩:=gr hk3 i ba
   cases e1
   have L:=Li
   have q0:=ab q0 L.fr bF
   have q1:=ab q1 L.fr bF
   have q2:=ab q2 L.fr bF
   have q3:=ab q3 L.fr bF
   have q4:=ab q4 L.fr bF
   simp only[ahl] at q0
   unfold sv at q1
   simp only[go_sem,h0,h1,q0,q1,q2,q3,q4]
   refine ay fun H6 gL fB _=>?_
   have L5:=L.push fB gL
   simp only[go_sem]
   refine aC gL rfl (ax fi) fun H7 qR fK _=>?_
   have L:=L5.Na 0 rfl fK qR
   have ck:=L.cell 0 rfl
   unfold sv at ck
   simp only[go_sem,ck]
   refine L.gv (abt _ (kV ks i ba dP.2.2) L.st (I5.eQ WA L.fr) (L.nh Ib)) (by simp at hlen; omega) fun Hy Oy sy Ru L hy=>?_
   have IK:=hy.len
   simp only[go_sem]
   refine L.bc fun bz Hz L=>?_
   simp only[go_sem]
   refine L.cq 0 [[59,10]] rfl (by simp) (by simp at hlen ⊢; omega) fun Hq Oq L=>?_
   simp only[go_sem,gl]
   refine aj (i + 1) ?_ ?_ ⟨by omega,_,_,_,_,L,(eZ.trans (hy.trans (Pw.put _ _ _))).to (by rw[WB]; simp) (fun _=>by rw[Vs]; simp) (by simp; omega)⟩
   ·show ks.length - (i + 1) < ks.length - i
    omega
   ·simp only[go_sem,gl]
  ·have h1:¬ ((i:Int) < (ks.length:Int)):=by omega
   obtain rfl:i=ks.length:=by omega
   rw[ain] at eZ hlen
   have IG:s1.length≤maxLen:=by unfold maxLen; simp at hlen; omega
   have vu:b2= !sO (.mk k t n a ks):=by
    rw[eZ.bad,← mz]
    simp only[sO,kindOf,ak,numOf,aL]
    grind
   have yz:b2=false→s1=sE ks:=fun h=>by rw[eZ.Wu h]; simp
   have L:=Li
   simp only[go_sem,h1]
   refine (ui L.st (I5.eQ WA L.fr) IG (by kernel_rfl) (R:=dr ft s1) (fun hG=>abw s1 IG hG)).mono ?_
   rintro r H6 ⟨rfl,fB⟩
   have hF:Fr [] H H6:=(Gy.trans' L.fr (by simp; omega)).trans' fB (fun y hy=>.inr (by
    rcases L.poo y hy with h | h
    ·simp at h; omega
    ·have:=Gy.size; omega))
   have he:me s1 b2 (dr ft s1)=me (sE ks) (!sO (.mk k t n a ks)) (dr ft (sE ks)):=by
    rw[← vu]
    cases b2 with
    | true=>rfl
    | false=>rw[yz rfl]
   rw[he]
   simp only[go_sem]
   exact ⟨rfl,hF⟩
def Sz (x:Nd) (l:List Tk):Prop:=ny x∧wN x≤100 * l.length
def fc (ks:List Nd) (n:Nat):Prop:=EZ ks∧wL ks≤n
theorem Sz.mk {k n p:Int} {t:Bs} {ks:List Nd} {l:List Tk} (hn:-1000000000000000≤n∧n≤1000000000000000) (ht:t.length≤16) {m:Nat} (hk:fc ks m) (hm:m + 80≤100 * l.length):Sz (.mk k t n p ks) l:=by
 refine ⟨?_,?_⟩
 ·rw[ny]; exact ⟨by omega,by omega,hk.1⟩
 ·rw[wN]
  have:=hk.2
  omega
theorem fc.nil:fc [] 0:=⟨trivial,afJ _⟩
theorem fc.cons {x:Nd} {r:List Nd} {l:List Tk} {n:Nat} (h:Sz x l) (h':fc r n):fc (x :: r) (100 * l.length + n):=by
 refine ⟨⟨h.1,h'.1⟩,?_⟩
 rw[wL]
 have:=h.2
 have:=h'.2
 omega
theorem fc.app:∀ {a b:List Nd} {n m:Nat},fc a n→fc b m→fc (a ++ b) (n + m)
 | [],b,n,m,h,h'=>⟨h'.1,by have:=h'.2; rw[ahv]; omega⟩
 | x :: a,b,n,m,h,h'=>by
   obtain ⟨⟨h1,h2⟩,h3⟩:=h
   rw[wL] at h3
   have i:=fc.app (a:=a) (b:=b) (n:=wL a) (m:=m) ⟨h2,afJ _⟩ h'
   refine ⟨⟨h1,i.1⟩,?_⟩
   have:=i.2
   rw[ahm,wL]
   omega
theorem Mm (b:Bool) (l:List Tk):l.length≤(kT b l).length:=by
 cases b with
 | false=>exact afJ _
 | true=>show l.length≤(eK :: (l ++ [cR])).length; simp; omega
theorem at_len (x:Nd) (q:Nat):(cp x).length≤(bW x q).length:=Mm _ _
theorem cX {t:Bs} (h:aT t=true):t.length≤16:=by
 unfold aT at h
 rw[ae5] at h
 exact oY h.1
theorem Vt {t:Bs} (h:t ∈ aZ):t.length≤16:=by
 have:∀ g ∈ aZ,g.length≤16:=by decide
 exact this t h
theorem qM:-1000000000000000≤(0:Int)∧(0:Int)≤1000000000000000:=by decide
section
variable {N:Nat} (ih:∀ x,aq x≤N→okB x=true→Sz x (cp x))
include ih
theorem Vu {fn:Bs} {x:Nd} (hs:aq x≤N) (ho:lU fn x=true):Sz x (qT fn x):=by
 rcases jS ho with ⟨rfl,t,p,z,rfl,ht,hz⟩ | ⟨rfl,p,z,z',rfl,hz,Ir⟩ | ⟨h1,h2,h3⟩
 ·simp only[aq,aA] at hs
  have e:=ih z (by omega) hz
  rw[pk.1]
  exact Sz.mk qM (cX ht) (fc.cons e fc.nil) (by simp; omega)
 ·simp only[aq,aA] at hs
  have e:=ih z (by omega) hz
  have e':=ih z' (by omega) Ir
  rw[pn.1]
  exact Sz.mk qM (by simp) (fc.cons e (fc.cons e' fc.nil)) (by simp; omega)
 ·rw[(ib h1 h2 x).2.2]
  exact ih x hs h3
theorem Gz {fn:Bs}:∀ {ks:List Nd},aA ks≤N→nu fn ks=true→∀ b,fc ks (100 * (jy fn b ks).length)
 | [],hs,ho,b=>⟨trivial,ahn _⟩
 | x :: r,hs,ho,b=>by
   simp only[aA] at hs
   rw[nu,ae5] at ho
   have a:=Vu ih (by omega) ho.1
   have i:=Gz (ks:=r) (by omega) ho.2 false
   refine ⟨⟨a.1,i.1⟩,?_⟩
   have:=a.2
   have:=i.2
   rw[wL,sF]
   simp only[ah1]
   omega
end
theorem Mn:∀ (N:Nat) (x:Nd),aq x≤N→okB x=true→Sz x (cp x)
 | 0,x,h,_=>by cases x; simp only[aq] at h; omega
 | N + 1,x,hs,ho=>by
   have ih:=Mn N
   cases kp ho with
   | @bin k n p t a b o lv l r hb ht hn ha yj=>
     subst ht hn
     simp only[aq,aA] at hs
     have e:=ih a (by omega) ha
     have e':=ih b (by omega) yj
     have l1:=at_len a l
     have l2:=at_len b r
     rw[jJ hb]
     exact Sz.mk qM (by simp) (fc.cons e (fc.cons e' fc.nil)) (by simp only[ah1,afK]; omega)
   | @cond n p t a b c ht hn ha hb hc=>
     subst ht hn
     simp only[aq,aA] at hs
     have e1:=ih a (by omega) ha
     have e2:=ih b (by omega) hb
     have e3:=ih c (by omega) hc
     rw[oa]
     exact Sz.mk qM (by simp) (fc.cons e1 (fc.cons e2 (fc.cons e3 fc.nil))) (by simp only[ah1,afK]; omega)
   | @not n p t a ht hn ha=>
     subst ht hn
     simp only[aq,aA] at hs
     have e:=ih a (by omega) ha
     have l1:=at_len a 3
     rw[kU]
     exact Sz.mk qM (by simp) (fc.cons e fc.nil) (by simp only[ah1,afK]; omega)
   | @field n p t a ht hn ha=>
     subst hn
     simp only[aq,aA] at hs
     have e:=ih a (by omega) ha
     have l1:=at_len a 7
     rw[hU]
     exact Sz.mk qM (cX ht) (fc.cons e fc.nil) (by simp only[ah1,afK]; omega)
   | @index n p t a b ht hn ha hb=>
     subst ht hn
     simp only[aq,aA] at hs
     have e:=ih a (by omega) ha
     have e':=ih b (by omega) hb
     have l1:=at_len a 7
     rw[hX]
     exact Sz.mk qM (by simp) (fc.cons e (fc.cons e' fc.nil)) (by simp only[ah1,afK]; omega)
   | int ht h1 h2=>
     subst ht
     rw[jK]
     refine Sz.mk ⟨h1,h2⟩ (by simp) fc.nil ?_
     unfold dc
     split <;> simp
   | quote ht hn=>
     subst hn
     rw[ia]
     exact Sz.mk qM (oY ht) fc.nil (by simp)
   | name ht hn=>
     subst hn
     rw[jg]
     exact Sz.mk qM (cX ht) fc.nil (by simp)
   | @call n p t ks ht hn hk=>
     subst hn
     simp only[aq] at hs
     have e:=Gz ih (by omega) hk true
     rw[jh]
     exact Sz.mk qM (Vt ht) e (by simp only[ah1,afK]; omega)
   | @word k n p t s iF hb ht hn=>
     subst ht hn
     rw[ji iF]
     exact Sz.mk qM (by simp) fc.nil (by simp)
theorem A1 {x:Nd} (ho:okB x=true):Sz x (cp x):=Mn _ x (afJ _) ho
theorem GA:∀ {qs:List Nd} (b:Bool),qs.all dQ=true→fc qs (100 * (cG b qs).length)
 | [],b,_=>⟨trivial,ahn _⟩
 | q :: r,b,ho=>by
   rw[afb,ae5] at ho
   obtain ⟨t,p,rfl,ht⟩:=gN ho.1
   have i:=GA (qs:=r) false ho.2
   have hq:Sz (.mk 47 t 0 p []) [oZ t]:=Sz.mk qM (oY ht) fc.nil (by simp)
   have:=fc.cons hq i
   refine ⟨this.1,ah8 this.2 ?_⟩
   rw[cG]
   simp only[ah1,afK,aht]
   omega
theorem PJ (qs:List Nd):(cG true qs).length≤(dN qs).length:=by
 unfold dN
 split
 ·rename_i h
  rw[ah6] at h
  subst h
  exact afJ _
 ·simp; omega
theorem xU {qs:List Nd} (ho:qs.all dQ=true):fc qs (100 * (dN qs).length):=by
 have:=GA true ho
 have l:=PJ qs
 exact ⟨this.1,by have:=this.2; omega⟩
theorem PK {k n p:Int} {t:Bs} (ps:List Nd) (q:Nd):yG (.mk k t n p (ps ++ [q]))=aM [59] :: (cG true ps ++ [aM [61,62],oZ (ak q)]):=by
 unfold yG
 have e1:(aL (.mk k t n p (ps ++ [q]))).dropLast=ps:=by show (ps ++ [_]).dropLast=ps; rw[List.dropLast_concat]
 have e2:((aL (.mk k t n p (ps ++ [q]))).getLast?.map ak).getD []=ak q:=by
  show (((ps ++ [_]).getLast?).map ak).getD []=_
  rw[List.getLast?_append]; rfl
 rw[e1,e2]
theorem PM {x:Nd} (ho:jQ x=true):Sz x (yG x):=by
 obtain ⟨p,ps,q,rfl,h1,h2⟩:=AP ho
 obtain ⟨t,p',rfl,ht⟩:=gN h2
 have i:=GA true h1
 have hq:Sz (.mk 47 t 0 p' []) [oZ t]:=Sz.mk qM (oY ht) fc.nil (by simp)
 rw[PK]
 exact Sz.mk qM (by simp) (i.app (fc.cons hq fc.nil)) (by simp only[ah1,afK,aht]; omega)
theorem Dc:∀ {rs:List Nd},rs.all jQ=true→fc rs (100 * (fF rs).length)
 | [],_=>⟨trivial,ahn _⟩
 | x :: r,ho=>by
   rw[afb,ae5] at ho
   have:=fc.cons (PM ho.1) (Dc (rs:=r) ho.2)
   refine ⟨this.1,ah8 this.2 ?_⟩
   rw[fF,ah1]; omega
section
variable {N:Nat} (ih:∀ x,aq x≤N→cV x=true→Sz x (eC x))
include ih
theorem Vv {x:Nd} (hs:aq x≤N) (ho:uQ x=true):Sz x (zl x):=by
 obtain ⟨t,p,z,rfl,h1,h2⟩:=sr ho
 simp only[aq,aA] at hs
 have e:=ih z (by omega) h2
 rw[xq]
 exact Sz.mk qM (cX h1) (fc.cons e fc.nil) (by simp only[ah1,afK]; omega)
theorem GB:∀ {ks:List Nd},aA ks≤N→fb ks=true→∀ b,fc ks (100 * (fG b ks).length)
 | [],hs,ho,b=>⟨trivial,ahn _⟩
 | x :: r,hs,ho,b=>by
   simp only[aA] at hs
   rw[fb,ae5] at ho
   have:=fc.cons (Vv ih (by omega) ho.1) (GB (ks:=r) (by omega) ho.2 false)
   refine ⟨this.1,ah8 this.2 ?_⟩
   rw[fG]
   simp only[ah1]
   omega
end
theorem PN (n:Int):1≤(dc n).length:=by
 unfold dc
 split <;> simp
theorem A2 {x:Nd} (h:mh x=true):Sz x (dc (numOf x)):=by
 obtain ⟨n1,p1,rfl,a1,a2⟩:=gj h
 have:=PN n1
 exact Sz.mk ⟨a1,a2⟩ (by simp) fc.nil (by show 0 + 80≤100 * (dc n1).length; omega)
theorem GC:∀ (N:Nat) (x:Nd),aq x≤N→cV x=true→Sz x (eC x)
 | 0,x,h,_=>by cases x; simp only[aq] at h; omega
 | N + 1,x,hs,ho=>by
   have ih:=GC N
   cases ic ho with
   | named ht hn=>
     subst hn
     rw[jR]
     exact Sz.mk qM (cX ht) fc.nil (by simp)
   | flag ht hn=>
     subst ht hn
     rw[lX]
     exact Sz.mk qM (by simp) fc.nil (by simp)
   | register ht hn=>
     subst ht hn
     rw[gi]
     exact Sz.mk qM (by simp) fc.nil (by simp)
   | set ht hn hk=>
     subst ht hn
     rw[pq]
     exact Sz.mk qM (by simp) (xU hk) (by simp only[ah1,afK]; omega)
   | flat ht hn hk=>
     subst ht hn
     rw[lY]
     exact Sz.mk qM (by simp) (xU hk) (by simp only[ah1,afK]; omega)
   | @map n p t ks x ht hn hk hx=>
     subst ht hn
     have hsx:aq x≤N:=by
      have:=sH (x:=x) (ks:=ks ++ [x]) (by simp)
      simp only[aq] at hs
      omega
     have e:=ih x hsx hx
     rw[pr]
     exact Sz.mk qM (by simp) ((xU hk).app (fc.cons e fc.nil)) (by simp only[ah1,afK]; omega)
   | @max n p t a b ht hn ha hb=>
     subst ht hn
     rw[pt]
     exact Sz.mk qM (by simp) (fc.cons (A2 ha) (fc.cons (A2 hb) fc.nil)) (by simp only[ah1,afK]; omega)
   | @min n p t a b ht hn ha hb=>
     subst ht hn
     rw[pv]
     exact Sz.mk qM (by simp) (fc.cons (A2 ha) (fc.cons (A2 hb) fc.nil)) (by simp only[ah1,afK]; omega)
   | @lex n p t a b ht hn ha hb=>
     subst ht hn
     simp only[aq,aA] at hs
     have e:=ih a (by omega) ha
     have e':=ih b (by omega) hb
     rw[pw]
     exact Sz.mk qM (by simp) (fc.cons e (fc.cons e' fc.nil)) (by simp only[ah1,afK]; omega)
   | @prod n p t a ks ht hn ha hk=>
     subst ht hn
     simp only[aq] at hs
     have hm:fb (a :: ks)=true:=by rw[fb,ha,hk]; rfl
     have i:=GB ih (by omega) hm true
     rw[lZ]
     exact Sz.mk qM (by simp) i (by simp only[ah1,afK]; omega)
   | @closed n p t ks ht hn h1 h2=>
     subst ht hn
     have i:=(GA true h1).app (Dc h2)
     rw[← pz] at i
     rw[iS]
     exact Sz.mk qM (by simp) i (by simp only[ah1,afK]; omega)
theorem Mo {x:Nd} (ho:cV x=true):Sz x (eC x):=GC _ x (afJ _) ho
theorem Mp {n:Int} (h:qD n=true):-1000000000000000≤n∧n≤1000000000000000:=by
 unfold qD at h
 simp only[ae5,decide_eq_true_eq] at h
 omega
theorem Mq:∀ {ps:List Nd} (b:Bool),ps.all kI=true→fc ps (100 * (dv b ps).length)
 | [],b,_=>⟨trivial,ahn _⟩
 | q :: r,b,ho=>by
   rw[afb,ae5] at ho
   obtain ⟨t,n,p,rfl,ht,hn⟩:=vJ ho.1
   have hq:Sz (.mk 6 t n p []) (l0 (.mk 6 t n p [])):=Sz.mk (Mp hn) (cX ht) fc.nil (by simp[l0])
   have:=fc.cons hq (Mq (ps:=r) false ho.2)
   refine ⟨this.1,ah8 this.2 ?_⟩
   rw[dv]
   simp only[ah1]
   omega
theorem Vw {x:Nd} (ho:l4 x=true):Sz x (Bh x):=by
 cases iT ho with
 | Rk ht hy=>
   rw[mM]
   exact Sz.mk qM (cX ht) (fc.cons (Mo hy) fc.nil) (by simp only[ah1,afK]; omega)
 | obj ht hy=>
   rw[mN]
   exact Sz.mk qM (cX ht) (fc.cons (Mo hy) fc.nil) (by simp only[ah1,afK]; omega)
 | Rm ht hp u3 he=>
   obtain ⟨t2,p2,rfl,Pn⟩:=mQ u3
   have h2:Sz (.mk 48 t2 0 p2 []) [dS t2]:=Sz.mk qM (cX Pn) fc.nil (by simp)
   rw[mO]
   exact Sz.mk qM (cX ht) ((Mq true hp).app (fc.cons h2 (fc.cons (A1 he) fc.nil))) (by simp only[ah1,afK,aht]; omega)
 | Rn ht hp u3 he hn=>
   obtain ⟨t2,p2,rfl,Pn⟩:=mQ u3
   have h2:Sz (.mk 48 t2 0 p2 []) [dS t2]:=Sz.mk qM (cX Pn) fc.nil (by simp)
   rw[mP]
   exact Sz.mk (Mp hn) (cX ht) ((Mq true hp).app (fc.cons h2 (fc.cons (A1 he) fc.nil))) (by simp only[ah1,afK,aht]; omega)
theorem GD:∀ {ds:List Nd},(∀ x ∈ ds,l4 x=true)→fc ds (100 * (jj ds).length)
 | [],_=>⟨trivial,ahn _⟩
 | x :: r,ho=>by
   have:=fc.cons (Vw (ho x (by simp))) (GD (ds:=r) fun y hy=>ho y (by simp[hy]))
   refine ⟨this.1,ah8 this.2 ?_⟩
   rw[jj]
   simp only[ah1,afK]
   omega
theorem kA:∀ l:List Tk,cost (fun _=>1) l=l.length
 | []=>rfl
 | t :: r=>by rw[cost,kA r,afK]; omega
theorem Ms:Wo (fun _=>1):=fun _ _ _=>rfl
theorem zE {s:Bs} {T:List Tk} (h:jb s= .ok T):T.length≤65537:=(Ce h).1
theorem Dd {s:Bs} {n:Nd} (h:dr (aJ (bp 64)) s= .ok n):okB n=true∧gu n≤64∧(sB n).length≤3 * s.length∧ny n∧wN n≤10000000:=by
 unfold dr at h
 cases e:jb s with
 | bad c k=>rw[e] at h; cases h
 | ok T=>
   rw[e] at h
   simp only[mF] at h
   cases e2:aJ (bp 64) T with
   | error e'=>rw[e2] at h; cases h
   | ok q=>
     obtain ⟨m,r⟩:=q
     rw[e2] at h
     simp only at h
     split at h
     ·cases h
      obtain ⟨h1,h2,h3,_⟩:=si vM (AU e) e2
      obtain ⟨_,_,h4,_⟩:=si Ms (AU e) e2
      have h5:=AQ Gs h1
      rw[pE] at h5
      have h6:=C6 e
      rw[kA,kA,kA] at h4
      have h7:=zE e
      obtain ⟨h8,h9⟩:=A1 h1
      exact ⟨h1,h2,by omega,h8,by omega⟩
     ·cases h
theorem De {s:Bs} {n:Nd} (h:dr ft s= .ok n):∃ ds,n= .mk 1 [] 0 0 ds∧(∀ x ∈ ds,l4 x=true∧zm x≤64)∧(sE ds).length≤3 * s.length∧ny n∧wN n≤10000000∧ds.length≤65537:=by
 unfold dr at h
 cases e:jb s with
 | bad c k=>rw[e] at h; cases h
 | ok T=>
   rw[e] at h
   obtain ⟨ds,r,h1,h2,rfl⟩:=HJ h
   obtain ⟨ds',e1,h3,h4,_⟩:=xA vM _ _ _ _ _ (AU e) h1
   obtain ⟨ds2,e2,_,h5,_⟩:=xA Ms _ _ _ _ _ (AU e) h1
   rw[ahv] at e1 e2
   subst e1
   subst e2
   have h6:=Gr Gs (by show (1:Nat)≤2 * 1; omega) fun x hx=>(h3 x hx).1
   rw[pE] at h6
   have h7:=C6 e
   rw[kA,kA,kA] at h5
   have h8:=zE e
   obtain ⟨h9,Bg⟩:=GD fun x hx=>(h3 x hx).1
   have Ku:=xI ds
   refine ⟨ds,rfl,h3,by omega,?_,?_,by omega⟩
   ·rw[ny]; exact ⟨by omega,by omega,h9⟩
   ·rw[wN]
    simp only[aht]
    omega
def aeb:Except kc Nd→Nd
 | .error _=>.mk 0 [] 0 0 []
 | .ok n=>n
def Mt:Except kc Nd→kc
 | .error e=>e
 | .ok _=>(0,0)
theorem jf.open {A:Except kc Nd} {v:Value} {H H':Heap} (h:jf A v H H'):∃ k t n a ks kv,aeb A= .mk k t n a ks∧v= .tuple #[.agg #[.int .i64 k,sv t,.int .i64 n,.int .i64 a,kv],.agg #[.int .i64 (Mt A).1,.int .i64 (Mt A).2]]∧aD H' (fun x=>x < H.size) (aW ks) [kv]:=by
 cases A with
 | error e=>
   simp only[jf] at h
   exact ⟨0,[],0,0,[],_,rfl,h,kg⟩
 | ok m=>
   simp only[jf] at h
   obtain ⟨cs,rfl,hr⟩:=h
   obtain ⟨k,t,n,a,ks⟩:=m
   obtain ⟨kv,rfl,jF⟩:=aD.cL hr
   exact ⟨k,t,n,a,ks,kv,rfl,rfl,jF⟩
def uj (ok:Bool) (d:Nat) (s:Bs):Bs × Int:=if ok=true then (if d≤64∧s.length≤65536 then (s,0) else ([],6)) else ([],1)
def vl:List Nd→Nat
 | []=>0
 | x :: r=>max (zm x) (vl r)
theorem A3:∀ {ds:List Nd} {k:Nat},vl ds≤k↔∀ x ∈ ds,zm x≤k
 | [],k=>⟨fun _ x hx=>by simp at hx,fun _=>ahn _⟩
 | x :: r,k=>by
   rw[vl,Nat.max_le,A3 (ds:=r)]
   constructor
   ·rintro ⟨h1,h2⟩ y hy
    rcases afa.1 hy with rfl | hy
    ·exact h1
    ·exact h2 y hy
   ·exact fun h=>⟨h x (by simp),fun y hy=>h y (by simp[hy])⟩
theorem Ff {s:Bs} {ok:Bool} {d:Nat} {R:Except kc Nd} {x:Nd} (h:ok=true→s.length≤65536→EW (d≤64) R x):me s (!ok) R=uj ok d s:=by
 unfold me uj
 cases ok with
 | false=>rfl
 | true=>
   rw[if_neg (by decide),if_pos rfl]
   by_cases hl:65536 < s.length
   ·rw[if_pos hl,if_neg (fun q=>by have:=q.2; omega)]
   ·rw[if_neg hl]
    rcases h rfl (by omega) with ⟨h1,x',rfl,_⟩ | ⟨h1,o,rfl⟩
    ·rw[if_pos ⟨h1,by omega⟩]
    ·rw[if_neg (fun q=>h1 q.1)]; rfl
def xR (x:Nd):Bs × Int:=uj (okB x) (gu x) (sB x)
def lR (x:Nd):Bs × Int:=uj (cV x) (gM x) (sL x)
def gR (x:Nd):Bs × Int:=uj (sO x) (vl (aL x)) (sE (aL x))
theorem Ih {x:Nd} (h:sO x=true):kindOf x=1∧ak x=[]∧numOf x=0∧∀ y ∈ aL x,l4 y=true:=by
 unfold sO at h
 simp only[ae5,decide_eq_true_eq] at h
 exact ⟨h.1.1.1,h.1.1.2,h.1.2,afg.1 h.2⟩
theorem PO {x:Nd} (h:sO x=true) (hl:(sE (aL x)).length≤65536):EW (vl (aL x)≤64) (dr ft (sE (aL x))) x:=by
 obtain ⟨k,t,n,p,ks⟩:=x
 obtain ⟨h1,h2,h3,h4⟩:=Ih h
 obtain rfl:k=1:=h1
 obtain rfl:t=[]:=h2
 obtain rfl:n=0:=h3
 have:=HW (p:=p) h4 hl
 unfold EW at this ⊢
 rw[A3]
 exact this
section
variable {x:Nd} (dP:ny x) {H:Heap} (hG:bS H) {v:Value} (hx:NO H [] x v)
include dP hG hx
theorem px (hw:wN x≤140737488355328):aE afI 11 #[v] H fun r H'=>r= .tuple #[sv (xR x).1,.int .i64 (xR x).2]∧Fr [] H H':=by
 have h:=abx x dP hG hx hw
 rw[Ff fun h hl=>HV h hl] at h
 exact h
theorem pl (hw:wN x≤140737488355328):aE afI 16 #[v] H fun r H'=>r= .tuple #[sv (lR x).1,.int .i64 (lR x).2]∧Fr [] H H':=by
 have h:=aby x dP hG hx hw
 rw[Ff fun h hl=>LP h hl] at h
 exact h
theorem pp (hw:wN x + 2 * (aL x).length≤140737488355328):aE afI 14 #[v] H fun r H'=>r= .tuple #[sv (gR x).1,.int .i64 (gR x).2]∧Fr [] H H':=by
 have h:=abz x dP hG hx hw
 rw[Ff fun h hl=>PO h hl] at h
 exact h
end
set_option maxHeartbeats 1000000 in
theorem sP {s t:Bs} {m:Nd} (h:dr (aJ (bp 64)) s= .ok m) (hx:xR m=(t,0)) (hl:s.length≤maxLen) {H:Heap} (hG:bS H):aE afI 21 #[sv s] H fun v H'=>v=sv t∧Fr [] H H':=by
 refine af (args:=[_]) Tryz.func21 Y2 (ahi rfl) ?_
 have L:=L0 H
 obtain ⟨_,_,_,h4,h5⟩:=Dd h
 simp only[go_sem,c21]
 refine (Cg s hl (hG.ext L.fr)).mono ?_
 rintro v H1 ⟨hv,bY⟩
 rw[h] at hv
 obtain ⟨xk,xt,xn,xa,PQ,xkv,xe,rfl,jF⟩:=hv.open
 have L:=(L.ext bY).add (L.built jF)
 simp only[go_sem]
 refine L.aS fun xx H2 L=>?_
 simp only[go_sem]
 refine L.aS fun xy H3 L=>?_
 simp only[go_sem]
 refine L.ae 1 rfl rfl (ax (dp (L.fD (aW PQ,[xkv]) (by simp)))) fun H4 L=>?_
 simp only[go_sem]
 refine L.ae 0 rfl rfl (by simp[ah3]) fun H5 L=>?_
 have c0:=L.cell 0 rfl
 have c1:=L.cell 1 rfl
 obtain rfl:m= .mk xk xt xn xa PQ:=xe
 simp only[go_sem,c0,c1,Mt]
 have hp:=px h4 (hG.ext L.fr) (NA.mk (k:=xk) (t:=xt) (n:=xn) (a:=xa) (L.fD (aW PQ,[xkv]) (by simp)).rep) (by omega)
 rw[hx] at hp
 unfold sv at hp
 refine hp.mono ?_
 rintro v H6 ⟨rfl,fB⟩
 have L:=L.ext fB
 simp only[go_sem,sv]
 exact L.fr
theorem A4 {s t:Bs} {n:Nd} (h:dr (aJ (bp 64)) s= .ok n) (hs:sB n=t) (hl:t.length≤65536):xR n=(t,0):=by
 obtain ⟨h1,h2,_⟩:=Dd h
 unfold xR uj
 rw[if_pos h1,hs,if_pos ⟨h2,hl⟩]
theorem abA:eH 40=some (aM [43],6,6,7):=rfl
theorem Vx:eH 41=some (aM [45],6,6,7):=rfl
theorem aec:eH 31=some (bh [111,114],1,1,2):=rfl
theorem dd1:ah4 (-1)=[45,49]:=by
 have:ah4 (-1)=45 :: ah5 1:=rfl
 rw[this,iA (by decide)]; rfl
theorem aed:∃ n,dr ft [111,98,106,101,99,116,32,97,58,115,101,116,40,39,120,39,44,39,121,39,41,59]= .ok n∧gR n=([111,98,106,101,99,116,32,97,58,32,115,101,116,40,39,120,39,44,32,39,121,39,41,59] ++ [10],0):=by
 have h:dr ft [111,98,106,101,99,116,32,97,58,115,101,116,40,39,120,39,44,39,121,39,41,59]= .ok (.mk 1 [] 0 0 [.mk 3 [97] 0 0 [.mk 13 [] 0 9 [.mk 47 [120] 0 13 [],.mk 47 [121] 0 17 []]]]):=by kernel_rfl
 refine ⟨_,h,?_⟩
 obtain ⟨ds,e,h1,_⟩:=De h
 simp only[Nd.mk.injEq,true_and] at e
 subst e
 have ho:sO (.mk 1 [] 0 0 [.mk 3 [97] 0 0 [.mk 13 [] 0 9 [.mk 47 [120] 0 13 [],.mk 47 [121] 0 17 []]]])=true:=by
  unfold sO
  simp only[ae5,decide_eq_true_eq]
  exact ⟨⟨⟨rfl,rfl⟩,rfl⟩,afg.2 fun x hx=>(h1 x hx).1⟩
 have hd:vl (aL (.mk 1 [] 0 0 [.mk 3 [97] 0 0 [.mk 13 [] 0 9 [.mk 47 [120] 0 13 [],.mk 47 [121] 0 17 []]]]))≤64:=A3.2 fun x hx=>(h1 x hx).2
 unfold gR uj
 have hs:sE (aL (.mk 1 [] 0 0 [.mk 3 [97] 0 0 [.mk 13 [] 0 9 [.mk 47 [120] 0 13 [],.mk 47 [121] 0 17 []]]]))=[111,98,106,101,99,116,32,97,58,32,115,101,116,40,39,120,39,44,32,39,121,39,41,59] ++ [10]:=by
  show sE [.mk 3 [97] 0 0 [.mk 13 [] 0 9 [.mk 47 [120] 0 13 [],.mk 47 [121] 0 17 []]]]=_
  rw[sE,AN,ov]; rfl
 rw[if_pos ho,hs,if_pos ⟨hd,by decide⟩]
theorem aee:∃ n,dr (aJ (bp 64)) [40,40,97,41,43,40,98,32,45,32,99,41,41]= .ok n∧xR n=([97,32,43,32,40,98,32,45,32,99,41],0):=by
 have h:dr (aJ (bp 64)) [40,40,97,41,43,40,98,32,45,32,99,41,41]= .ok (.mk 40 [] 0 4 [.mk 48 [97] 0 2 [],.mk 41 [] 0 8 [.mk 48 [98] 0 6 [],.mk 48 [99] 0 10 []]]):=by kernel_rfl
 refine ⟨_,h,A4 h ?_ (by decide)⟩
 rw[jt abA,iU,iU,jt Vx,iU,iU,eu,eu,eu]; rfl
theorem aef:∃ n,dr (aJ (bp 64)) [40,97,32,45,32,98,41,45,99]= .ok n∧xR n=([97,32,45,32,98,32,45,32,99],0):=by
 have h:dr (aJ (bp 64)) [40,97,32,45,32,98,41,45,99]= .ok (.mk 41 [] 0 7 [.mk 41 [] 0 3 [.mk 48 [97] 0 1 [],.mk 48 [98] 0 5 []],.mk 48 [99] 0 8 []]):=by kernel_rfl
 refine ⟨_,h,A4 h ?_ (by decide)⟩
 rw[jt Vx,iU,iU,jt Vx,iU,iU,eu,eu,eu]; rfl
theorem aeg:∃ n,dr (aJ (bp 64)) [110,111,116,32,40,97,32,111,114,32,98,41]= .ok n∧xR n=([110,111,116,32,40,97,32,111,114,32,98,41],0):=by
 have h:dr (aJ (bp 64)) [110,111,116,32,40,97,32,111,114,32,98,41]= .ok (.mk 33 [] 0 0 [.mk 31 [] 0 7 [.mk 48 [97] 0 5 [],.mk 48 [98] 0 10 []]]):=by kernel_rfl
 refine ⟨_,h,A4 h ?_ (by decide)⟩
 rw[qE,iU,jt aec,iU,iU,eu,eu]; rfl
theorem aeh:∃ n,dr (aJ (bp 64)) [40,105,102,32,97,32,116,104,101,110,32,98,32,101,108,115,101,32,99,41,32,43,32,45,32,49]= .ok n∧xR n=([40,105,102,32,97,32,116,104,101,110,32,98,32,101,108,115,101,32,99,41,32,43,32,45,49],0):=by
 have h:dr (aJ (bp 64)) [40,105,102,32,97,32,116,104,101,110,32,98,32,101,108,115,101,32,99,41,32,43,32,45,32,49]= .ok (.mk 40 [] 0 21 [.mk 30 [] 0 1 [.mk 48 [97] 0 4 [],.mk 48 [98] 0 11 [],.mk 48 [99] 0 18 []],.mk 44 [] (-1) 23 []]):=by kernel_rfl
 refine ⟨_,h,A4 h ?_ (by decide)⟩
 rw[jt abA,iU,iU,xB,qF,dd1,eu,eu,eu]; rfl
theorem aei (p:Int):gR (.mk 45 [] 0 p [])=([],1):=by
 unfold gR uj
 rw[if_neg (by unfold sO; simp[kindOf])]
set_option maxHeartbeats 2000000 in
theorem Mu {H:Heap} (hG:bS H):aE afI 9 #[] H fun v H'=>v= .bool true∧Fr [] H H':=by
 refine af (args:=[]) Tryz.func9 acD (ahi rfl) ?_
 have L:=L0 H
 obtain ⟨m0,h0,g0⟩:=aed
 obtain ⟨m1,h1,g1⟩:=aee
 obtain ⟨m2,h2,g2⟩:=aef
 obtain ⟨m3,h3,g3⟩:=aeg
 obtain ⟨m4,h4,g4⟩:=aeh
 obtain ⟨ds,Ii,_,_,q4,q5,q6⟩:=De h0
 have hc:=y6 [111,98,106,101,99,116,32,97,58,115,101,116,40,39,120,39,44,39,121,39,41,59] (by decide) (hG.ext L.fr)
 have a1:=fun {H:Heap} (hG:bS H)=>sP h1 g1 (by decide) hG
 have a2:=fun {H:Heap} (hG:bS H)=>sP h2 g2 (by decide) hG
 have a3:=fun {H:Heap} (hG:bS H)=>sP h3 g3 (by decide) hG
 have a4:=fun {H:Heap} (hG:bS H)=>sP h4 g4 (by decide) hG
 rw[h0] at hc
 unfold sv at hc a1 a2 a3 a4
 simp -implicitDefEqProofs only[go_sem,c9]
 refine hc.mono ?_
 rintro v H1 ⟨hv,bY⟩
 obtain ⟨xk,xt,xn,xa,PQ,xkv,xe,rfl,jF⟩:=hv.open
 have L:=(L.ext bY).add (L.built jF)
 simp -implicitDefEqProofs only[go_sem]
 refine L.aS fun b1 H2 L=>?_
 simp -implicitDefEqProofs only[go_sem]
 refine L.aS fun b2 H3 L=>?_
 simp -implicitDefEqProofs only[go_sem]
 refine L.ae 1 rfl rfl (ax (dp (L.fD (aW PQ,[xkv]) (by simp)))) fun H4 L=>?_
 simp -implicitDefEqProofs only[go_sem]
 refine L.ae 0 rfl rfl (by simp[ah3]) fun H5 L=>?_
 have c0:=L.cell 0 rfl
 have c1:=L.cell 1 rfl
 obtain rfl:m0= .mk xk xt xn xa PQ:=xe
 have hk:PQ.length≤65537:=by
  cases Ii; exact q6
 have hp:=pp q4 (hG.ext L.fr) (NA.mk (k:=xk) (t:=xt) (n:=xn) (a:=xa) (L.fD (aW PQ,[xkv]) (by simp)).rep) (by show wN _ + 2 * PQ.length≤_; omega)
 rw[g0] at hp
 unfold sv at hp
 unfold sv at c1
 simp -implicitDefEqProofs only[go_sem,c0,c1,Mt]
 refine hp.mono ?_
 rintro v H6 ⟨rfl,fB⟩
 have L:=L.ext fB
 have NL:=pp (x:=.mk 45 [] 0 0 []) (by rw[ny]; exact ⟨by decide,by decide,trivial⟩) (hG.ext L.fr) (NA.mk (k:=45) (t:=[]) (n:=0) (a:=0) (kg (B:=fun _=>False) [] (by simp))) (by decide)
 rw[aei] at NL
 unfold sv at NL
 simp -implicitDefEqProofs only[go_sem]
 refine NL.mono ?_
 rintro v H7 ⟨rfl,fK⟩
 have L:=L.ext fK
 have c0:=L.cell 0 rfl
 simp -implicitDefEqProofs only[go_sem,c0,sv,cM,Mt]
 refine (a1 (hG.ext L.fr)).mono ?_
 rintro v H8 ⟨rfl,dy⟩
 have L:=L.ext dy
 simp -implicitDefEqProofs only[go_sem]
 refine (a2 (hG.ext L.fr)).mono ?_
 rintro v H9 ⟨rfl,dB⟩
 have L:=L.ext dB
 simp -implicitDefEqProofs only[go_sem]
 refine (a3 (hG.ext L.fr)).mono ?_
 rintro v kb ⟨rfl,dK⟩
 have L:=L.ext dK
 simp -implicitDefEqProofs only[go_sem]
 refine (a4 (hG.ext L.fr)).mono ?_
 rintro v qx ⟨rfl,nR⟩
 have L:=L.ext nR
 simp -implicitDefEqProofs only[go_sem]
 exact L.fr
structure Ot where
 s:Bs
 n:Nat
 b:Bool
namespace Ot
def cells (o:Ot):List Value:=[sv o.s,.int .i64 o.n,.bool o.b]
def val (o:Ot):Value:=.agg #[sv o.s,.int .i64 o.n,.bool o.b]
def fD (o:Ot):iH:=.agg [.v (sv o.s),.v (.int .i64 o.n),.v (.bool o.b)]
def word (s:Bs):Ot:=⟨s,0,true⟩
def bad:Ot:=⟨[],0,false⟩
def cat (a b:Ot):Ot:=⟨a.s ++ b.s,max a.n b.n,a.b && b.b⟩
def il (a:Ot):Ot:=⟨a.s,a.n + 1,a.b⟩
def au (a:Bs) (x:Ot) (b:Bs):Ot:=(word a).cat (x.cat (word b))
def dX:Bool→List Ot→Ot
 | _,[]=>word []
 | f,x :: r=>(if f then x else (word [44,32]).cat x).cat (dX false r)
end Ot
structure Is (o:Ot) (k:Bool) (t:Bs) (d w:Nat):Prop where
 ok:o.b=k
 val:k=true→o.s=t∧o.n=d
 len:o.s.length≤w
 dep:o.n≤w
theorem Is.cat {a b:Ot} {k1 k2:Bool} {t1 t2:Bs} {d1 d2 w1 w2:Nat} (h:Is a k1 t1 d1 w1) (h':Is b k2 t2 d2 w2):Is (a.cat b) (k1 && k2) (t1 ++ t2) (max d1 d2) (w1 + w2):=by
 refine ⟨?_,fun hk=>?_,?_,?_⟩
 ·show (a.b && b.b)=_
  rw[h.ok,h'.ok]
 ·rw[ae5] at hk
  obtain ⟨e1,e2⟩:=h.val hk.1
  obtain ⟨e3,e4⟩:=h'.val hk.2
  show a.s ++ b.s=_∧max a.n b.n=_
  rw[e1,e2,e3,e4]; exact ⟨rfl,rfl⟩
 ·show (a.s ++ b.s).length≤_
  rw[ah1]
  have:=h.len
  have:=h'.len
  omega
 ·show max a.n b.n≤_
  have:=h.dep
  have:=h'.dep
  omega
theorem Is.word (s:Bs):Is (Ot.word s) true s 0 s.length:=⟨rfl,fun _=>⟨rfl,rfl⟩,afJ _,ahn _⟩
theorem Is.bad (t:Bs) (d w:Nat):Is Ot.bad false t d w:=⟨rfl,(fun h=>nomatch h),ahn _,ahn _⟩
theorem Is.il {a:Ot} {k:Bool} {t:Bs} {d w:Nat} (h:Is a k t d w):Is a.il k t (d + 1) (w + 1):=by
 refine ⟨h.ok,fun hk=>?_,Nat.le_succ_of_le h.len,Nat.succ_le_succ h.dep⟩
 obtain ⟨e1,e2⟩:=h.val hk
 exact ⟨e1,by show a.n + 1=_; rw[e2]⟩
theorem Is.to {a:Ot} {k k':Bool} {t t':Bs} {d d' w w':Nat} (h:Is a k t d w) (hk:k=k') (ht:k=true→t=t'∧d=d') (hw:w≤w'):Is a k' t' d' w':=by
 refine ⟨h.ok.trans hk,fun e=>?_,ah8 h.len hw,ah8 h.dep hw⟩
 obtain ⟨e1,e2⟩:=h.val (hk.trans e)
 obtain ⟨e3,e4⟩:=ht (hk.trans e)
 exact ⟨e1.trans e3,e2.trans e4⟩
theorem Is.au {x:Ot} {k:Bool} {t:Bs} {d w:Nat} (a b:Bs) (h:Is x k t d w):Is (Ot.au a x b) k (a ++ (t ++ b)) d (a.length + w + b.length):=
 ((Is.word a).cat (h.cat (Is.word b))).to (by simp) (fun _=>⟨rfl,by simp⟩) (by omega)
theorem ah (o:Ot):∀ u ∈ o.cells,u.oneCell'=true:=by
 intro u hu
 unfold Ot.cells at hu
 simp only[afa,ahy,or_false] at hu
 rcases hu with rfl | rfl | rfl <;> rfl
theorem aB (H:Heap):aE afI 76 #[] H fun v H'=>v=Ot.bad.val∧Fr [] H H':=by
 refine af (args:=[]) Tryz.func76 Z7 (ahi rfl) ?_
 have L:=L0 H
 simp only[go_sem,c76]
 refine L.aS fun b H1 L=>?_
 simp only[go_sem]
 refine L.ae 0 rfl rfl (ah Ot.bad) fun H2 L=>?_
 have c0:=L.cell 0 rfl
 simp only[go_sem,c0]
 exact ⟨rfl,L.fr⟩
theorem aX (s:Bs) (H:Heap):aE afI 77 #[sv s] H fun v H'=>v=(Ot.word s).val∧Fr [] H H':=by
 refine af (args:=[_]) Tryz.func77 Z9 (ahi rfl) ?_
 have L:=L0 H
 simp only[go_sem,c77]
 refine L.aS fun b H1 L=>?_
 simp only[go_sem,sv]
 refine L.ae 0 rfl rfl (ah (Ot.word s)) fun H2 L=>?_
 have c0:=L.cell 0 rfl
 simp only[go_sem,c0]
 exact ⟨rfl,L.fr⟩
theorem bB (a b:Ot) (h:a.s.length + b.s.length≤140737488355328) (H:Heap):aE afI 78 #[a.val,b.val] H fun v H'=>v=(a.cat b).val∧Fr [] H H':=by
 refine af (args:=[_,_]) Tryz.func78 aab (ahi rfl) ?_
 have L:=L0 H
 unfold Ot.val sv
 simp only[go_sem,c78]
 refine L.aS fun b1 H1 L=>?_
 simp only[go_sem]
 refine L.aS fun b2 H2 L=>?_
 simp only[go_sem]
 refine L.aS fun b3 H3 L=>?_
 have c1:=L.cell 1 rfl
 have c2:=L.cell 2 rfl
 have hm:(if (b.n:Int) > (a.n:Int) then (b.n:Int) else (a.n:Int))=((max a.n b.n:Nat):Int):=by
  split <;> omega
 have hb:(bif a.b then b.b else false)=(a.b && b.b):=by cases a.b <;> rfl
 simp only[go_sem,c1,c2,aI,fU,hm,hb]
 refine ⟨by omega,L.ae 0 rfl rfl (ah (a.cat b)) fun H4 L=>?_⟩
 have c0:=L.cell 0 rfl
 simp only[go_sem,c0]
 exact ⟨rfl,L.fr⟩
theorem iV (a:Ot) (h:a.n≤140737488355328) (H:Heap):aE afI 82 #[a.val] H fun v H'=>v=a.il.val∧Fr [] H H':=by
 refine af (args:=[_]) Tryz.func82 aai (ahi rfl) ?_
 have L:=L0 H
 have hw:afd.wrap ((a.n:Int) + 1)=((a.n + 1:Nat):Int):=by rw[aV _ (by omega) (by omega)]; omega
 unfold Ot.val sv
 simp only[go_sem,c82]
 refine L.aS fun b1 H1 L=>?_
 simp only[go_sem]
 refine L.aS fun b2 H2 L=>?_
 have c1:=L.cell 1 rfl
 simp only[go_sem,c1,hw]
 refine L.ae 0 rfl rfl (ah a.il) fun H3 L=>?_
 have c0:=L.cell 0 rfl
 simp only[go_sem,c0]
 exact ⟨rfl,L.fr⟩
theorem dw (f:Bool) (a b:Bs) (H:Heap):aE afI 86 #[.bool f,sv a,sv b] H fun v H'=>v=sv (if f then a else b)∧H'=H:=by
 refine af (args:=[_,_,_]) Tryz.func86 aap (ahi rfl) ?_
 cases f <;> simp only[go_sem,c86]
theorem bK (a b:Bs) (x:Ot) (h:a.length + x.s.length + b.length≤140737488355328) (H:Heap):aE afI 83 #[sv a,x.val,sv b] H fun v H'=>v=(Ot.au a x b).val∧Fr [] H H':=by
 refine af (args:=[_,_,_]) Tryz.func83 aak (ahi rfl) ?_
 have L:=L0 H
 have hx:x.val= .agg #[sv x.s,.int .i64 x.n,.bool x.b]:=rfl
 rw[hx]
 simp only[go_sem,c83]
 refine L.aS fun b1 H1 L=>?_
 simp only[go_sem]
 refine L.aS fun b2 H2 L=>?_
 have c1:=L.cell 1 rfl
 simp only[go_sem,c1]
 refine (aX a H2).mono ?_
 rintro v H3 ⟨rfl,hf⟩
 have L:=L.ext hf
 have c1:=L.cell 1 rfl
 simp only[go_sem,c1]
 refine (aX b H3).mono ?_
 rintro v H4 ⟨rfl,hf⟩
 have L:=L.ext hf
 have c1:=L.cell 1 rfl
 rw[← hx]
 have hb:(Ot.word b).s.length=b.length:=rfl
 have ha:(Ot.word a).s.length=a.length:=rfl
 have hc:(x.cat (Ot.word b)).s.length=x.s.length + b.length:=by show (x.s ++ b).length=_; simp
 simp only[go_sem,c1]
 refine ⟨hx.symm,(bB x (Ot.word b) (by omega) H4).mono ?_⟩
 rintro v H5 ⟨rfl,hf⟩
 have L:=L.ext hf
 simp only[go_sem]
 refine (bB (Ot.word a) (x.cat (Ot.word b)) (by omega) H5).mono ?_
 rintro v H6 ⟨rfl,hf⟩
 have L:=L.ext hf
 have hv:((Ot.word a).cat (x.cat (Ot.word b))).val= .agg #[sv ((Ot.word a).cat (x.cat (Ot.word b))).s,.int .i64 ((Ot.word a).cat (x.cat (Ot.word b))).n,.bool ((Ot.word a).cat (x.cat (Ot.word b))).b]:=rfl
 rw[hv]
 simp only[go_sem]
 refine L.ae 0 rfl rfl (ah ((Ot.word a).cat (x.cat (Ot.word b)))) fun H7 L=>?_
 have c0:=L.cell 0 rfl
 unfold Ot.cells at c0
 simp only[go_sem,c0]
 exact ⟨rfl,L.fr⟩
theorem Ot.xV (f:Bool) (x:Ot) (r:List Ot):Ot.dX f (x :: r)=(if f then x else (Ot.word [44,32]).cat x).cat (Ot.dX false r):=rfl
def qN (f:Nd→Bs):Bool→List Nd→Bs
 | _,[]=>[]
 | b,x :: r=>(if b then [] else [44,32]) ++ (f x ++ qN f false r)
def uk (f:Nd→Nat):List Nd→Nat
 | []=>0
 | x :: r=>max (f x) (uk f r)
def nz (os:List Ot) (ks:List Nd) (kf:Nd→Bool) (tf:Nd→Bs) (df wf:Nd→Nat):Prop:=os.length=ks.length∧∀ i (h:i < os.length) (h':i < ks.length),Is os[i] (kf ks[i]) (tf ks[i]) (df ks[i]) (wf ks[i])
theorem nz.nil {kf:Nd→Bool} {tf:Nd→Bs} {df wf:Nd→Nat}:nz [] [] kf tf df wf:=⟨rfl,fun i h=>by simp at h⟩
theorem nz.snoc {os:List Ot} {ks:List Nd} {kf:Nd→Bool} {tf:Nd→Bs} {df wf:Nd→Nat} {o:Ot} {x:Nd} (h:nz os ks kf tf df wf) (ho:Is o (kf x) (tf x) (df x) (wf x)):nz (os ++ [o]) (ks ++ [x]) kf tf df wf:=by
 refine ⟨by simp[h.1],fun i h1 h2=>?_⟩
 have hl:=h.1
 rcases ae8 i os.length with q | q
 ·rw[aiS q,aiS (by omega)]
  exact h.2 i q (by omega)
 ·simp only[ah1,afK,aht] at h1
  obtain rfl:i=os.length:=by omega
  rw[aiW (afJ _),aiW (by omega)]
  simp only[hl,Nat.sub_self,aiK]
  exact ho
theorem nz.tail {o:Ot} {os:List Ot} {x:Nd} {ks:List Nd} {kf:Nd→Bool} {tf:Nd→Bs} {df wf:Nd→Nat} (h:nz (o :: os) (x :: ks) kf tf df wf):Is o (kf x) (tf x) (df x) (wf x)∧nz os ks kf tf df wf:=
 ⟨h.2 0 (by simp) (by simp),by have:=h.1; simpa using this,fun i h1 h2=>h.2 (i + 1) (by simpa using h1) (by simpa using h2)⟩
theorem nz.dX {kf:Nd→Bool} {tf:Nd→Bs} {df wf:Nd→Nat}:∀ {os:List Ot} {ks:List Nd} (f:Bool),nz os ks kf tf df wf→Is (Ot.dX f os) (ks.all kf) (qN tf f ks) (uk df ks) ((ks.map wf).sum + 2 * ks.length)
 | [],[],f,_=>(Is.word []).to rfl (fun _=>⟨rfl,rfl⟩) (by simp)
 | o :: os,x :: ks,f,h=>by
   obtain ⟨h1,h2⟩:=h.tail
   have i:=nz.dX false h2
   rw[Ot.xV]
   cases f with
   | true=>exact (h1.cat i).to (by simp) (fun _=>⟨rfl,rfl⟩) (by simp; omega)
   | false=>exact (((Is.word [44,32]).cat h1).cat i).to (by simp) (fun _=>⟨by simp[qN],by simp[uk]⟩) (by simp; omega)
 | [],_ :: _,_,h=>by have:=h.1; simp at this
 | _ :: _,[],_,h=>by have:=h.1; simp at this
theorem Ot.Df:∀ (os:List Ot) (f:Bool) (i:Nat) (h:i < os.length),(Ot.dX f (os.take (i + 1))).s=(Ot.dX f (os.take i)).s ++ ((if i=0 then (if f then [] else [44,32]) else [44,32]) ++ os[i].s)∧
 (Ot.dX f (os.take (i + 1))).n=max (Ot.dX f (os.take i)).n os[i].n∧(Ot.dX f (os.take (i + 1))).b=((Ot.dX f (os.take i)).b && os[i].b)
 | x :: r,f,0,_=>by cases f <;> simp[Ot.dX,Ot.cat,Ot.word]
 | x :: r,f,i + 1,h=>by
   obtain ⟨h1,h2,h3⟩:=Ot.Df r false i (by simpa using h)
   simp only[ahq,Ot.xV,ah2]
   refine ⟨?_,?_,?_⟩
   ·show _ ++ (Ot.dX false (r.take (i + 1))).s=_ ++ (Ot.dX false (r.take i)).s ++ _
    rw[h1]
    have:(if i=0 then (if (false:Bool)=true then ([]:Bs) else [44,32]) else [44,32])=[44,32]:=by split <;> rfl
    rw[this]
    simp
   ·show max _ (Ot.dX false (r.take (i + 1))).n=max (max _ (Ot.dX false (r.take i)).n) _
    rw[h2]; omega
   ·show (_ && (Ot.dX false (r.take (i + 1))).b)=((_ && (Ot.dX false (r.take i)).b) && _)
    rw[h3,aiR]
theorem Ot.Mv (os:List Ot) (i:Nat) (h:i < os.length):Ot.dX true (os.take (i + 1))=(if i=0 then Ot.dX true (os.take i) else (Ot.dX true (os.take i)).cat (Ot.word [44,32])).cat os[i]:=by
 obtain ⟨h1,h2,h3⟩:=Ot.Df os true i h
 have ext:∀ a b:Ot,a.s=b.s→a.n=b.n→a.b=b.b→a=b:=fun a b e1 e2 e3=>by cases a; cases b; simp_all
 rcases aiP i with rfl | hp
 ·refine ext _ _ ?_ ?_ ?_
  ·rw[h1]; simp[Ot.cat]
  ·rw[h2]; rfl
  ·rw[h3]; rfl
 ·have:i≠0:=by omega
  rw[if_neg this]
  refine ext _ _ ?_ ?_ ?_
  ·rw[h1,if_neg this]; simp[Ot.cat,Ot.word]
  ·rw[h2]; simp[Ot.cat,Ot.word]
  ·rw[h3]; simp[Ot.cat,Ot.word]
def sQ (os:List Ot):Nat:=(os.map fun o=>o.s.length + 2).sum
theorem zF:∀ (os:List Ot) (i:Nat) (h:i < os.length),sQ (os.take (i + 1))=sQ (os.take i) + (os[i].s.length + 2)
 | x :: r,0,_=>by simp[sQ]
 | x :: r,i + 1,h=>by
   have:=zF r i (by simpa using h)
   simp only[sQ,ahq,afi,aiQ,ah2] at this ⊢
   omega
theorem GF:∀ (os:List Ot) (i:Nat),sQ (os.take i)≤sQ os
 | [],i=>by simp[sQ]
 | x :: r,0=>ahn _
 | x :: r,i + 1=>by
   have:=GF r i
   simp only[sQ,ahq,afi,aiQ] at this ⊢
   omega
theorem GG:∀ (os:List Ot) (f:Bool),(Ot.dX f os).s.length≤sQ os
 | [],f=>ahn _
 | x :: r,f=>by
   have:=GG r false
   rw[Ot.xV]
   show ((if f then x else (Ot.word [44,32]).cat x).s ++ (Ot.dX false r).s).length≤_
   simp only[sQ,afi,aiQ,ah1] at this ⊢
   cases f with
   | true=>simp only[if_true]; omega
   | false=>
     show ([44,32] ++ x.s).length + _≤_
     simp only[ah1,afK,aht]; omega
theorem Vy (o:Ot):o.cells.length=3:=rfl
set_option maxHeartbeats 2000000 in
theorem oG (os:List Ot) {H:Heap} {a:Option Addr} {c:Nat} (hr:gn Ot.cells H a os) (hc:os.length≤maxLen) (hl:sQ os≤140737488355320):aE afI 87 #[.slice a os.length c] H fun v H'=>v=(Ot.dX true os).val∧Fr [] H H':=by
 refine af (args:=[_]) Tryz.func87 aaq (ahi rfl) ?_
 have L:=L0 H
 simp only[go_sem,c87]
 refine L.aS fun b1 H1 L=>?_
 simp only[go_sem]
 refine (aX [] H1).mono ?_
 rintro v H2 ⟨rfl,hf⟩
 have L:=L.ext hf
 have hv:∀ o:Ot,o.val= .agg #[sv o.s,.int .i64 o.n,.bool o.b]:=fun o=>rfl
 rw[hv (Ot.word [])]
 simp only[go_sem]
 refine L.aS fun b2 H3 L=>?_
 simp only[go_sem]
 refine L.ae 0 rfl rfl (ah (Ot.word [])) fun H4 L=>?_
 simp only[go_sem]
 refine bC (fun (i:Nat) H'=>i≤os.length∧Lv [] H [] (fun _=>True) H' [.dz b2 62 (Ot.dX true (os.take i)).cells,.dz b1 62 Ot.bad.cells] [])
  (fun i=>[(0,.slice a os.length c),(2,.pointer (some ⟨b1,0,none⟩)),(3,.pointer (some ⟨b2,0,none⟩)),(4,.int .i64 i)]) (fun i=>os.length - i) 0 ?_ ?_ ?_
 ·exact ⟨ahn _,L⟩
 ·simp only[go_sem]
 ·rintro i H5 ⟨hi,L⟩
  have ck:=L.cell 0 rfl
  unfold Ot.cells at ck
  rcases ae8 i os.length with ba | nf
  ·have h0:(0:Int)≤(i:Int):=by omega
   have h1:(i:Int) < (os.length:Int):=by omega
   have gl:=dD ba hc
   have eZ:=Ot.Mv os i ba
   have l1:=GG (os.take i) true
   have l2:=zF os i ba
   have l3:=GF os (i + 1)
   have fin:∀ {H6:Heap} (o:Ot),Lv [] H [] (fun _=>True) H6 [.dz b2 62 o.cells,.dz b1 62 Ot.bad.cells] []→∃ b oo,a=some ⟨b,oo,none⟩∧ct H6 b (oo + i * 3 + 0)=some (sv os[i].s)∧ct H6 b (oo + i * 3 + 1)=some (.int .i64 os[i].n)∧ct H6 b (oo + i * 3 + 2)=some (.bool os[i].b):=fun o L=>by
    obtain ⟨b,oo,e1,e2⟩:=gn.get (hr.ext L.fr) Vy i ba (by decide)
    exact ⟨b,oo,e1,e2 0 (by decide),e2 1 (by decide),e2 2 (by decide)⟩
   obtain ⟨b,oo,rfl,_⟩:=fin _ L
   have cs:∀ {H6:Heap} (o:Ot),Lv [] H [] (fun _=>True) H6 [.dz b2 62 o.cells,.dz b1 62 Ot.bad.cells] []→ct H6 b (oo + i * 3 + 0)=some (sv os[i].s)∧ct H6 b (oo + i * 3 + 1)=some (.int .i64 os[i].n)∧ct H6 b (oo + i * 3 + 2)=some (.bool os[i].b):=fun o L=>by
    obtain ⟨b',oo',e1,e2⟩:=fin o L
    cases e1
    exact e2
   clear fin
   obtain ⟨q0,q1,q2⟩:=cs _ L
   rcases aiP i with uG | tE
   ·have hg:¬ ((0:Int) < (i:Int)):=by omega
    rw[if_pos uG] at eZ
    simp only[ahl] at q0
    simp only[go_sem,h1,hg,h0,ck,q0,q1,q2]
    refine (bB (Ot.dX true (os.take i)) (os[i]) (by omega) _).mono ?_
    rintro v H6 ⟨rfl,hf⟩
    have L:=L.ext hf
    rw[hv (Ot.cat (Ot.dX true (os.take i)) (os[i]))]
    simp only[go_sem]
    refine L.ae 0 rfl rfl (ah (Ot.cat (Ot.dX true (os.take i)) (os[i]))) fun H7 L=>?_
    rw[← eZ] at L
    simp only[go_sem]
    refine aj (i + 1) (by omega) ?_ ⟨by omega,L⟩
    simp only[go_sem,gl]
   ·have hg:(0:Int) < (i:Int):=by omega
    rw[if_neg (by omega)] at eZ
    simp only[go_sem,h1,hg,ck]
    refine (aX [44,32] H5).mono ?_
    rintro v H6 ⟨rfl,hf⟩
    have L:=L.ext hf
    have ck:=L.cell 0 rfl
    unfold Ot.cells at ck
    simp only[go_sem,ck]
    have IB:(Ot.word [44,32]).s.length=2:=rfl
    refine (bB (Ot.dX true (os.take i)) (Ot.word [44,32]) (by omega) _).mono ?_
    rintro v H6 ⟨rfl,hf⟩
    have L:=L.ext hf
    rw[hv (Ot.cat (Ot.dX true (os.take i)) (Ot.word [44,32]))]
    simp only[go_sem]
    refine L.ae 0 rfl rfl (ah (Ot.cat (Ot.dX true (os.take i)) (Ot.word [44,32]))) fun H7 L=>?_
    have ck:=L.cell 0 rfl
    unfold Ot.cells at ck
    obtain ⟨q0,q1,q2⟩:=cs _ L
    simp only[ahl] at q0
    have hl3:((Ot.dX true (os.take i)).cat (Ot.word [44,32])).s.length=(Ot.dX true (os.take i)).s.length + 2:=by show (_ ++ [44,32]).length=_; simp
    simp only[go_sem,h0,h1,ck,q0,q1,q2]
    refine (bB ((Ot.dX true (os.take i)).cat (Ot.word [44,32])) (os[i]) (by omega) _).mono ?_
    rintro v H6 ⟨rfl,hf⟩
    have L:=L.ext hf
    rw[hv (Ot.cat ((Ot.dX true (os.take i)).cat (Ot.word [44,32])) (os[i]))]
    simp only[go_sem]
    refine L.ae 0 rfl rfl (ah (Ot.cat ((Ot.dX true (os.take i)).cat (Ot.word [44,32])) (os[i]))) fun H7 L=>?_
    rw[← eZ] at L
    simp only[go_sem]
    refine aj (i + 1) (by omega) ?_ ⟨by omega,L⟩
    simp only[go_sem,gl]
  ·have h1:¬ ((i:Int) < (os.length:Int)):=by omega
   obtain rfl:i=os.length:=by omega
   rw[ain] at L ck
   simp only[go_sem,h1,ck]
   refine L.ae 1 rfl rfl (ah (Ot.dX true os)) fun H6 L=>?_
   have c1:=L.cell 1 rfl
   simp only[go_sem,c1]
   exact ⟨rfl,L.fr⟩
theorem zG (s:Bs) (H:Heap):aE afI 107 #[sv s] H fun r H'=>r= .bool (bM s)∧H'=H:=by
 refine af (args:=[_]) Tryz.func107 SI (ahi rfl) ?_
 unfold sv
 by_cases h0:s.length=0
 ·have hz:(s.length:Int) < 1:=by omega
  simp -implicitDefEqProofs only[go_sem,c107,aI,hz]
  simp[bM,h0]
 have hz:¬ (s.length:Int) < 1:=by omega
 by_cases BR:16 < s.length
 ·have qq:(16:Int) < (s.length:Int):=by omega
  simp -implicitDefEqProofs only[go_sem,c107,aI,hz,qq]
  simp[bM,show ¬ s.length≤16 by omega]
 have qq:¬ (16:Int) < (s.length:Int):=by omega
 have hp:(0:Int) < (s.length:Int):=by omega
 have vr:decide (0 < s.length)=true:=decide_eq_true (by omega)
 have ju:decide (s.length≤16)=true:=decide_eq_true (by omega)
 unfold bM
 rw[vr,ju]
 generalize hc:s.getD 0 0=c
 by_cases l1:(c.toNat:Int) < 97
 ·simp -implicitDefEqProofs only[go_sem,c107,aI,hz,qq,hp,hc,l1]
  simp[fV,show ¬ (97:Int)≤c.toNat by omega]
 by_cases l2:(122:Int) < (c.toNat:Int)
 ·simp -implicitDefEqProofs only[go_sem,c107,aI,hz,qq,hp,hc,l1,l2]
  simp[fV,show ¬ (c.toNat:Int)≤122 by omega]
 have hl:fV c=true:=by simp[fV]; omega
 rw[hl]
 simp -implicitDefEqProofs only[go_sem,c107,aI,hz,qq,hp,hc,l1,l2]
 refine bC (fun (i:Nat) H'=>i≤s.length∧(s.drop i).all bg=s.all bg∧H'=H)
  (fun i=>[(0,.string ⟨⟨s⟩⟩),(3,.int .i64 i)]) (fun i=>s.length - i) 0 ?_ ?_ ?_
 ·exact ⟨ahn _,rfl,rfl⟩
 ·simp -implicitDefEqProofs only[go_sem]
 ·rintro i H' ⟨hi,hv,rfl⟩
  rcases ae8 i s.length with ba | nf
  ·have di:(i:Int) < (s.length:Int):=by omega
   have uG:(0:Int)≤(i:Int):=by omega
   have hw:=nK i s.length ba (by unfold maxLen; omega)
   have hg:s.getD i 0=s[i]:=by simp[ba]
   rw[List.drop_eq_getElem_cons ba,afb] at hv
   cases e:bg s[i]
   ·have dH:((s[i].toNat:Int) < 97∨¬ (s[i].toNat:Int) < 97∧(122:Int) < (s[i].toNat:Int))∧((s[i].toNat:Int) < 48∨¬ (s[i].toNat:Int) < 48∧(57:Int) < (s[i].toNat:Int))∧¬ (s[i].toNat:Int)=45:=by
     simp only[bg,fV,dh,Bool.or_eq_false_iff,Bool.and_eq_false_iff,decide_eq_false_iff_not] at e
     omega
    obtain ⟨g1 | ⟨g1,g2⟩,g3 | ⟨g3,g4⟩,g5⟩:=dH
    ·simp -implicitDefEqProofs only[go_sem,di,uG,aI,hg,g1,g3,g5]
     rw[← hv,e,ahN]
    ·simp -implicitDefEqProofs only[go_sem,di,uG,aI,hg,g1,g3,g4,g5]
     rw[← hv,e,ahN]
    ·exfalso; omega
    ·simp -implicitDefEqProofs only[go_sem,di,uG,aI,hg,g1,g2,g3,g4,g5]
     rw[← hv,e,ahN]
   ·have dj:(¬ (s[i].toNat:Int) < 97∧¬ (122:Int) < (s[i].toNat:Int))∨((s[i].toNat:Int) < 97∧¬ (s[i].toNat:Int) < 48∧¬ (57:Int) < (s[i].toNat:Int))∨((s[i].toNat:Int) < 97∧(s[i].toNat:Int) < 48∧(s[i].toNat:Int)=45):=by
     simp only[bg,fV,dh,Bool.or_eq_true,ae5,decide_eq_true_eq] at e
     omega
    have next:∀ {σ:bf} {k:lF},True:=trivial
    obtain ⟨g1,g2⟩ | ⟨g1,g3,g4⟩ | ⟨g1,g3,g5⟩:=dj
    ·simp -implicitDefEqProofs only[go_sem,di,uG,aI,hg,g1,g2]
     refine aj (i + 1) (by show s.length - (i + 1) < s.length - i; omega) ?_ ⟨ba,?_,rfl⟩
     ·simp -implicitDefEqProofs only[go_sem,hw]
     ·rw[← hv,e,ahG]
    ·simp -implicitDefEqProofs only[go_sem,di,uG,aI,hg,g1,g3,g4]
     refine aj (i + 1) (by show s.length - (i + 1) < s.length - i; omega) ?_ ⟨ba,?_,rfl⟩
     ·simp -implicitDefEqProofs only[go_sem,hw]
     ·rw[← hv,e,ahG]
    ·have rC:(45:Int) < 97:=by decide
     have Ai:(45:Int) < 48:=by decide
     simp -implicitDefEqProofs only[go_sem,di,uG,aI,hg,g5,rC,Ai]
     refine aj (i + 1) (by show s.length - (i + 1) < s.length - i; omega) ?_ ⟨ba,?_,rfl⟩
     ·simp -implicitDefEqProofs only[go_sem,hw]
     ·rw[← hv,e,ahG]
  ·have di:¬ (i:Int) < (s.length:Int):=by omega
   simp -implicitDefEqProofs only[go_sem,di]
   rw[afO nf] at hv
   rw[← hv]; rfl
theorem gI (s:Bs) (H:Heap):aE afI 85 #[sv s] H fun r H'=>r= .bool (aT s)∧Fr [] H H':=by
 refine af (args:=[_]) Tryz.func85 aan (ahi rfl) ?_
 unfold aT
 simp -implicitDefEqProofs only[go_sem,c85]
 refine (zG s H).mono ?_
 rintro v H1 ⟨rfl,rfl⟩
 cases bM s with
 | false=>
   simp -implicitDefEqProofs only[go_sem]
   exact Fr.refl _ _
 | true=>
   simp -implicitDefEqProofs only[go_sem]
   refine (BS s H1).mono ?_
   rintro v H2 ⟨rfl,hf⟩
   simp -implicitDefEqProofs only[go_sem]
   exact hf
theorem mf {k t n a} {ks:List Nd} {aa:Option Addr} {c:Nat} (m:Int) (H:Heap):aE afI 75 #[.agg #[.int .i64 k,sv t,.int .i64 n,.int .i64 a,.slice aa ks.length c],.int .i64 m] H fun r H'=>r= .bool (decide (t=[]) && (decide (n=0) && decide ((ks.length:Int)=m)))∧Fr [] H H':=by
 refine af (args:=[_,_]) Tryz.func75 Z5 (ahi rfl) ?_
 have L:=L0 H
 have hs:=cW t
 unfold sv
 simp -implicitDefEqProofs only[go_sem,c75]
 refine L.aS fun b1 H1 L=>?_
 have c1:=L.cell 0 rfl
 by_cases h1:t=[]
 ·by_cases h2:n=0
  ·simp -implicitDefEqProofs only[go_sem,c1,hs,h1,h2,cM]
   exact L.fr
  ·simp -implicitDefEqProofs only[go_sem,c1,hs,h1,h2,cM]
   exact L.fr
 ·simp -implicitDefEqProofs only[go_sem,c1,hs,h1,cM]
  exact L.fr
theorem Mw {n:Nat} (h:n < 10):IntKind.u8.wrap (afd.wrap (48 + (n:Int)))=((48 + n:Nat):Int):=by
 rw[aV _ (by omega) (by omega),IntKind.wrap_u8]
 omega
theorem vP {H:Heap} {b n:Nat} (hn:n < 10) (hc:∀ o,ct H b o=[Value.int .u8 ((48 + n:Nat):Int)][o]?):pJ H (some (.slice (some ⟨b,0,none⟩) 1 1))=some (.string ⟨⟨[UInt8.ofNat (48 + n)]⟩⟩):=by
 refine BsR.Bb (l:=[UInt8.ofNat (48 + n)]) 1 (.inr ⟨b,0,rfl,fun j hj=>?_⟩)
 obtain rfl:j=0:=by simpa using hj
 rw[hc]
 have:(UInt8.ofNat (48 + n)).toNat=48 + n:=by
  rw[UInt8.toNat_ofNat']; omega
 show _=some (Value.int .u8 ((UInt8.ofNat (48 + n)).toNat:Int))
 rw[this]; rfl
theorem qa {n:Nat} (hn:n < 10) (H:Heap):aE afI 109 #[.int .i64 n] H fun r H'=>r=sv (ah5 n)∧Fr [] H H':=by
 refine af (args:=[_]) aiZ D3 (ahi rfl) ?_
 have L:=L0 H
 have h0:¬ (n:Int) < 0:=by omega
 have Bg:(n:Int) < 10:=by omega
 have hd:=Mw hn
 rw[iA hn]
 simp -implicitDefEqProofs only[go_sem,c109,h0,Bg,hd]
 refine L.bc fun b1 H1 L=>?_
 have c1:=vP hn (L.cell 0 rfl)
 simp -implicitDefEqProofs only[go_sem,c1,sv]
 exact L.fr
theorem xW:∀ (N n:Nat),n≤N→(n:Int)≤1000000000000000→∀ (H:Heap),aE afI 109 #[.int .i64 n] H fun r H'=>r=sv (ah5 n)∧Fr [] H H':=by
 intro N
 induction N with
 | zero=>
   intro n hn _ H
   exact qa (by omega) H
 | succ N ih=>
   intro n hn hb H
   by_cases Bg:n < 10
   ·exact qa Bg H
   refine af (args:=[_]) aiZ D3 (ahi rfl) ?_
   have L:=L0 H
   have h0:¬ (n:Int) < 0:=by omega
   have aej:¬ (n:Int) < 10:=by omega
   have e1:afd.wrap ((n:Int).tdiv 10)=((n / 10:Nat):Int):=by
    rw[Int.tdiv_eq_ediv_of_nonneg (by omega),aV _ (by omega) (by omega)]; omega
   have e2:(n:Int).tmod 10=((n % 10:Nat):Int):=by rw[Int.tmod_eq_emod_of_nonneg (by omega)]; omega
   have hd:=Mw (n:=n % 10) (by omega)
   have hlen:(ah5 (n / 10)).length≤16:=by
    have:=Cs (n:=((n / 10:Nat):Int)) (by omega) (by omega)
    rw[km] at this; exact this
   have ih:=fun H=>ih (n / 10) (by omega) (by omega) H
   rw[EF Bg,iA (n:=n % 10) (by omega)]
   unfold sv at ih ⊢
   simp -implicitDefEqProofs only[go_sem,c109,h0,aej,e1,e2,hd]
   refine ⟨(ih H).mono ?_,L.bc fun b1 H1 L=>?_⟩
   ·rintro v H1 ⟨rfl,hf⟩
    have L:=L.ext hf
    simp -implicitDefEqProofs only[go_sem]
    refine L.bc fun b1 H2 L=>?_
    have c1:=vP (n:=n % 10) (by omega) (L.cell 0 rfl)
    simp -implicitDefEqProofs only[go_sem,c1,aI,fU]
    exact ⟨by omega,L.fr⟩
   ·have c1:=vP (n:=n % 10) (by omega) (L.cell 0 rfl)
    simp -implicitDefEqProofs only[go_sem,c1]
    refine (ih H1).mono ?_
    rintro v H2 ⟨rfl,hf⟩
    have L:=L.ext hf
    have c1:=vP (n:=n % 10) (by omega) (L.cell 0 rfl)
    simp -implicitDefEqProofs only[go_sem,c1,aI,fU]
    exact ⟨by omega,L.fr⟩
theorem Dg {n:Int} (h0:-1000000000000000≤n) (h1:n≤1000000000000000) (H:Heap):aE afI 109 #[.int .i64 n] H fun r H'=>r=sv (ah4 n)∧Fr [] H H':=by
 by_cases hn:n < 0
 ·refine af (args:=[_]) aiZ D3 (ahi rfl) ?_
  have e1:ah4 n=45 :: ah4 (-n):=by
   unfold ah4
   rw[if_pos hn,if_neg (by omega)]
   congr 2; omega
  obtain ⟨u,hu⟩:∃ u:Nat,-n=u:=⟨(-n).toNat,by omega⟩
  have e2:afd.wrap (0 - n)=(u:Int):=by rw[aV _ (by omega) (by omega)]; omega
  have hlen:(ah5 u).length≤16:=by
   have:=Cs (n:=(u:Int)) (by omega) (by omega)
   rw[km] at this; exact this
  rw[e1,hu,km]
  have hb:(u:Int)≤1000000000000000:=by omega
  have hc:=fun H=>xW u u (afJ u) hb H
  unfold sv at hc ⊢
  simp -implicitDefEqProofs only[go_sem,c109,hn,e2]
  refine (hc H).mono ?_
  rintro v H1 ⟨rfl,hf⟩
  simp -implicitDefEqProofs only[go_sem,aI,fU]
  exact ⟨by omega,hf⟩
 ·obtain ⟨u,rfl⟩:∃ u:Nat,n=u:=⟨n.toNat,by omega⟩
  have hb:(u:Int)≤1000000000000000:=by omega
  clear h0 h1 hn
  rw[km]
  exact xW u u (afJ u) hb H
def RC (f:Nat) (args:List Value) (H:Heap) (k:Bool) (t:Bs) (d w:Nat):Prop:=aE afI f args.toArray H fun v H'=>∃ o:Ot,v=o.val∧Is o k t d w∧Fr [] H H'
theorem NA.fields {H:Heap} {x:Nd} {v:Value} (h:NA H x v):∃ k t n a ks aa cc,x= .mk k t n a ks∧v= .agg #[.int .i64 k,sv t,.int .i64 n,.int .i64 a,.slice aa ks.length cc]∧dA H [] (aW ks) [.slice aa ks.length cc]∧ks.length≤cc∧ks.length≤maxLen:=by
 obtain ⟨k,t,n,a,ks⟩:=x
 obtain ⟨kv,rfl,hk⟩:=h.open
 obtain ⟨aa,cc,rfl,jG,eJ⟩:=fY hk
 exact ⟨k,t,n,a,ks,aa,cc,rfl,rfl,hk,jG,eJ⟩
theorem xX (ks:List Nd):((ks.length:Int)=0)=(ks=[]):=by
 apply propext
 cases ks with
 | nil=>simp
 | cons a r=>simp; omega
set_option maxHeartbeats 1000000 in
theorem sS {x:Nd} {H:Heap} {v:Value} (hx:NA H x v):RC 88 [v] H (mh x) (ah4 (numOf x)) 0 20:=by
 obtain ⟨k,t,n,a,ks,aa,cc,rfl,rfl,hk,jG,eJ⟩:=hx.fields
 refine af (args:=[_]) Tryz.func88 aas (ahi rfl) ?_
 have L:=L0 H
 have hs:=cW t
 have jk:=xX ks
 have hv:∀ o:Ot,o.val= .agg #[sv o.s,.int .i64 o.n,.bool o.b]:=fun o=>rfl
 unfold sv at *
 simp -implicitDefEqProofs only[go_sem,c88]
 refine L.aS fun b1 H1 L=>?_
 simp -implicitDefEqProofs only[go_sem]
 refine L.aS fun b2 H2 L=>?_
 have c1:=L.cell 1 rfl
 by_cases h1:k=44
 case neg=>
  simp -implicitDefEqProofs only[go_sem,c1,h1]
  refine (aB _).mono ?_
  rintro v H3 ⟨rfl,hf⟩
  have L:=L.ext hf
  rw[hv Ot.bad]
  simp -implicitDefEqProofs only[go_sem]
  refine L.ae 0 rfl rfl (ah Ot.bad) fun H4 L=>?_
  have c0:=L.cell 0 rfl
  simp -implicitDefEqProofs only[go_sem,c0]
  refine ⟨Ot.bad,rfl,(Is.bad [] 0 _).to ?_ (fun h=>nomatch h) (afJ _),L.fr⟩
  first | (simp[mh,kindOf,ak,numOf,aL,h1]; done) | (simp[mh,kindOf,ak,numOf,aL,h1]; intro h; have:=of_decide_eq_true h; first | omega | exact decide_eq_false (by omega))
 by_cases h2:t=[]
 case neg=>
  simp -implicitDefEqProofs only[go_sem,c1,h1,hs,h2,cM]
  refine (aB _).mono ?_
  rintro v H3 ⟨rfl,hf⟩
  have L:=L.ext hf
  rw[hv Ot.bad]
  simp -implicitDefEqProofs only[go_sem]
  refine L.ae 0 rfl rfl (ah Ot.bad) fun H4 L=>?_
  have c0:=L.cell 0 rfl
  simp -implicitDefEqProofs only[go_sem,c0]
  refine ⟨Ot.bad,rfl,(Is.bad [] 0 _).to ?_ (fun h=>nomatch h) (afJ _),L.fr⟩
  first | (simp[mh,kindOf,ak,numOf,aL,h2]; done) | (simp[mh,kindOf,ak,numOf,aL,h2]; intro h; have:=of_decide_eq_true h; first | omega | exact decide_eq_false (by omega))
 by_cases h3:ks=[]
 case neg=>
  simp -implicitDefEqProofs only[go_sem,c1,h1,hs,h2,cM,jk,h3]
  refine (aB _).mono ?_
  rintro v H3 ⟨rfl,hf⟩
  have L:=L.ext hf
  rw[hv Ot.bad]
  simp -implicitDefEqProofs only[go_sem]
  refine L.ae 0 rfl rfl (ah Ot.bad) fun H4 L=>?_
  have c0:=L.cell 0 rfl
  simp -implicitDefEqProofs only[go_sem,c0]
  refine ⟨Ot.bad,rfl,(Is.bad [] 0 _).to ?_ (fun h=>nomatch h) (afJ _),L.fr⟩
  first | (simp[mh,kindOf,ak,numOf,aL,h3]; done) | (simp[mh,kindOf,ak,numOf,aL,h3]; intro h; have:=of_decide_eq_true h; first | omega | exact decide_eq_false (by omega))
 by_cases h4:n < -1000000000000000
 case pos=>
  simp -implicitDefEqProofs only[go_sem,c1,h1,hs,h2,cM,jk,h3,h4]
  refine (aB _).mono ?_
  rintro v H3 ⟨rfl,hf⟩
  have L:=L.ext hf
  rw[hv Ot.bad]
  simp -implicitDefEqProofs only[go_sem]
  refine L.ae 0 rfl rfl (ah Ot.bad) fun H4 L=>?_
  have c0:=L.cell 0 rfl
  simp -implicitDefEqProofs only[go_sem,c0]
  refine ⟨Ot.bad,rfl,(Is.bad [] 0 _).to ?_ (fun h=>nomatch h) (afJ _),L.fr⟩
  first | (simp[mh,kindOf,ak,numOf,aL]; done) | (simp[mh,kindOf,ak,numOf,aL]; intro h; have:=of_decide_eq_true h; first | omega | exact decide_eq_false (by omega))
 by_cases h5:(1000000000000000:Int) < n
 case pos=>
  simp -implicitDefEqProofs only[go_sem,c1,h1,hs,h2,cM,jk,h3,h4,h5]
  refine (aB _).mono ?_
  rintro v H3 ⟨rfl,hf⟩
  have L:=L.ext hf
  rw[hv Ot.bad]
  simp -implicitDefEqProofs only[go_sem]
  refine L.ae 0 rfl rfl (ah Ot.bad) fun H4 L=>?_
  have c0:=L.cell 0 rfl
  simp -implicitDefEqProofs only[go_sem,c0]
  refine ⟨Ot.bad,rfl,(Is.bad [] 0 _).to ?_ (fun h=>nomatch h) (afJ _),L.fr⟩
  first | (simp[mh,kindOf,ak,numOf,aL]; done) | (simp[mh,kindOf,ak,numOf,aL]; intro h; have:=of_decide_eq_true h; first | omega | exact decide_eq_false (by omega))
 simp -implicitDefEqProofs only[go_sem,c1,h1,hs,h2,cM,jk,h3,h4,h5]
 refine (Dg (by omega) (by omega) H2).mono ?_
 rintro v H3 ⟨rfl,hf⟩
 have L:=L.ext hf
 simp -implicitDefEqProofs only[go_sem]
 refine (aX _ H3).mono ?_
 rintro v H4 ⟨rfl,hf⟩
 have L:=L.ext hf
 rw[hv (Ot.word _)]
 simp -implicitDefEqProofs only[go_sem]
 refine L.ae 0 rfl rfl (ah (Ot.word (ah4 n))) fun H5 L=>?_
 have c0:=L.cell 0 rfl
 simp -implicitDefEqProofs only[go_sem,c0]
 refine ⟨Ot.word (ah4 n),rfl,(Is.word _).to ?_ (fun _=>⟨rfl,rfl⟩) (xJ (by omega) (by omega)),L.fr⟩
 subst h1 h2 h3
 exact (Ly (by omega) (by omega)).symm
set_option maxHeartbeats 1000000 in
theorem um {x:Nd} {H:Heap} {v:Value} (hx:NA H x v) (hl:(ak x).length≤140737488355000):RC 105 [v] H (dQ x) (39 :: (ak x ++ [39])) 0 ((ak x).length + 2):=by
 obtain ⟨k,t,n,a,ks,aa,cc,rfl,rfl,hk,jG,eJ⟩:=hx.fields
 refine af (args:=[_]) Tryz.func105 TC (ahi rfl) ?_
 have L:=L0 H
 have hl:t.length≤140737488355000:=hl
 have jk:=xX ks
 have hv:∀ o:Ot,o.val= .agg #[sv o.s,.int .i64 o.n,.bool o.b]:=fun o=>rfl
 have hva:=fun H=>zG t H
 unfold sv at *
 simp -implicitDefEqProofs only[go_sem,c105]
 refine L.aS fun b1 H1 L=>?_
 simp -implicitDefEqProofs only[go_sem]
 refine L.aS fun b2 H2 L=>?_
 have c1:=L.cell 1 rfl
 by_cases h1:k=47
 case neg=>
  simp -implicitDefEqProofs only[go_sem,c1,h1]
  refine (aB _).mono ?_
  rintro v H3 ⟨rfl,hf⟩
  have L:=L.ext hf
  rw[hv Ot.bad]
  simp -implicitDefEqProofs only[go_sem]
  refine L.ae 0 rfl rfl (ah Ot.bad) fun H4 L=>?_
  have c0:=L.cell 0 rfl
  simp -implicitDefEqProofs only[go_sem,c0]
  refine ⟨Ot.bad,rfl,(Is.bad [] 0 _).to ?_ (fun h=>nomatch h) (afJ _),L.fr⟩
  first | (simp[dQ,kindOf,ak,numOf,aL,h1]; done) | (simp[dQ,kindOf,ak,numOf,aL,h1]; intro h; have:=of_decide_eq_true h; first | omega | exact decide_eq_false (by omega))
 simp -implicitDefEqProofs only[go_sem,c1,h1]
 refine (hva H2).mono ?_
 rintro v H3 ⟨rfl,rfl⟩
 by_cases h2:bM t=true
 case neg=>
  simp -implicitDefEqProofs only[go_sem,c1,h2]
  refine (aB _).mono ?_
  rintro v H3 ⟨rfl,hf⟩
  have L:=L.ext hf
  rw[hv Ot.bad]
  simp -implicitDefEqProofs only[go_sem]
  refine L.ae 0 rfl rfl (ah Ot.bad) fun H4 L=>?_
  have c0:=L.cell 0 rfl
  simp -implicitDefEqProofs only[go_sem,c0]
  refine ⟨Ot.bad,rfl,(Is.bad [] 0 _).to ?_ (fun h=>nomatch h) (afJ _),L.fr⟩
  first | (simp[dQ,kindOf,ak,numOf,aL,h2]; done) | (simp[dQ,kindOf,ak,numOf,aL,h2]; intro h; have:=of_decide_eq_true h; first | omega | exact decide_eq_false (by omega))
 by_cases h3:n=0
 case neg=>
  simp -implicitDefEqProofs only[go_sem,c1,h2,h3]
  refine (aB _).mono ?_
  rintro v H3 ⟨rfl,hf⟩
  have L:=L.ext hf
  rw[hv Ot.bad]
  simp -implicitDefEqProofs only[go_sem]
  refine L.ae 0 rfl rfl (ah Ot.bad) fun H4 L=>?_
  have c0:=L.cell 0 rfl
  simp -implicitDefEqProofs only[go_sem,c0]
  refine ⟨Ot.bad,rfl,(Is.bad [] 0 _).to ?_ (fun h=>nomatch h) (afJ _),L.fr⟩
  first | (simp[dQ,kindOf,ak,numOf,aL,h3]; done) | (simp[dQ,kindOf,ak,numOf,aL,h3]; intro h; have:=of_decide_eq_true h; first | omega | exact decide_eq_false (by omega))
 by_cases h4:ks=[]
 case neg=>
  simp -implicitDefEqProofs only[go_sem,c1,h2,h3,jk,h4]
  refine (aB _).mono ?_
  rintro v H3 ⟨rfl,hf⟩
  have L:=L.ext hf
  rw[hv Ot.bad]
  simp -implicitDefEqProofs only[go_sem]
  refine L.ae 0 rfl rfl (ah Ot.bad) fun H4 L=>?_
  have c0:=L.cell 0 rfl
  simp -implicitDefEqProofs only[go_sem,c0]
  refine ⟨Ot.bad,rfl,(Is.bad [] 0 _).to ?_ (fun h=>nomatch h) (afJ _),L.fr⟩
  first | (simp[dQ,kindOf,ak,numOf,aL,h4]; done) | (simp[dQ,kindOf,ak,numOf,aL,h4]; intro h; have:=of_decide_eq_true h; first | omega | exact decide_eq_false (by omega))
 simp -implicitDefEqProofs only[go_sem,c1,h2,h3,jk,h4,aI,fU]
 refine ⟨by omega,by first | omega | (simp; omega),?_⟩
 refine (aX _ H3).mono ?_
 rintro v H4 ⟨rfl,hf⟩
 have L:=L.ext hf
 rw[hv (Ot.word _)]
 simp -implicitDefEqProofs only[go_sem]
 refine L.ae 0 rfl rfl (ah (Ot.word (39 :: (t ++ [39])))) fun H5 L=>?_
 have c0:=L.cell 0 rfl
 simp -implicitDefEqProofs only[go_sem,c0]
 refine ⟨Ot.word (39 :: (t ++ [39])),rfl,(Is.word _).to ?_ (fun _=>⟨rfl,rfl⟩) (by simp[ak]),L.fr⟩
 simp[dQ,kindOf,ak,numOf,aL,h2]
theorem EOt:qo afI 98 62 3 32 (.agg #[.string ⟨⟨[]⟩⟩,.int .i64 0,.bool false]):=⟨ai0,by kernel_rfl,rfl,by decide⟩
abbrev LO (H0:Heap) (v:Value) (os:List Ot) (g:Option Nat) (H:Heap) (l:List dR):Prop:=Lv [] H0 g.toList (fun H=>Own H 62 3 v os.length (os.flatMap Ot.cells) g) H l []
theorem GH {H0 H:Heap} {v:Value} {os:List Ot} {g:Option Nat} (h:Own H 62 3 v os.length (os.flatMap Ot.cells) g):∀ (M:List Nat) (H':Heap),Fr M H H'→(∀ x ∈ M,H0.size≤x∧x ∉ g.toList)→Own H' 62 3 v os.length (os.flatMap Ot.cells) g:=fun M H' hf hM=>
 h.fr hf fun b hb hm=>(hM b hm).2 (by simp[hb])
theorem LO.new {H0 H:Heap} {l:List dR} {R:Value→Heap→Prop} (L:Lv [] H0 [] (fun _=>True) H l []) (h:∀ b H',LO H0 (.slice (some ⟨b,0,none⟩) 0 0) [] (some b) H' l→R (.slice (some ⟨b,0,none⟩) 0 0) H'):GU H 62 0 [] R:=
 db fun H' hn hf hs=>h _ H' (L.step hf (by simp) (fun x hx=>by
  simp only[Option.toList_some,List.mem_singleton] at hx
  subst hx
  exact ⟨hn.lt,.inr (afJ _)⟩) (GH (os:=[]) (Own.mu (n:=0) hn rfl (by simp[maxLen]))))
theorem LO.slice {H0 H:Heap} {l:List dR} {v:Value} {os:List Ot} {g:Option Nat} (L:LO H0 v os g H l):∃ a c,v= .slice a os.length c∧gn Ot.cells H a os∧os.length≤maxLen:=by
 have h:=L.st
 have hs:∃ a c,v= .slice a os.length c∧os.length≤maxLen:=by
  rcases h.2 with ⟨_,rfl,h0⟩ | ⟨b,cap,cur,_,rfl,_,h4,h5,_⟩
  ·rw[h0]; exact ⟨none,0,rfl,ahn _⟩
  ·exact ⟨_,_,rfl,by omega⟩
 obtain ⟨a,c,rfl,h3⟩:=hs
 exact ⟨a,c,rfl,h.z7,h3⟩
theorem LO.snoc {H0 H:Heap} {l:List dR} {R:Value→Heap→Prop} {v:Value} {os:List Ot} {o:Ot} {g:Option Nat} {b c1:Nat} (L:LO H0 v os g H (.dz b 62 o.cells :: l)) (Iz:os.length + 1≤1000000001)
 (h:∀ a c g' H',LO H0 (.slice a (os ++ [o]).length c) (os ++ [o]) g' H' (.dz b 62 o.cells :: l)→R (.slice a (os ++ [o]).length c) H'):App afI 98 98 98 H v (.slice (some ⟨b,0,none⟩) 1 c1) R:=by
 have hc:=L.cell 0 rfl
 have So:tw afI H 3 98 (.slice (some ⟨b,0,none⟩) 1 c1) 1 o.cells:=by
  refine tw.cells ai0 rfl (fun j u hj=>?_) (ah o)
  rw[kZ,fA,afT,hc]; exact hj
 refine vq EOt L.st So (by unfold maxLen; omega) (by omega) fun a c H' g' h1 h2 h3=>?_
 have e:os.length + 1=(os ++ [o]).length:=by simp
 have e2:os.flatMap Ot.cells ++ o.cells=(os ++ [o]).flatMap Ot.cells:=by simp
 rw[e,e2] at h1
 rw[e]
 refine h a c g' H' (L.step h2 (fun x hx=>.inl hx) (fun x hx=>?_) (GH h1))
 simp only[Option.mem_toList] at hx
 exact ⟨h1.lt hx,(h3 x hx).imp (fun q=>by simp[q]) id⟩
theorem pH {kf:Nd→Bool} {tf:Nd→Bs} {df wf:Nd→Nat}:∀ {os:List Ot} {ks:List Nd},nz os ks kf tf df wf→sQ os≤(ks.map wf).sum + 2 * ks.length
 | [],[],_=>ahn _
 | o :: os,x :: ks,h=>by
   obtain ⟨h1,h2⟩:=h.tail
   have i:=pH h2
   have:=h1.len
   simp only[sQ,afi,aiQ,afK] at i ⊢
   omega
 | [],_ :: _,h=>by have:=h.1; simp at this
 | _ :: _,[],h=>by have:=h.1; simp at this
theorem sT {H0 H:Heap} {l:List dR} {v:Value} {os:List Ot} {g:Option Nat} {ks:List Nd} {kf:Nd→Bool} {tf:Nd→Bs} {df wf:Nd→Nat} (L:LO H0 v os g H l) (h:nz os ks kf tf df wf) (hw:(ks.map wf).sum + 2 * ks.length≤140737488355320) :
 aE afI 87 #[v] H fun v H'=>v=(Ot.dX true os).val∧Fr [] H H':=by
 obtain ⟨a,c,rfl,h1,h2⟩:=L.slice
 exact oG os h1 h2 (ah8 (pH h) hw)
theorem Mx:∀ (b:Bool) (ks:List Nd),qN (fun x=>39 :: (ak x ++ [39])) b ks=lk b ks
 | _,[]=>rfl
 | b,x :: r=>by
   rw[qN,lk,Mx false r]; simp
theorem My:∀ ks:List Nd,uk (fun _=>0) ks=0
 | []=>rfl
 | x :: r=>by rw[uk,My r]; rfl
theorem GI:∀ ks:List Nd,(ks.map fun x=>(ak x).length + 2).sum + 2 * ks.length=jU ks
 | []=>rfl
 | x :: r=>by
   have:=GI r
   rw[afi,aiQ,afK,jU]; omega
theorem GJ:∀ ks:List Nd,4 * ks.length≤jU ks
 | []=>ahn _
 | x :: r=>by
   have:=GJ r
   rw[afK,jU]; omega
set_option maxHeartbeats 2000000 in
theorem xY {ks:List Nd} {H:Heap} {aa:Option Addr} {cc:Nat} (hk:dA H [] (aW ks) [.slice aa ks.length cc]) (eJ:ks.length≤maxLen) (hw:jU ks≤1000000000) :
 aE afI 84 #[.slice aa ks.length cc] H fun v H'=>∃ o:Ot,v= .tuple #[o.val,.int .i64 (aP ks).length]∧Is o ((aP ks).all dQ) (lk true (aP ks)) 0 (jU (aP ks))∧Fr [] H H':=by
 refine af (args:=[_]) Tryz.func84 aal (ahi rfl) ?_
 have L:=L0 H
 have hv:∀ o:Ot,o.val= .agg #[sv o.s,.int .i64 o.n,.bool o.b]:=fun o=>rfl
 simp only[go_sem,c84]
 refine L.aS fun b1 H1 L=>?_
 simp only[go_sem]
 refine LO.new L fun b H2 L=>?_
 simp only[go_sem]
 have done:∀ (i:Nat) {H3:Heap} {v:Value} {os:List Ot} {g:Option Nat},i≤ks.length→aP ks=ks.take i→LO H v os g H3 [.dz b1 62 Ot.bad.cells]→nz os (ks.take i) dQ (fun x=>39 :: (ak x ++ [39])) (fun _=>0) (fun x=>(ak x).length + 2)→
  aE afI 87 #[v] H3 (fun v H'=>∃ o:Ot,v=o.val∧Is o ((aP ks).all dQ) (lk true (aP ks)) 0 (jU (aP ks))∧Fr [] H3 H')∧(∃ a c,v= .slice a (aP ks).length c):=fun i {H3 v os g} hi hl L hI=>by
  have e:=GI (ks.take i)
  have e2:=AW ks i
  refine ⟨(sT L hI (by omega)).mono ?_,?_⟩
  ·rintro v H' ⟨rfl,hf⟩
   refine ⟨_,rfl,(hI.dX true).to (by rw[hl]) (fun _=>⟨by rw[Mx,hl],My _⟩) (by rw[hl]; omega),hf⟩
  ·obtain ⟨a,c,rfl,_⟩:=L.slice
   exact ⟨a,c,by rw[hI.1,hl]⟩
 refine bC (fun (p:Nat × Value) H'=>p.1≤ks.length∧(∀ j (h:j < ks.length),j < p.1→kindOf ks[j]=47)∧∃ os g,LO H p.2 os g H' [.dz b1 62 Ot.bad.cells]∧nz os (ks.take p.1) dQ (fun x=>39 :: (ak x ++ [39])) (fun _=>0) (fun x=>(ak x).length + 2))
  (fun p=>[(0,.slice aa ks.length cc),(2,.pointer (some ⟨b1,0,none⟩)),(3,.int .i64 0),(4,p.2),(5,.int .i64 p.1)]) (fun p=>ks.length - p.1) (0,.slice (some ⟨b,0,none⟩) 0 0) ?_ ?_ ?_
 ·exact ⟨ahn _,fun j h hj=>absurd hj (Nat.not_lt_zero _),[],_,L,by rw[List.take_zero]; exact nz.nil⟩
 ·simp only[go_sem]
 ·rintro ⟨i,v⟩ H3 ⟨hi,dk,os,g,L,hI⟩
  dsimp only at hi dk L hI
  rcases ae8 i ks.length with ba | nf
  ·have h0:(0:Int)≤(i:Int):=by omega
   have h1:(i:Int) < (ks.length:Int):=by omega
   have gl:=dD ba eJ
   obtain ⟨b',o,c,k1,t1,n1,a1,bm,mD,e1,e2,⟨q0,q1,q2,q3,q4⟩,hr⟩:=cm (hk.ext L.fr) i ba
   cases e1
   simp only[ahl] at q0
   have Nn:NA H3 ks[i] (.agg #[.int .i64 k1,sv t1,.int .i64 n1,.int .i64 a1,mD]):=e2 ▸ NA.mk hr
   obtain ⟨l1,l2⟩:=Gv ks i ba dk
   rw[e2] at l1 l2
   have hwt:=oA ks i ba
   have Ah:=AW ks (i + 1)
   by_cases Mz:k1=47
   ·have hqc:=um Nn (by rw[e2] at hwt ⊢; omega)
    rw[Mz] at hqc
    simp only[go_sem,h0,h1,q0,q1,q2,q3,q4,Mz]
    refine hqc.mono ?_
    rintro v1 H4 ⟨oq,rfl,ho,hf⟩
    have L:=L.ext hf
    rw[hv oq]
    simp only[go_sem]
    refine L.bc fun b5 H5 L=>?_
    simp only[go_sem]
    have ln:=hI.1
    rw[afP] at ln
    have QT:4 * ks.length≤jU ks:=GJ ks
    refine LO.snoc L (by omega) fun a' c' g' H6 L=>?_
    have L:LO H (.slice a' (os ++ [oq]).length c') (os ++ [oq]) g' H6 [.dz b1 62 Ot.bad.cells]:=L.drop (ahj _ _) fun p hp=>hp
    simp only[go_sem]
    refine aj (i + 1,.slice a' (os ++ [oq]).length c') (by show ks.length - (i + 1) < ks.length - i; omega) ?_ ⟨by show i + 1≤_; omega,fun j h hj=>?_,os ++ [oq],g',L,?_⟩
    ·simp only[go_sem,gl]
    ·rcases ae8 j i with q | q
     ·exact dk j h q
     ·have hj:j < i + 1:=hj
      obtain rfl:j=i:=by omega
      rw[e2]; exact Mz
    ·show nz (os ++ [oq]) (ks.take (i + 1)) _ _ _ _
     rw[aim ba]
     exact hI.snoc ho
   ·obtain ⟨l3,_⟩:=l2 Mz
    obtain ⟨d1,a,c',rfl⟩:=done i hi l3 L hI
    simp only[go_sem,h0,h1,q0,Mz]
    refine d1.mono ?_
    rintro v H4 ⟨o,rfl,ho,hf⟩
    have L:=L.ext hf
    rw[hv o]
    simp only[go_sem]
    refine L.ae 0 rfl rfl (ah o) fun H5 L=>?_
    have c0:=L.cell 0 rfl
    unfold Ot.cells at c0
    simp only[go_sem,c0]
    exact ⟨o,rfl,ho,L.fr⟩
  ·have h1:¬ ((i:Int) < (ks.length:Int)):=by omega
   obtain rfl:i=ks.length:=by omega
   obtain ⟨l3,_⟩:=xO ks fun j h=>dk j h h
   obtain ⟨d1,a,c',rfl⟩:=done ks.length (afJ _) (by rw[l3,ain]) L hI
   simp only[go_sem,h1]
   refine d1.mono ?_
   rintro v H4 ⟨o,rfl,ho,hf⟩
   have L:=L.ext hf
   rw[hv o]
   simp only[go_sem]
   refine L.ae 0 rfl rfl (ah o) fun H5 L=>?_
   have c0:=L.cell 0 rfl
   unfold Ot.cells at c0
   simp only[go_sem,c0]
   exact ⟨o,rfl,ho,L.fr⟩
end Go.Proofs.YtmhdkbmnpekpoaaGreatDoor
