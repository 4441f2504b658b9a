import Derived.Test.YtmhdkbmnpekpoaaGreatDoorB7
import Derived.Test.YtmhdkbmnpekpoaaGreatDoorB2
import Derived.Test.YtmhdkbmnpekpoaaGreatDoorRows
import Derived.WalkKit
import Derived.ProofKit
import Derived.OpenShut
import Derived.LaidMore
import Derived.LaidLaws
import Derived.Stop.Joined
import Derived.Deep.DeepHandedRow
import Derived.Deep.DeepWitnessRowRef
open Bool renaming and_eq_true→ae5,and_assoc→aiR,eq_iff_iff→ai3
open Go.Proofs.Tryz renaming prog→afI,underlying3→af0,underlying24→ai8,checked→ajc
open Nat renaming le_of_ble_eq_true→ahi,le_refl→afJ,add_zero→ahl,zero_le→ahn,lt_or_ge→ae8,zero_mul→aiL,one_mul→aiM,reduceAdd→aiN,reduceMul→aiO,le_trans→ah8,eq_zero_or_pos→aiP,add_assoc→afY
open List renaming length_cons→afK,length_append→ah1,length_pos_iff→aho,getElem_cons_succ→ah2,getElem_cons_zero→aiK,eq_nil_of_length_eq_zero→afL,all_cons→afb,take_succ_eq_append_getElem→aim,take_succ_cons→ahq,takeWhile_cons→ahr,length_nil→aht,take_length→ain,all_eq_true→afg,isEmpty_iff→ah6,append_nil→ah7,map_cons→afi,length_take→afP,take_zero→ahB,sum_cons→aiQ,getElem_mem→ahD,getElem_map→ai1,takeWhile_sublist→ai4,mem_take_iff_getElem→ai5,takeWhile→ai9
open Option renaming some→ae9
open Go.IntKind renaming i64→afd,signed→aja,bits→ajd,min→aje,max→ajf
open List.Sublist renaming refl→ahx,cons→ai2,cons_cons→ai6
open Go.Value renaming okWide→ai7
open Classical renaming em→ajb
set_option linter.unusedSimpArgs false
set_option linter.unusedVariables false
set_option maxRecDepth 8000
namespace Go.Proofs.YtmhdkbmnpekpoaaGreatDoor
open Gx Go
theorem uo {ks:List Nd} (h:(aP ks).length=ks.length):aP ks=ks:=by
 have e:=pz ks
 have hl:=congrArg List.length e
 rw[ah1] at hl
 have:bt ks=[]:=afL (by omega)
 rw[this,ah7] at e
 exact e.symm
theorem xZ {ks:List Nd} (h:ks.all dQ=true):aP ks=ks:=by
 refine (xO ks fun j hj=>?_).1
 have:=afg.1 h ks[j] (ahD hj)
 obtain ⟨t,p,e,_⟩:=gN this
 rw[e]; rfl
set_option maxHeartbeats 4000000 in
theorem Ij {o0:Ot} {k0:Bool} {t0:Bs} {w0:Nat} (h0:Is o0 k0 t0 0 w0) {rs:List Nd} {H:Heap} {aa:Option Addr} {cc:Nat} (hk:dA H [] (aW rs) [.slice aa rs.length cc]) (eJ:rs.length≤maxLen) (hw:w0 + xP rs≤1000000000) :
 RC 90 [o0.val,.slice aa rs.length cc] H (k0 && rs.all jQ) (t0 ++ vk rs) 0 (w0 + xP rs):=by
 refine af (args:=[_,_]) Tryz.func90 aau (ahi rfl) ?_
 have L:=L0 H
 have hv:∀ o:Ot,o.val= .agg #[sv o.s,.int .i64 o.n,.bool o.b]:=fun o=>rfl
 rw[hv o0]
 simp only[go_sem,c90]
 refine L.aS fun b2 H1 L=>?_
 simp only[go_sem]
 refine L.aS fun b4 H2 L=>?_
 have c1:=L.cell 1 rfl
 simp only[go_sem,c1]
 refine L.aS fun b5 H3 L=>?_
 simp only[go_sem]
 refine L.ae 0 rfl rfl (ah o0) fun H4 L=>?_
 simp only[go_sem]
 refine bC (fun (i:Nat) H'=>i≤rs.length∧∃ o,Lv [] H [] (fun _=>True) H' [.dz b5 62 o.cells,.dz b4 62 Ot.bad.cells] []∧Is o (k0 && (rs.take i).all jQ) (t0 ++ vk (rs.take i)) 0 (w0 + xP (rs.take i)))
  (fun i=>[(1,.slice aa rs.length cc),(4,.pointer (some ⟨b4,0,none⟩)),(5,.pointer (some ⟨b5,0,none⟩)),(6,.int .i64 i)]) (fun i=>rs.length - i) 0 ?_ ?_ ?_
 ·exact ⟨ahn _,o0,L.drop (ai6 _ (ai6 _ (ai2 _ (ahx _)))) (fun p hp=>hp),by rw[ahB]; exact h0.to (by simp) (fun _=>⟨by simp[vk],rfl⟩) (by simp[xP])⟩
 ·simp only[go_sem]
 ·rintro i H5 ⟨hi,o,L,hI⟩
  have hlen:=hI.len
  rcases ae8 i rs.length with ba | nf
  ·have h0:(0:Int)≤(i:Int):=by omega
   have h1:(i:Int) < (rs.length:Int):=by omega
   have gl:=dD ba eJ
   have tj:=xQ rs i ba
   have Ah:=E7 rs (i + 1)
   obtain ⟨b',oo,c,k1,t1,n1,a1,bm,mD,e1,e2,⟨q0,q1,q2,q3,q4⟩,hr⟩:=cm hk i ba
   cases e1
   have q0:=ab q0 L.fr (by simp)
   have q1:=ab q1 L.fr (by simp)
   have q2:=ab q2 L.fr (by simp)
   have q3:=ab q3 L.fr (by simp)
   have q4:=ab q4 L.fr (by simp)
   simp only[ahl] at q0
   obtain ⟨a2,c2,rfl,yh,nr⟩:=fY hr
   rw[e2] at tj
   simp only[aL] at tj
   have E8:jQ rs[i]=(decide (k1=20) && lj (.mk k1 t1 n1 a1 bm) && !bm.isEmpty && bm.all dQ):=by rw[e2]; rfl
   have bZ:jQ rs[i]=false→false=(k0 && rs.all jQ):=fun hf=>by
    cases e:rs.all jQ with
    | false=>simp
    | true=>
      have:=afg.1 e rs[i] (ahD ba)
      rw[hf] at this; cases this
   simp only[go_sem,h0,h1,q0,q1,q2,q3,q4]
   refine L.aS fun b7 H6 L=>?_
   simp only[go_sem]
   refine L.ae 0 rfl rfl (ax rfl) fun H7 L=>?_
   have ck:=L.cell 0 rfl
   by_cases mi:k1=20
   case neg=>
    have ll:jQ rs[i]=false:=by rw[E8]; simp[mi]
    simp only[go_sem,ck,mi]
    refine (aB _).mono ?_
    rintro v HB ⟨rfl,hf⟩
    have L:=L.ext hf
    rw[hv Ot.bad]
    simp only[go_sem]
    refine L.ae 2 rfl rfl (ah Ot.bad) fun HC L=>?_
    have c0:=L.cell 2 rfl
    simp only[go_sem,c0]
    refine ⟨Ot.bad,rfl,(Is.bad [] 0 _).to ?_ (fun h=>nomatch h) (afJ _),L.fr⟩
    exact bZ ll
   have fQ:=fun H=>mf (k:=k1) (t:=t1) (n:=n1) (a:=a1) (ks:=bm) (aa:=a2) (c:=c2) (bm.length:Int) H
   unfold sv at ck
   subst mi
   unfold sv at fQ
   simp only[go_sem,ck]
   refine (fQ _).mono ?_
   rintro v H8 ⟨rfl,hf⟩
   have L:=L.ext hf
   have ck:=L.cell 0 rfl
   unfold sv at ck
   by_cases hC:t1=[]∧n1=0∧bm≠[]
   case neg=>
    have ll:jQ rs[i]=false:=by
     cases hv:jQ rs[i] with
     | false=>rfl
     | true=>
       rw[E8] at hv
       simp only[lj,ak,numOf,ae5,decide_eq_true_eq] at hv
       refine absurd ⟨of_decide_eq_true hv.1.1.2.1,of_decide_eq_true hv.1.1.2.2,fun he=>?_⟩ hC
       rw[he] at hv
       exact absurd hv.1.2 (by decide)
    by_cases d1:t1=[]
    ·by_cases d2:n1=0
     ·have d3:bm=[]:=by
       rcases ajb (bm=[]) with h | h
       ·exact h
       ·exact absurd ⟨d1,d2,h⟩ hC
      have d4:=(xX bm).mpr d3
      simp only[go_sem,ck,d1,d2,d4]
      refine (aB _).mono ?_
      rintro v HB ⟨rfl,hf⟩
      have L:=L.ext hf
      rw[hv Ot.bad]
      simp only[go_sem]
      refine L.ae 2 rfl rfl (ah Ot.bad) fun HC L=>?_
      have c0:=L.cell 2 rfl
      simp only[go_sem,c0]
      refine ⟨Ot.bad,rfl,(Is.bad [] 0 _).to ?_ (fun h=>nomatch h) (afJ _),L.fr⟩
      exact bZ ll
     ·simp only[go_sem,ck,d1,d2]
      refine (aB _).mono ?_
      rintro v HB ⟨rfl,hf⟩
      have L:=L.ext hf
      rw[hv Ot.bad]
      simp only[go_sem]
      refine L.ae 2 rfl rfl (ah Ot.bad) fun HC L=>?_
      have c0:=L.cell 2 rfl
      simp only[go_sem,c0]
      refine ⟨Ot.bad,rfl,(Is.bad [] 0 _).to ?_ (fun h=>nomatch h) (afJ _),L.fr⟩
      exact bZ ll
    ·simp only[go_sem,ck,d1]
     refine (aB _).mono ?_
     rintro v HB ⟨rfl,hf⟩
     have L:=L.ext hf
     rw[hv Ot.bad]
     simp only[go_sem]
     refine L.ae 2 rfl rfl (ah Ot.bad) fun HC L=>?_
     have c0:=L.cell 2 rfl
     simp only[go_sem,c0]
     refine ⟨Ot.bad,rfl,(Is.bad [] 0 _).to ?_ (fun h=>nomatch h) (afJ _),L.fr⟩
     exact bZ ll
   obtain ⟨rfl,rfl,dH⟩:=hC
   have tE:0 < bm.length:=aho.2 dH
   have hz:¬ ((bm.length:Int)=0):=by omega
   have E9:afd.wrap ((bm.length:Int) - 1)=((bm.length - 1:Nat):Int):=by
    unfold maxLen at nr
    rw[aV _ (by omega) (by omega)]; omega
   have gK:(0:Int)≤((bm.length - 1:Nat):Int)∧((bm.length - 1:Nat):Int)≤(c2:Int):=by omega
   have jl:(0:Int)≤((bm.length - 1:Nat):Int)∧((bm.length - 1:Nat):Int) < (bm.length:Int):=by omega
   have ri:dA H [] (aW (bm.take (bm.length - 1))) [.slice a2 (bm.length - 1:Nat) c2]:=by
    have:=dA.BI hr (k:=bm.length - 1) (by simp)
    rw[← List.map_take] at this; exact this
   have M7:(bm.take (bm.length - 1)).length=bm.length - 1:=by rw[afP]; omega
   have Vk:=oA bm (bm.length - 1) (by omega)
   rw[show bm.length - 1 + 1=bm.length by omega,ain] at Vk
   have Da:bm.all dQ=((bm.take (bm.length - 1)).all dQ && dQ bm[bm.length - 1]):=by
    have:=fy dQ bm (bm.length - 1) (by omega)
    rw[show bm.length - 1 + 1=bm.length by omega,ain] at this
    exact this
   have Rs:sR rs[i]=59 :: 32 :: (lk true (bm.take (bm.length - 1)) ++ ((if bm.length - 1=0 then [] else [32]) ++ 61 :: 62 :: 32 :: 39 :: (ak bm[bm.length - 1] ++ [39]))):=by
    rw[e2]
    have d1:bm.dropLast=bm.take (bm.length - 1):=List.dropLast_eq_take
    have d2:bm.getLast?=some bm[bm.length - 1]:=by rw[List.getLast?_eq_getElem?,List.getElem?_eq_getElem]
    have d3:(bm.take (bm.length - 1)).isEmpty=decide (bm.length - 1=0):=by
     rw[ai3]
     simp only[ah6,decide_eq_true_eq,← List.length_eq_zero_iff,afP]
     omega
    simp only[sR,aL,d1,d2,d3]
    simp
   have zB:jQ rs[i]=bm.all dQ:=by
    rw[E8]
    have:bm.isEmpty=false:=by simpa using dH
    rw[this]; simp[lj,ak,numOf]
   obtain ⟨b6,o6,c6,k6,t6,n6,a6,Bk,nC,u1,u2,⟨p0,p1,p2,p3,p4⟩,lg⟩:=cm hr (bm.length - 1) (by omega)
   cases u1
   simp only[ahl] at p0
   obtain ⟨init,dP⟩:∃ init,init=bm.take (bm.length - 1):=⟨_,rfl⟩
   obtain ⟨q,hq⟩:∃ q,q=bm[bm.length - 1]:=⟨_,rfl⟩
   rw[← dP] at M7 ri Vk Da Rs
   rw[← hq] at Vk Da Rs u2
   obtain ⟨m,hm⟩:∃ m,m=bm.length - 1:=⟨_,rfl⟩
   rw[← hm] at E9 gK jl M7 ri Rs p0 p1 p2 p3 p4
   rw[← M7] at ri
   have hqc:=fun H (hx:NA H q (.agg #[.int .i64 k6,sv t6,.int .i64 n6,.int .i64 a6,nC]))=>um hx (by omega)
   have Nn:NA H q (.agg #[.int .i64 k6,sv t6,.int .i64 n6,.int .i64 a6,nC]):=u2 ▸ NA.mk lg
   have hrq:=xY (ri.ext L.fr) (by omega) (by omega)
   rw[M7] at hrq
   simp only[go_sem,ck,hz,E9]
   refine ⟨gK,hrq.mono ?_⟩
   rintro v H9 ⟨oq,rfl,hoq,hf⟩
   have L:=L.ext hf
   rw[hv oq]
   simp only[go_sem]
   refine L.aS fun b8 kb L=>?_
   simp only[go_sem]
   refine L.ae 0 rfl rfl (ah oq) fun qx L=>?_
   have ck:=L.cell 1 rfl
   unfold sv at ck
   simp only[go_sem,ck,E9]
   by_cases WC:(aP init).length=m
   case neg=>
    have Fg:¬ (((aP init).length:Nat):Int)=(m:Int):=by omega
    have ll:jQ rs[i]=false:=by
     rw[zB,Da]
     cases e:init.all dQ with
     | false=>rfl
     | true=>exact absurd (by rw[xZ e,M7]) WC
    simp only[go_sem,Fg]
    refine (aB _).mono ?_
    rintro v HB ⟨rfl,hf⟩
    have L:=L.ext hf
    rw[hv Ot.bad]
    simp only[go_sem]
    refine L.ae 3 rfl rfl (ah Ot.bad) fun HC L=>?_
    have c0:=L.cell 3 rfl
    simp only[go_sem,c0]
    refine ⟨Ot.bad,rfl,(Is.bad [] 0 _).to ?_ (fun h=>nomatch h) (afJ _),L.fr⟩
    exact bZ ll
   have Fg:(((aP init).length:Nat):Int)=(m:Int):=by omega
   have hli:=uo (WC.trans M7.symm)
   rw[hli] at hoq
   have fj:=hoq.len
   rcases aiP m with Ii | hmp
   ·have hg:¬ ((0:Int) < (m:Int)):=by omega
    have vv:(m:Int)≤0:=by omega
    have c8:=L.cell 0 rfl
    have c7:=L.cell 1 rfl
    have c5:=L.cell 2 rfl
    unfold Ot.cells at c8 c5
    have p0:=ab p0 L.fr (by simp)
    have p1:=ab p1 L.fr (by simp)
    have p2:=ab p2 L.fr (by simp)
    have p3:=ab p3 L.fr (by simp)
    have p4:=ab p4 L.fr (by simp)
    simp only[go_sem,Fg,hg,vv,c8,c7,c5,Fg,jl,p0,p1,p2,p3,p4]
    refine (bK [59,32] [61,62,32] (oq) (by simp; omega) _).mono ?_
    rintro v Om ⟨rfl,hf⟩
    have L:=L.ext hf
    have c7:=L.cell 1 rfl
    have c5:=L.cell 2 rfl
    unfold Ot.cells at c5
    have p0:=ab p0 hf (by simp)
    have p1:=ab p1 hf (by simp)
    have p2:=ab p2 hf (by simp)
    have p3:=ab p3 hf (by simp)
    have p4:=ab p4 hf (by simp)
    have hqq:=hqc _ (Nn.ext L.fr)
    simp only[go_sem,c7,c5,p0,p1,p2,p3,p4]
    refine hqq.mono ?_
    rintro v Wh ⟨o9,rfl,ho9,hf⟩
    have L:=L.ext hf
    have c5:=L.cell 2 rfl
    unfold Ot.cells at c5
    have hl9:=ho9.len
    have PR:(Ot.au [59,32] (oq) [61,62,32]).s.length=5 + (oq).s.length:=by
     show ([59,32] ++ ((oq).s ++ [61,62,32])).length=_
     simp only[ah1,afK,aht]; omega
    simp only[go_sem,c5]
    refine (bB (Ot.au [59,32] (oq) [61,62,32]) o9 (by omega) _).mono ?_
    rintro v Wi ⟨rfl,hf⟩
    have L:=L.ext hf
    have c5:=L.cell 2 rfl
    unfold Ot.cells at c5
    have hlc:((Ot.au [59,32] (oq) [61,62,32]).cat o9).s.length=5 + (oq).s.length + o9.s.length:=by
     show ((Ot.au [59,32] (oq) [61,62,32]).s ++ o9.s).length=_
     rw[ah1,PR]
    simp only[go_sem,c5]
    refine (bB o ((Ot.au [59,32] (oq) [61,62,32]).cat o9) (by omega) _).mono ?_
    rintro v H18 ⟨rfl,hf⟩
    have L:=L.ext hf
    rw[hv (o.cat ((Ot.au [59,32] (oq) [61,62,32]).cat o9))]
    simp only[go_sem]
    refine L.ae 2 rfl rfl (ah (o.cat ((Ot.au [59,32] (oq) [61,62,32]).cat o9))) fun H19 L=>?_
    have L:=L.drop (l':=[.dz b5 62 (o.cat ((Ot.au [59,32] (oq) [61,62,32]).cat o9)).cells,.dz b4 62 Ot.bad.cells]) (ds':=[]) (ai2 _ (ai2 _ (ahx _))) (fun p hp=>by simp at hp)
    simp only[go_sem]
    refine aj (i + 1) (by omega) ?_ ⟨by omega,_,L,?_⟩
    ·simp only[go_sem,gl]
    ·refine (hI.cat (((hoq).au [59,32] [61,62,32]).cat ho9)).to (by rw[fy _ rs i ba,zB,Da]; simp[aiR]) (fun _=>⟨?_,by simp⟩) (by simp; omega)
     rw[oE rs i ba,Rs,if_pos Ii]; simp
   ·have hg:(0:Int) < (m:Int):=by omega
    have vv:¬ (m:Int)≤0:=by omega
    have c8:=L.cell 0 rfl
    unfold Ot.cells at c8
    simp only[go_sem,Fg,hg,vv,c8]
    refine (aX [32] _).mono ?_
    rintro v vg ⟨rfl,hf⟩
    have L:=L.ext hf
    have c8:=L.cell 0 rfl
    unfold Ot.cells at c8
    have IB:(Ot.word [32]).s.length=1:=rfl
    simp only[go_sem,c8]
    refine (bB oq (Ot.word [32]) (by omega) _).mono ?_
    rintro v tL ⟨rfl,hf⟩
    have L:=L.ext hf
    rw[hv (oq.cat (Ot.word [32]))]
    simp only[go_sem]
    refine L.ae 0 rfl rfl (ah (oq.cat (Ot.word [32]))) fun Q3 L=>?_
    have fj:(oq.cat (Ot.word [32])).s.length≤jU init + 1:=by
     show (oq.s ++ [32]).length≤_
     simp; omega
    have c8:=L.cell 0 rfl
    have c7:=L.cell 1 rfl
    have c5:=L.cell 2 rfl
    unfold Ot.cells at c8 c5
    have p0:=ab p0 L.fr (by simp)
    have p1:=ab p1 L.fr (by simp)
    have p2:=ab p2 L.fr (by simp)
    have p3:=ab p3 L.fr (by simp)
    have p4:=ab p4 L.fr (by simp)
    simp only[go_sem,Fg,c8,c7,c5,Fg,jl,p0,p1,p2,p3,p4]
    refine (bK [59,32] [61,62,32] (oq.cat (Ot.word [32])) (by simp; omega) _).mono ?_
    rintro v Om ⟨rfl,hf⟩
    have L:=L.ext hf
    have c7:=L.cell 1 rfl
    have c5:=L.cell 2 rfl
    unfold Ot.cells at c5
    have p0:=ab p0 hf (by simp)
    have p1:=ab p1 hf (by simp)
    have p2:=ab p2 hf (by simp)
    have p3:=ab p3 hf (by simp)
    have p4:=ab p4 hf (by simp)
    have hqq:=hqc _ (Nn.ext L.fr)
    simp only[go_sem,c7,c5,p0,p1,p2,p3,p4]
    refine hqq.mono ?_
    rintro v Wh ⟨o9,rfl,ho9,hf⟩
    have L:=L.ext hf
    have c5:=L.cell 2 rfl
    unfold Ot.cells at c5
    have hl9:=ho9.len
    have PR:(Ot.au [59,32] (oq.cat (Ot.word [32])) [61,62,32]).s.length=5 + (oq.cat (Ot.word [32])).s.length:=by
     show ([59,32] ++ ((oq.cat (Ot.word [32])).s ++ [61,62,32])).length=_
     simp only[ah1,afK,aht]; omega
    simp only[go_sem,c5]
    refine (bB (Ot.au [59,32] (oq.cat (Ot.word [32])) [61,62,32]) o9 (by omega) _).mono ?_
    rintro v Wi ⟨rfl,hf⟩
    have L:=L.ext hf
    have c5:=L.cell 2 rfl
    unfold Ot.cells at c5
    have hlc:((Ot.au [59,32] (oq.cat (Ot.word [32])) [61,62,32]).cat o9).s.length=5 + (oq.cat (Ot.word [32])).s.length + o9.s.length:=by
     show ((Ot.au [59,32] (oq.cat (Ot.word [32])) [61,62,32]).s ++ o9.s).length=_
     rw[ah1,PR]
    simp only[go_sem,c5]
    refine (bB o ((Ot.au [59,32] (oq.cat (Ot.word [32])) [61,62,32]).cat o9) (by omega) _).mono ?_
    rintro v H18 ⟨rfl,hf⟩
    have L:=L.ext hf
    rw[hv (o.cat ((Ot.au [59,32] (oq.cat (Ot.word [32])) [61,62,32]).cat o9))]
    simp only[go_sem]
    refine L.ae 2 rfl rfl (ah (o.cat ((Ot.au [59,32] (oq.cat (Ot.word [32])) [61,62,32]).cat o9))) fun H19 L=>?_
    have L:=L.drop (l':=[.dz b5 62 (o.cat ((Ot.au [59,32] (oq.cat (Ot.word [32])) [61,62,32]).cat o9)).cells,.dz b4 62 Ot.bad.cells]) (ds':=[]) (ai2 _ (ai2 _ (ahx _))) (fun p hp=>by simp at hp)
    simp only[go_sem]
    refine aj (i + 1) (by omega) ?_ ⟨by omega,_,L,?_⟩
    ·simp only[go_sem,gl]
    ·refine (hI.cat (((hoq.cat (Is.word [32])).au [59,32] [61,62,32]).cat ho9)).to (by rw[fy _ rs i ba,zB,Da]; simp[aiR]) (fun _=>⟨?_,by simp⟩) (by simp; omega)
     rw[oE rs i ba,Rs,if_neg (by omega)]; simp
  ·have h1:¬ ((i:Int) < (rs.length:Int)):=by omega
   obtain rfl:i=rs.length:=by omega
   rw[ain] at hI
   have ck:=L.cell 0 rfl
   unfold Ot.cells at ck
   simp only[go_sem,h1,ck]
   refine L.ae 1 rfl rfl (ah o) fun H6 L=>?_
   have c1:=L.cell 1 rfl
   unfold Ot.cells at c1
   simp only[go_sem,c1]
   exact ⟨o,rfl,hI,L.fr⟩
def PS (N:Nat):Prop:=∀ x:Nd,aq x≤N→∀ {H:Heap} {v:Value},NA H x v→wN x≤1000000000→RC 44 [v] H (cV x) (sL x) (gM x) (wN x)
theorem ya:∀ ks:List Nd,fb ks=ks.all uQ
 | []=>rfl
 | x :: r=>by rw[fb,ya r,afb]
theorem GK:∀ (b:Bool) (ks:List Nd),qN sM b ks=ti b ks
 | _,[]=>by rw[ti]; rfl
 | b,x :: r=>by rw[sI,qN,GK false r]
theorem Dh:∀ ks:List Nd,uk Ls ks=nx ks
 | []=>by rw[nx]; rfl
 | x :: r=>by rw[nx,uk,Dh r]
theorem yb:∀ ks:List Nd,(ks.map fun x=>wN x - 4).sum + 2 * ks.length≤wL ks
 | []=>ahn _
 | x :: r=>by
   obtain ⟨k,t,n,a,kk⟩:=x
   have:=yb r
   rw[afi,aiQ,afK,wL,wN]
   omega
theorem PT {k n p:Int} {t:Bs} {ks:List Nd}:uQ (.mk k t n p ks)=(decide (k=22) && aT t && decide (n=0) && decide (ks.length=1) && (fw ks).all id):=Mf
set_option maxHeartbeats 4000000 in
theorem Di {N:Nat} (ih:PS N) {ks:List Nd} (dO:aA ks≤N + 1) {H:Heap} {aa:Option Addr} {cc:Nat} (hk:dA H [] (aW ks) [.slice aa ks.length cc]) (eJ:ks.length≤maxLen) (hw:wL ks≤1000000000) :
 aE afI 89 #[.slice aa ks.length cc] H fun v H'=>∃ os a c,v= .slice a os.length c∧gn Ot.cells H' a os∧os.length≤maxLen∧sQ os≤wL ks∧Is (Ot.dX true os) (fb ks) (ti true ks) (nx ks) (wL ks)∧Fr [] H H':=by
 refine af (args:=[_]) Tryz.func89 aat (ahi rfl) ?_
 have L:=L0 H
 have hv:∀ o:Ot,o.val= .agg #[sv o.s,.int .i64 o.n,.bool o.b]:=fun o=>rfl
 have M9:64 * ks.length≤wL ks:=xM ks
 simp only[go_sem,c89]
 refine LO.new L fun b H2 L=>?_
 simp only[go_sem]
 refine bC (fun (p:Nat × Value) H'=>p.1≤ks.length∧∃ os g,LO H p.2 os g H' []∧nz os (ks.take p.1) uQ sM Ls (fun x=>wN x - 4))
  (fun p=>[(0,.slice aa ks.length cc),(2,.slice none 0 0),(3,p.2),(4,.int .i64 p.1)]) (fun p=>ks.length - p.1) (0,.slice (some ⟨b,0,none⟩) 0 0) ?_ ?_ ?_
 ·exact ⟨ahn _,[],_,L,by rw[ahB]; exact nz.nil⟩
 ·simp only[go_sem]
 ·rintro ⟨i,v⟩ H3 ⟨hi,os,g,L,hI⟩
  dsimp only at hi L hI
  rcases ae8 i ks.length with ba | nf
  ·have h0:(0:Int)≤(i:Int):=by omega
   have h1:(i:Int) < (ks.length:Int):=by omega
   have gl:=dD ba eJ
   have tj:=eM ks i ba
   have Ah:=mc ks (i + 1)
   have hss:=hJ ks i ba
   obtain ⟨b',oo,c,k1,t1,n1,a1,bm,mD,e1,e2,⟨q0,q1,q2,q3,q4⟩,hr⟩:=cm hk i ba
   cases e1
   have q0:=ab q0 L.fr (by simp)
   have q1:=ab q1 L.fr (by simp)
   have q2:=ab q2 L.fr (by simp)
   have q3:=ab q3 L.fr (by simp)
   have q4:=ab q4 L.fr (by simp)
   simp only[ahl] at q0
   obtain ⟨a2,c2,rfl,yh,nr⟩:=fY hr
   have bZ:uQ ks[i]=false→fb ks=false:=fun hf=>by
    rw[ya]
    cases e:ks.all uQ with
    | false=>rfl
    | true=>
      have:=afg.1 e ks[i] (ahD ba)
      rw[hf] at this; cases this
   have MA:uQ ks[i]=(decide (k1=22) && aT t1 && decide (n1=0) && decide (bm.length=1) && (fw bm).all id):=by rw[e2,PT]
   simp only[go_sem,h0,h1,q0,q1,q2,q3,q4]
   refine L.aS fun b7 H6 L=>?_
   simp only[go_sem]
   refine L.ae 0 rfl rfl (ax rfl) fun H7 L=>?_
   have ck:=L.cell 0 rfl
   by_cases mi:k1=22
   case neg=>
    have ll:uQ ks[i]=false:=by rw[MA]; simp[mi]
    simp only[go_sem,ck,mi]
    refine (aB _).mono ?_
    rintro v HB ⟨rfl,hf⟩
    have L:=L.ext hf
    rw[hv Ot.bad]
    simp only[go_sem]
    refine L.bc fun bz HC L=>?_
    simp only[go_sem]
    have hz:=L.get 0 rfl
    have fm:gn Ot.cells HC (some ⟨bz,0,none⟩) [Ot.bad]:=(Own.mu (n:=1) (size:=3) hz rfl (by simp[maxLen])).z7
    refine ⟨[Ot.bad],_,_,rfl,fm,by simp[maxLen],?_,?_,L.fr⟩
    ·show 0 + 2 + 0≤_
     omega
    ·rw[bZ ll]
     exact ⟨rfl,(fun h=>nomatch h),ahn _,ahn _⟩
   have sU:=fun H=>gI t1 H
   unfold sv at ck sU
   simp only[go_sem,ck,mi]
   refine (sU _).mono ?_
   rintro v H8 ⟨rfl,hf⟩
   have L:=L.ext hf
   have ck:=L.cell 0 rfl
   unfold sv at ck
   by_cases jz:aT t1=true
   case neg=>
    have ll:uQ ks[i]=false:=by rw[MA]; simp[jz]
    simp only[go_sem,ck,jz]
    refine (aB _).mono ?_
    rintro v HB ⟨rfl,hf⟩
    have L:=L.ext hf
    rw[hv Ot.bad]
    simp only[go_sem]
    refine L.bc fun bz HC L=>?_
    simp only[go_sem]
    have hz:=L.get 0 rfl
    have fm:gn Ot.cells HC (some ⟨bz,0,none⟩) [Ot.bad]:=(Own.mu (n:=1) (size:=3) hz rfl (by simp[maxLen])).z7
    refine ⟨[Ot.bad],_,_,rfl,fm,by simp[maxLen],?_,?_,L.fr⟩
    ·show 0 + 2 + 0≤_
     omega
    ·rw[bZ ll]
     exact ⟨rfl,(fun h=>nomatch h),ahn _,ahn _⟩
   by_cases yK:n1=0
   case neg=>
    have ll:uQ ks[i]=false:=by rw[MA]; simp[yK]
    simp only[go_sem,ck,jz,yK]
    refine (aB _).mono ?_
    rintro v HB ⟨rfl,hf⟩
    have L:=L.ext hf
    rw[hv Ot.bad]
    simp only[go_sem]
    refine L.bc fun bz HC L=>?_
    simp only[go_sem]
    have hz:=L.get 0 rfl
    have fm:gn Ot.cells HC (some ⟨bz,0,none⟩) [Ot.bad]:=(Own.mu (n:=1) (size:=3) hz rfl (by simp[maxLen])).z7
    refine ⟨[Ot.bad],_,_,rfl,fm,by simp[maxLen],?_,?_,L.fr⟩
    ·show 0 + 2 + 0≤_
     omega
    ·rw[bZ ll]
     exact ⟨rfl,(fun h=>nomatch h),ahn _,ahn _⟩
   have Ed:((bm.length:Int)=1)=(bm.length=1):=by apply propext; omega
   by_cases uq:bm.length=1
   case neg=>
    have ll:uQ ks[i]=false:=by rw[MA]; simp[uq]
    simp only[go_sem,ck,jz,yK,Ed,uq]
    refine (aB _).mono ?_
    rintro v HB ⟨rfl,hf⟩
    have L:=L.ext hf
    rw[hv Ot.bad]
    simp only[go_sem]
    refine L.bc fun bz HC L=>?_
    simp only[go_sem]
    have hz:=L.get 0 rfl
    have fm:gn Ot.cells HC (some ⟨bz,0,none⟩) [Ot.bad]:=(Own.mu (n:=1) (size:=3) hz rfl (by simp[maxLen])).z7
    refine ⟨[Ot.bad],_,_,rfl,fm,by simp[maxLen],?_,?_,L.fr⟩
    ·show 0 + 2 + 0≤_
     omega
    ·rw[bZ ll]
     exact ⟨rfl,(fun h=>nomatch h),ahn _,ahn _⟩
   subst mi yK
   match bm,uq with
   | [y],_=>
     obtain ⟨b6,o6,c6,k6,t6,n6,a6,Bk,nC,u1,u2,⟨p0,p1,p2,p3,p4⟩,lg⟩:=cm hr 0 (by simp)
     cases u1
     rw[aiK] at u2
     simp only[ahl,aiL] at p0 p1 p2 p3 p4
     have Nn:NA H y (.agg #[.int .i64 k6,sv t6,.int .i64 n6,.int .i64 a6,nC]):=u2 ▸ NA.mk lg
     rw[e2,aq,aA,aA] at hss
     rw[e2,wN,wL,wL] at tj
     have hy:aq y≤N:=by omega
     have MB:=fun {H':Heap} (hf:Fr [] H H')=>ih y hy (Nn.ext hf) (by omega)
     have Ep:=cX jz
     have p0:=ab p0 L.fr (by simp)
     have p1:=ab p1 L.fr (by simp)
     have p2:=ab p2 L.fr (by simp)
     have p3:=ab p3 L.fr (by simp)
     have p4:=ab p4 L.fr (by simp)
     simp only[go_sem,ck,jz,p0,p1,p2,p3,p4,aI,fU,Ed]
     refine ⟨by omega,?_⟩
     refine (aX (t1 ++ [58,32]) _).mono ?_
     rintro v1 H9 ⟨rfl,hf⟩
     have L:=L.ext hf
     have ck:=L.cell 0 rfl
     have p0:=ab p0 hf (by simp)
     have p1:=ab p1 hf (by simp)
     have p2:=ab p2 hf (by simp)
     have p3:=ab p3 hf (by simp)
     have p4:=ab p4 hf (by simp)
     unfold sv at MB
     simp only[go_sem,ck,p0,p1,p2,p3,p4]
     refine (MB L.fr).mono ?_
     rintro v1 kb ⟨oy,rfl,kB,hf⟩
     have L:=L.ext hf
     have IK:=kB.len
     have GL:(Ot.word (t1 ++ [58,32])).s.length=t1.length + 2:=by show (t1 ++ [58,32]).length=_; simp
     simp only[go_sem]
     refine (bB (Ot.word (t1 ++ [58,32])) oy (by omega) _).mono ?_
     rintro v1 qx ⟨rfl,hf⟩
     have L:=L.ext hf
     have hc:Is ((Ot.word (t1 ++ [58,32])).cat oy) (uQ ks[i]) (sM ks[i]) (Ls ks[i]) (wN ks[i] - 4):=by
      refine ((Is.word _).cat kB).to ?_ (fun _=>⟨?_,?_⟩) ?_
      ·rw[MA,jz,fw,fw]; simp
      ·rw[e2,xD]; simp
      ·rw[e2,xr]; simp
      ·rw[e2,wN,wL,wL]; simp; omega
     generalize (Ot.word (t1 ++ [58,32])).cat oy=oc at *
     rw[hv oc]
     simp only[go_sem]
     refine L.bc fun b5 vg L=>?_
     simp only[go_sem]
     have ln:=hI.1
     rw[afP] at ln
     refine LO.snoc (o:=oc) L (by omega) fun a' c' g' tL L=>?_
     have L:LO H (.slice a' (os ++ [oc]).length c') (os ++ [oc]) g' tL []:=L.drop (List.nil_sublist _) fun p hp=>hp
     simp only[go_sem]
     refine aj (i + 1,.slice a' (os ++ [oc]).length c') (by show ks.length - (i + 1) < ks.length - i; omega) ?_ ⟨by show i + 1≤_; omega,os ++ [oc],g',L,?_⟩
     ·simp only[go_sem,gl]
     ·show nz (os ++ [oc]) (ks.take (i + 1)) _ _ _ _
      rw[aim ba]
      exact hI.snoc hc
  ·have h1:¬ ((i:Int) < (ks.length:Int)):=by omega
   obtain rfl:i=ks.length:=by omega
   rw[ain] at hI
   simp only[go_sem,h1]
   obtain ⟨a,c,rfl,r1,r2⟩:=L.slice
   have e:=yb ks
   exact ⟨os,a,c,rfl,r1,r2,ah8 (pH hI) e,(hI.dX true).to (ya ks).symm (fun _=>⟨GK _ _,Dh _⟩) e,L.fr⟩
def yc (k:Int):Bs × Nat × Nat × Nat:=match eH k with
 | some (o,lv,l,r)=>(32 :: (fM o ++ [32]),lv,l,r)
 | none=>([],8,0,0)
theorem MC (k:Int) (H:Heap):aE afI 80 #[.int .i64 k] H fun v H'=>v= .tuple #[sv (yc k).1,.int .i64 (yc k).2.1,.int .i64 (yc k).2.2.1,.int .i64 (yc k).2.2.2]∧H'=H:=by
 refine af (args:=[_]) Tryz.func80 aae (ahi rfl) ?_
 simp only[go_sem,c80]
 by_cases U5:k=31
 ·subst U5; simp only[go_sem]; rfl
 by_cases U6:k=32
 ·subst U6; simp only[go_sem]; rfl
 by_cases U8:k=34
 ·subst U8; simp only[go_sem]; rfl
 by_cases U9:k=35
 ·subst U9; simp only[go_sem]; rfl
 by_cases Va:k=36
 ·subst Va; simp only[go_sem]; rfl
 by_cases Vb:k=37
 ·subst Vb; simp only[go_sem]; rfl
 by_cases Vc:k=38
 ·subst Vc; simp only[go_sem]; rfl
 by_cases IA:k=39
 ·subst IA; simp only[go_sem]; rfl
 by_cases Ni:k=40
 ·subst Ni; simp only[go_sem]; rfl
 by_cases U7:k=41
 ·subst U7; simp only[go_sem]; rfl
 simp only[go_sem,U5,U6,IA,Ni,U7,U8,U9,Va,Vb,Vc]
 simp[yc,eH,U5,U6,IA,Ni,U7,U8,U9,Va,Vb,Vc,sv]
theorem mX (H:Heap):aE afI 118 #[] H fun v H'=>v= .slice (some ⟨H.size,0,none⟩) 17 17∧eg H' H.size 9 (aZ.map sv)∧Fr [] H H':=by
 refine af (args:=[]) Tryz.func118 TF (ahi rfl) ?_
 simp only[go_sem,aax]
 refine db fun H1 hn hf _=>?_
 simp only[go_sem]
 exact ⟨hn,hf⟩
def Rw (N:Nat):Prop:=∀ x:Nd,aq x≤N→∀ {H:Heap} {v:Value},NA H x v→wN x≤1000000000→RC 81 [v] H (okB x) (sB x) (gu x) (wN x - 8)
def AtR (N:Nat):Prop:=∀ x:Nd,aq x≤N→∀ {H:Heap} {v:Value},NA H x v→wN x≤1000000000→∀ req:Nat,RC 43 [v,.int .i64 req] H (okB x) (iU x req) (bT x req) (wN x - 4)
theorem PU {k:Int} (h1:k≠30) (h2:k≠33) (h3:k≠42) (h4:k≠43):(yc k).2.1=ko k:=by
 unfold yc ko
 rw[if_neg h1,if_neg h2,if_neg (by omega)]
 cases eH k <;> rfl
set_option maxHeartbeats 2000000 in
theorem MD {N:Nat} (ih:Rw N):AtR N:=by
 intro x dO H v hx hw req
 have eS:=hx
 have hi:=fun {H':Heap} (hf:Fr [] H H')=>ih x dO (eS.ext hf) hw
 obtain ⟨k,t,n,a,ks,aa,cc,rfl,rfl,hk,jG,eJ⟩:=hx.fields
 refine af (args:=[_,_]) Tryz.func43 Z1 (ahi rfl) ?_
 have L:=L0 H
 have hv:∀ o:Ot,o.val= .agg #[sv o.s,.int .i64 o.n,.bool o.b]:=fun o=>rfl
 have kE:jm (.mk k t n a ks)=ko k:=rfl
 have tm:64≤wN (.mk k t n a ks):=by rw[wN]; omega
 simp only[go_sem,c43]
 refine L.aS fun b1 H1 L=>?_
 simp only[go_sem]
 refine L.aS fun b2 H2 L=>?_
 have c1:=L.cell 1 rfl
 unfold sv at c1 hi
 simp only[go_sem,c1]
 refine (MC k _).mono ?_
 rintro v H3 ⟨rfl,rfl⟩
 simp only[go_sem,c1]
 by_cases ym:k=30
 ·have hl:ko k=0:=by rw[ym]; rfl
  simp only[go_sem,ym]
  rw[← ym]
  refine (hi L.fr).mono ?_
  rintro v H4 ⟨o,rfl,ho,hf⟩
  have L:=L.ext hf
  have ln:=ho.len
  have WB:=ho.dep
  rw[hv o]
  simp only[go_sem]
  refine L.aS fun b3 H5 L=>?_
  simp only[go_sem]
  refine L.ae 0 rfl rfl (ah o) fun H6 L=>?_
  have c0:=L.cell 0 rfl
  unfold Ot.cells at c0
  by_cases ba:ko k < req
  ·have di:(0:Int) < (req:Int):=by omega
   have Np:(Ot.au [40] o [41]).n≤1000000000:=by
    show max 0 (max o.n 0)≤_
    omega
   simp only[go_sem,c0,di]
   refine (bK [40] [41] o (by simp; omega) _).mono ?_
   rintro v H7 ⟨rfl,hf⟩
   have L:=L.ext hf
   simp only[go_sem]
   refine (iV (Ot.au [40] o [41]) (by omega) _).mono ?_
   rintro v H8 ⟨rfl,hf⟩
   have L:=L.ext hf
   rw[hv (Ot.au [40] o [41]).il]
   simp only[go_sem]
   refine L.ae 1 rfl rfl (ah (Ot.au [40] o [41]).il) fun HC L=>?_
   have c1:=L.cell 1 rfl
   simp only[go_sem,c1]
   refine ⟨(Ot.au [40] o [41]).il,rfl,?_,L.fr⟩
   unfold iU bT
   rw[kE,decide_eq_true ba]
   exact (ho.au [40] [41]).il.to rfl (fun _=>⟨rfl,rfl⟩) (by simp; omega)
  ·have di:¬ (0:Int) < (req:Int):=by omega
   simp only[go_sem,c0,di]
   refine L.ae 1 rfl rfl (ah o) fun HC L=>?_
   have c1:=L.cell 1 rfl
   simp only[go_sem,c1]
   refine ⟨o,rfl,?_,L.fr⟩
   unfold iU bT
   rw[kE,decide_eq_false ba]
   exact ho.to rfl (fun _=>⟨rfl,rfl⟩) (by omega)
 by_cases yH:k=33
 ·have hl:ko k=3:=by rw[yH]; rfl
  simp only[go_sem,ym,yH]
  rw[← yH]
  refine (hi L.fr).mono ?_
  rintro v H4 ⟨o,rfl,ho,hf⟩
  have L:=L.ext hf
  have ln:=ho.len
  have WB:=ho.dep
  rw[hv o]
  simp only[go_sem]
  refine L.aS fun b3 H5 L=>?_
  simp only[go_sem]
  refine L.ae 0 rfl rfl (ah o) fun H6 L=>?_
  have c0:=L.cell 0 rfl
  unfold Ot.cells at c0
  by_cases ba:ko k < req
  ·have di:(3:Int) < (req:Int):=by omega
   have Np:(Ot.au [40] o [41]).n≤1000000000:=by
    show max 0 (max o.n 0)≤_
    omega
   simp only[go_sem,c0,di]
   refine (bK [40] [41] o (by simp; omega) _).mono ?_
   rintro v H7 ⟨rfl,hf⟩
   have L:=L.ext hf
   simp only[go_sem]
   refine (iV (Ot.au [40] o [41]) (by omega) _).mono ?_
   rintro v H8 ⟨rfl,hf⟩
   have L:=L.ext hf
   rw[hv (Ot.au [40] o [41]).il]
   simp only[go_sem]
   refine L.ae 1 rfl rfl (ah (Ot.au [40] o [41]).il) fun HC L=>?_
   have c1:=L.cell 1 rfl
   simp only[go_sem,c1]
   refine ⟨(Ot.au [40] o [41]).il,rfl,?_,L.fr⟩
   unfold iU bT
   rw[kE,decide_eq_true ba]
   exact (ho.au [40] [41]).il.to rfl (fun _=>⟨rfl,rfl⟩) (by simp; omega)
  ·have di:¬ (3:Int) < (req:Int):=by omega
   simp only[go_sem,c0,di]
   refine L.ae 1 rfl rfl (ah o) fun HC L=>?_
   have c1:=L.cell 1 rfl
   simp only[go_sem,c1]
   refine ⟨o,rfl,?_,L.fr⟩
   unfold iU bT
   rw[kE,decide_eq_false ba]
   exact ho.to rfl (fun _=>⟨rfl,rfl⟩) (by omega)
 by_cases AX:k=42
 ·have hl:ko k=7:=by rw[AX]; rfl
  simp only[go_sem,ym,yH,AX]
  rw[← AX]
  refine (hi L.fr).mono ?_
  rintro v H4 ⟨o,rfl,ho,hf⟩
  have L:=L.ext hf
  have ln:=ho.len
  have WB:=ho.dep
  rw[hv o]
  simp only[go_sem]
  refine L.aS fun b3 H5 L=>?_
  simp only[go_sem]
  refine L.ae 0 rfl rfl (ah o) fun H6 L=>?_
  have c0:=L.cell 0 rfl
  unfold Ot.cells at c0
  by_cases ba:ko k < req
  ·have di:(7:Int) < (req:Int):=by omega
   have Np:(Ot.au [40] o [41]).n≤1000000000:=by
    show max 0 (max o.n 0)≤_
    omega
   simp only[go_sem,c0,di]
   refine (bK [40] [41] o (by simp; omega) _).mono ?_
   rintro v H7 ⟨rfl,hf⟩
   have L:=L.ext hf
   simp only[go_sem]
   refine (iV (Ot.au [40] o [41]) (by omega) _).mono ?_
   rintro v H8 ⟨rfl,hf⟩
   have L:=L.ext hf
   rw[hv (Ot.au [40] o [41]).il]
   simp only[go_sem]
   refine L.ae 1 rfl rfl (ah (Ot.au [40] o [41]).il) fun HC L=>?_
   have c1:=L.cell 1 rfl
   simp only[go_sem,c1]
   refine ⟨(Ot.au [40] o [41]).il,rfl,?_,L.fr⟩
   unfold iU bT
   rw[kE,decide_eq_true ba]
   exact (ho.au [40] [41]).il.to rfl (fun _=>⟨rfl,rfl⟩) (by simp; omega)
  ·have di:¬ (7:Int) < (req:Int):=by omega
   simp only[go_sem,c0,di]
   refine L.ae 1 rfl rfl (ah o) fun HC L=>?_
   have c1:=L.cell 1 rfl
   simp only[go_sem,c1]
   refine ⟨o,rfl,?_,L.fr⟩
   unfold iU bT
   rw[kE,decide_eq_false ba]
   exact ho.to rfl (fun _=>⟨rfl,rfl⟩) (by omega)
 by_cases Bj:k=43
 ·have hl:ko k=7:=by rw[Bj]; rfl
  simp only[go_sem,ym,yH,AX,Bj]
  rw[← Bj]
  refine (hi L.fr).mono ?_
  rintro v H4 ⟨o,rfl,ho,hf⟩
  have L:=L.ext hf
  have ln:=ho.len
  have WB:=ho.dep
  rw[hv o]
  simp only[go_sem]
  refine L.aS fun b3 H5 L=>?_
  simp only[go_sem]
  refine L.ae 0 rfl rfl (ah o) fun H6 L=>?_
  have c0:=L.cell 0 rfl
  unfold Ot.cells at c0
  by_cases ba:ko k < req
  ·have di:(7:Int) < (req:Int):=by omega
   have Np:(Ot.au [40] o [41]).n≤1000000000:=by
    show max 0 (max o.n 0)≤_
    omega
   simp only[go_sem,c0,di]
   refine (bK [40] [41] o (by simp; omega) _).mono ?_
   rintro v H7 ⟨rfl,hf⟩
   have L:=L.ext hf
   simp only[go_sem]
   refine (iV (Ot.au [40] o [41]) (by omega) _).mono ?_
   rintro v H8 ⟨rfl,hf⟩
   have L:=L.ext hf
   rw[hv (Ot.au [40] o [41]).il]
   simp only[go_sem]
   refine L.ae 1 rfl rfl (ah (Ot.au [40] o [41]).il) fun HC L=>?_
   have c1:=L.cell 1 rfl
   simp only[go_sem,c1]
   refine ⟨(Ot.au [40] o [41]).il,rfl,?_,L.fr⟩
   unfold iU bT
   rw[kE,decide_eq_true ba]
   exact (ho.au [40] [41]).il.to rfl (fun _=>⟨rfl,rfl⟩) (by simp; omega)
  ·have di:¬ (7:Int) < (req:Int):=by omega
   simp only[go_sem,c0,di]
   refine L.ae 1 rfl rfl (ah o) fun HC L=>?_
   have c1:=L.cell 1 rfl
   simp only[go_sem,c1]
   refine ⟨o,rfl,?_,L.fr⟩
   unfold iU bT
   rw[kE,decide_eq_false ba]
   exact ho.to rfl (fun _=>⟨rfl,rfl⟩) (by omega)
 have hl:=PU ym yH AX Bj
 simp only[go_sem,ym,yH,AX,Bj]
 rw[hl]
 refine (hi L.fr).mono ?_
 rintro v H4 ⟨o,rfl,ho,hf⟩
 have L:=L.ext hf
 have ln:=ho.len
 have WB:=ho.dep
 rw[hv o]
 simp only[go_sem]
 refine L.aS fun b3 H5 L=>?_
 simp only[go_sem]
 refine L.ae 0 rfl rfl (ah o) fun H6 L=>?_
 have c0:=L.cell 0 rfl
 unfold Ot.cells at c0
 by_cases ba:ko k < req
 ·have di:((ko k:Nat):Int) < (req:Int):=by omega
  have Np:(Ot.au [40] o [41]).n≤1000000000:=by
   show max 0 (max o.n 0)≤_
   omega
  simp only[go_sem,c0,di]
  refine (bK [40] [41] o (by simp; omega) _).mono ?_
  rintro v H7 ⟨rfl,hf⟩
  have L:=L.ext hf
  simp only[go_sem]
  refine (iV (Ot.au [40] o [41]) (by omega) _).mono ?_
  rintro v H8 ⟨rfl,hf⟩
  have L:=L.ext hf
  rw[hv (Ot.au [40] o [41]).il]
  simp only[go_sem]
  refine L.ae 1 rfl rfl (ah (Ot.au [40] o [41]).il) fun HC L=>?_
  have c1:=L.cell 1 rfl
  simp only[go_sem,c1]
  refine ⟨(Ot.au [40] o [41]).il,rfl,?_,L.fr⟩
  unfold iU bT
  rw[kE,decide_eq_true ba]
  exact (ho.au [40] [41]).il.to rfl (fun _=>⟨rfl,rfl⟩) (by simp; omega)
 ·have di:¬ ((ko k:Nat):Int) < (req:Int):=by omega
  simp only[go_sem,c0,di]
  refine L.ae 1 rfl rfl (ah o) fun HC L=>?_
  have c1:=L.cell 1 rfl
  simp only[go_sem,c1]
  refine ⟨o,rfl,?_,L.fr⟩
  unfold iU bT
  rw[kE,decide_eq_false ba]
  exact ho.to rfl (fun _=>⟨rfl,rfl⟩) (by omega)
theorem A5 (fn:Bs):∀ ks:List Nd,nu fn ks=ks.all (lU fn)
 | []=>by rw[nu]; rfl
 | x :: r=>by rw[nu,afb,A5 fn r]
theorem ME (fn:Bs):∀ (b:Bool) (ks:List Nd),qN (sG fn) b ks=sA fn b ks
 | _,[]=>by rw[sA,qN]
 | b,x :: r=>by rw[sA,qN,ME fn false r]
theorem GM (fn:Bs):∀ ks:List Nd,uk (zf fn) ks=ze fn ks
 | []=>by rw[ze,uk]
 | x :: r=>by rw[ze,uk,GM fn r]
theorem abB:aZ.length=17:=by decide
theorem Fh (t:Bs) (i:Nat) (h:i < aZ.length):decide (t ∈ aZ.take (i + 1))=(decide (t ∈ aZ.take i) || decide (aZ[i]=t)):=by
 rw[aim h,ai3]
 simp only[decide_eq_true_eq,Bool.or_eq_true,List.mem_append,List.mem_singleton]
 exact ⟨fun h=>h.imp id Eq.symm,fun h=>h.imp id Eq.symm⟩
theorem AtR.zero {N:Nat} (h:AtR N) {x:Nd} (hx:aq x≤N) {H:Heap} {v:Value} (hn:NA H x v) (hw:wN x≤1000000000):RC 43 [v,.int .i64 0] H (okB x) (sB x) (gu x) (wN x - 4):=by
 have:=h x hx hn hw 0
 rw[fZ] at this
 exact this
set_option maxHeartbeats 4000000 in
theorem MF {N:Nat} (ih:AtR N) {k n a:Int} {t:Bs} {ks:List Nd} (dO:aA ks≤N) {H:Heap} {aa:Option Addr} {cc:Nat} (hk:dA H [] (aW ks) [.slice aa ks.length cc]) (eJ:ks.length≤maxLen) (hw:t.length + wL ks≤1000000000) :
 RC 106 [.agg #[.int .i64 k,sv t,.int .i64 n,.int .i64 a,.slice aa ks.length cc]] H (decide (t ∈ aZ) && decide (n=0) && nu t ks) (t ++ 40 :: (sA t true ks ++ [41])) (ze t ks + 1) (t.length + 4 + wL ks):=by
 refine af (args:=[_]) Tryz.func106 TE (ahi rfl) ?_
 have L:=L0 H
 have hv:∀ o:Ot,o.val= .agg #[sv o.s,.int .i64 o.n,.bool o.b]:=fun o=>rfl
 have M9:64 * ks.length≤wL ks:=xM ks
 have fl:=abB
 simp only[go_sem,aaw]
 refine L.aS fun b1 H1 L=>?_
 simp only[go_sem]
 refine L.aS fun b2 H2 L=>?_
 simp only[go_sem]
 refine bC (fun (i:Nat) H'=>i≤17∧Lv [] H [] (fun _=>True) H' [.dz b2 62 Ot.bad.cells,.dz b1 24 [.int .i64 k,sv t,.int .i64 n,.int .i64 a,.slice aa ks.length cc]] [])
  (fun i=>[(1,.pointer (some ⟨b1,0,none⟩)),(2,.pointer (some ⟨b2,0,none⟩)),(3,.bool (decide (t ∈ aZ.take i))),(4,.int .i64 i)]) (fun i=>17 - i) 0 ?_ ?_ ?_
 ·exact ⟨ahn _,L⟩
 ·simp only[go_sem]
  simp
 ·rintro i H3 ⟨hi,L⟩
  rcases ae8 i 17 with ba | nf
  ·have h0:(0:Int)≤(i:Int):=by omega
   have h1:(i:Int) < (17:Int):=by omega
   have gl:afd.wrap ((i:Int) + 1)=((i + 1:Nat):Int):=by
    rw[aV _ (by omega) (by omega)]; omega
   have jk:=Fh t i (by omega)
   obtain ⟨kn,DL⟩:∃ kn,kn=decide (t ∈ aZ.take i):=⟨_,rfl⟩
   rw[← DL] at jk
   rw[← DL]
   simp only[go_sem,h0,h1]
   refine (mX _).mono ?_
   rintro v H4 ⟨rfl,_,hf⟩
   have L:=L.ext hf
   cases kn with
   | true=>
     simp only[go_sem,h1]
     refine aj (i + 1) (by show 17 - (i + 1) < 17 - i; omega) ?_ ⟨by show i + 1≤_; omega,L⟩
     simp only[Bool.true_or] at jk
     simp only[go_sem,gl,jk]
   | false=>
     have c1:=L.cell 1 rfl
     unfold sv at c1
     simp only[go_sem,h1,c1]
     refine (mX _).mono ?_
     rintro v H5 ⟨rfl,hb,hf⟩
     have L:=L.ext hf
     have cf:=hb.cell i
     rw[List.getElem?_map,List.getElem?_eq_getElem (by omega:i < aZ.length),Option.map_some] at cf
     have c1:=L.cell 1 rfl
     unfold sv at cf c1
     have h2:(0:Int)≤(i:Int)∧(i:Int) < (17:Int):=⟨h0,h1⟩
     simp only[go_sem,h2,cf,c1,oC]
     refine aj (i + 1) (by show 17 - (i + 1) < 17 - i; omega) ?_ ⟨by show i + 1≤_; omega,L⟩
     simp only[Bool.false_or] at jk
     simp only[go_sem,gl,jk]
  ·obtain rfl:i=17:=by omega
   rw[show aZ.take 17=aZ from rfl]
   simp only[go_sem]
   refine (mX _).mono ?_
   rintro v H4 ⟨rfl,_,hf⟩
   have L:=L.ext hf
   have h1:¬ ((17:Nat):Int) < (17:Int):=by omega
   have c1:=L.cell 1 rfl
   unfold sv at c1
   by_cases hT:t ∈ aZ
   case neg=>
    simp only[go_sem,h1,hT,c1]
    refine (aB _).mono ?_
    rintro v HB ⟨rfl,hf⟩
    have L:=L.ext hf
    rw[hv Ot.bad]
    simp only[go_sem]
    refine L.ae 0 rfl rfl (ah Ot.bad) fun HC L=>?_
    have c0:=L.cell 0 rfl
    simp only[go_sem,c0]
    refine ⟨Ot.bad,rfl,(Is.bad [] 0 _).to ?_ (fun h=>nomatch h) (afJ _),L.fr⟩
    simp[hT]
   by_cases hn:n=0
   case neg=>
    simp only[go_sem,h1,hT,c1,hn]
    refine (aB _).mono ?_
    rintro v HB ⟨rfl,hf⟩
    have L:=L.ext hf
    rw[hv Ot.bad]
    simp only[go_sem]
    refine L.ae 0 rfl rfl (ah Ot.bad) fun HC L=>?_
    have c0:=L.cell 0 rfl
    simp only[go_sem,c0]
    refine ⟨Ot.bad,rfl,(Is.bad [] 0 _).to ?_ (fun h=>nomatch h) (afJ _),L.fr⟩
    simp[hn]
   subst hn
   simp only[go_sem,h1,hT,c1]
   refine LO.new L fun b H6 L=>?_
   simp only[go_sem]
   refine bC (fun (p:Nat × Value) H'=>p.1≤ks.length∧∃ os g,LO H p.2 os g H' [.dz b2 62 Ot.bad.cells,.dz b1 24 [.int .i64 k,sv t,.int .i64 0,.int .i64 a,.slice aa ks.length cc]]∧nz os (ks.take p.1) (lU t) (sG t) (zf t) (fun x=>wN x - 4))
    (fun p=>[(1,.pointer (some ⟨b1,0,none⟩)),(2,.pointer (some ⟨b2,0,none⟩)),(5,p.2),(6,.int .i64 p.1)]) (fun p=>ks.length - p.1) (0,.slice (some ⟨b,0,none⟩) 0 0) ?_ ?_ ?_
   ·exact ⟨ahn _,[],_,L,by rw[ahB]; exact nz.nil⟩
   ·simp only[go_sem]
   ·rintro ⟨i,v⟩ H3 ⟨hi,os,g,L,hI⟩
    dsimp only at hi L hI
    have c1:=L.cell 1 rfl
    unfold sv at c1
    rcases ae8 i ks.length with ba | nf
    ·have h0:(0:Int)≤(i:Int):=by omega
     have h1:(i:Int) < (ks.length:Int):=by omega
     have gl:=dD ba eJ
     have tj:=eM ks i ba
     have Ah:=mc ks (i + 1)
     have hss:=hJ ks i ba
     obtain ⟨b',oo,c,k1,t1,n1,a1,bm,mD,e1,e2,⟨q0,q1,q2,q3,q4⟩,hr⟩:=cm hk i ba
     cases e1
     have q0:=ab q0 L.fr (by simp)
     have q1:=ab q1 L.fr (by simp)
     have q2:=ab q2 L.fr (by simp)
     have q3:=ab q3 L.fr (by simp)
     have q4:=ab q4 L.fr (by simp)
     simp only[ahl] at q0
     have aek:NA H ks[i] (.agg #[.int .i64 k1,sv t1,.int .i64 n1,.int .i64 a1,mD]):=e2 ▸ NA.mk hr
     obtain ⟨a2,c2,rfl,yh,nr⟩:=fY hr
     have bZ:lU t ks[i]=false→false=(decide (t ∈ aZ) && decide ((0:Int)=0) && nu t ks):=fun hf=>by
      rw[A5]
      cases e:ks.all (lU t) with
      | false=>simp
      | true=>
        have:=afg.1 e ks[i] (ahD ba)
        rw[hf] at this; cases this
     unfold sv at q1
     simp only[go_sem,h0,h1,c1,q0,q1,q2,q3,q4]
     refine L.aS fun b7 H7 L=>?_
     simp only[go_sem]
     refine L.ae 0 rfl rfl (ax rfl) fun H8 L=>?_
     have ck:=L.cell 0 rfl
     have c1:=L.cell 2 rfl
     unfold sv at ck c1
     by_cases DY:t=[114,101,99]
     ·subst DY
      have hfJ:lU [114,101,99] ks[i]=true→∃ y,k1=52∧aT t1=true∧n1=0∧bm=[y]:=fun h=>by
       rcases jS h with ⟨_,t',p,y,e,h1,h2⟩ | ⟨h1,_⟩ | ⟨h1,_⟩
       ·rw[e2] at e
        cases e
        exact ⟨y,rfl,h1,rfl,rfl⟩
       ·exact absurd h1 (by decide)
       ·exact absurd rfl h1
      have bZ:=fun (hf:¬ ∃ y,k1=52∧aT t1=true∧n1=0∧bm=[y])=>bZ (by
       cases e:lU [114,101,99] ks[i] with
       | false=>rfl
       | true=>exact absurd (hfJ e) hf)
      have sU:=fun H=>gI t1 H
      unfold sv at sU
      by_cases mi:k1=52
      case neg=>
       simp only[go_sem,c1,oC,ck,mi]
       refine (aB _).mono ?_
       rintro v HB ⟨rfl,hf⟩
       have L:=L.ext hf
       rw[hv Ot.bad]
       simp only[go_sem]
       refine L.ae 1 rfl rfl (ah Ot.bad) fun HC L=>?_
       have c0:=L.cell 1 rfl
       simp only[go_sem,c0]
       refine ⟨Ot.bad,rfl,(Is.bad [] 0 _).to ?_ (fun h=>nomatch h) (afJ _),L.fr⟩
       exact bZ fun ⟨_,h,_⟩=>mi h
      subst mi
      simp only[go_sem,c1,oC,ck]
      refine (sU _).mono ?_
      rintro v1 H9 ⟨rfl,hf⟩
      have L:=L.ext hf
      have ck:=L.cell 0 rfl
      have c1:=L.cell 2 rfl
      unfold sv at ck c1
      by_cases jz:aT t1=true
      case neg=>
       simp only[go_sem,ck,jz]
       refine (aB _).mono ?_
       rintro v HB ⟨rfl,hf⟩
       have L:=L.ext hf
       rw[hv Ot.bad]
       simp only[go_sem]
       refine L.ae 1 rfl rfl (ah Ot.bad) fun HC L=>?_
       have c0:=L.cell 1 rfl
       simp only[go_sem,c0]
       refine ⟨Ot.bad,rfl,(Is.bad [] 0 _).to ?_ (fun h=>nomatch h) (afJ _),L.fr⟩
       exact bZ fun ⟨_,_,h,_⟩=>jz h
      by_cases yK:n1=0
      case neg=>
       simp only[go_sem,ck,jz,yK]
       refine (aB _).mono ?_
       rintro v HB ⟨rfl,hf⟩
       have L:=L.ext hf
       rw[hv Ot.bad]
       simp only[go_sem]
       refine L.ae 1 rfl rfl (ah Ot.bad) fun HC L=>?_
       have c0:=L.cell 1 rfl
       simp only[go_sem,c0]
       refine ⟨Ot.bad,rfl,(Is.bad [] 0 _).to ?_ (fun h=>nomatch h) (afJ _),L.fr⟩
       exact bZ fun ⟨_,_,_,h,_⟩=>yK h
      have Ed:((bm.length:Int)=1)=(bm.length=1):=by apply propext; omega
      by_cases uq:bm.length=1
      case neg=>
       simp only[go_sem,ck,jz,yK,Ed,uq]
       refine (aB _).mono ?_
       rintro v HB ⟨rfl,hf⟩
       have L:=L.ext hf
       rw[hv Ot.bad]
       simp only[go_sem]
       refine L.ae 1 rfl rfl (ah Ot.bad) fun HC L=>?_
       have c0:=L.cell 1 rfl
       simp only[go_sem,c0]
       refine ⟨Ot.bad,rfl,(Is.bad [] 0 _).to ?_ (fun h=>nomatch h) (afJ _),L.fr⟩
       exact bZ fun ⟨_,_,_,_,h⟩=>uq (by rw[h]; rfl)
      subst yK
      match bm,uq with
      | [y],_=>
        obtain ⟨b6,o6,c6,k6,t6,n6,a6,Bk,nC,u1,u2,⟨p0,p1,p2,p3,p4⟩,lg⟩:=cm hr 0 (by simp)
        cases u1
        rw[aiK] at u2
        simp only[ahl,aiL] at p0 p1 p2 p3 p4
        have Nn:NA H y (.agg #[.int .i64 k6,sv t6,.int .i64 n6,.int .i64 a6,nC]):=u2 ▸ NA.mk lg
        rw[e2,aq,aA,aA] at hss
        rw[e2,wN,wL,wL] at tj
        have hy:aq y≤N:=by omega
        have MB:=fun {H':Heap} (hf:Fr [] H H')=>ih.zero hy (Nn.ext hf) (by omega)
        have Ep:=cX jz
        have p0:=ab p0 L.fr (by simp)
        have p1:=ab p1 L.fr (by simp)
        have p2:=ab p2 L.fr (by simp)
        have p3:=ab p3 L.fr (by simp)
        have p4:=ab p4 L.fr (by simp)
        unfold sv at MB p1
        simp only[go_sem,ck,jz,p0,p1,p2,p3,p4,aI,fU,Ed]
        refine ⟨by omega,?_⟩
        refine (aX (t1 ++ [58,32]) _).mono ?_
        rintro v1 H9 ⟨rfl,hf⟩
        have L:=L.ext hf
        have ck:=L.cell 0 rfl
        have p0:=ab p0 hf (by simp)
        have p1:=ab p1 hf (by simp)
        have p2:=ab p2 hf (by simp)
        have p3:=ab p3 hf (by simp)
        have p4:=ab p4 hf (by simp)
        unfold sv at ck
        simp only[go_sem,ck,p0,p1,p2,p3,p4]
        refine (MB L.fr).mono ?_
        rintro v1 kb ⟨oy,rfl,kB,hf⟩
        have L:=L.ext hf
        have IK:=kB.len
        have GL:(Ot.word (t1 ++ [58,32])).s.length=t1.length + 2:=by show (t1 ++ [58,32]).length=_; simp
        simp only[go_sem]
        refine (bB (Ot.word (t1 ++ [58,32])) oy (by omega) _).mono ?_
        rintro v1 qx ⟨rfl,hf⟩
        have L:=L.ext hf
        have hc:Is ((Ot.word (t1 ++ [58,32])).cat oy) (lU [114,101,99] ks[i]) (sG [114,101,99] ks[i]) (zf [114,101,99] ks[i]) (wN ks[i] - 4):=by
         refine ((Is.word _).cat kB).to ?_ (fun _=>⟨?_,?_⟩) ?_
         ·rw[e2,lU.eq_def]; simp[jz]
         ·rw[e2,tZ]; simp
         ·rw[e2,zf.eq_def]; simp
         ·rw[e2,wN,wL,wL]; simp; omega
        generalize hoc:(Ot.word (t1 ++ [58,32])).cat oy=oc at *
        rw[hv oc]
        simp only[go_sem]
        refine L.bc fun b5 vg L=>?_
        simp only[go_sem]
        have ln:=hI.1
        rw[afP] at ln
        refine LO.snoc (o:=oc) L (by omega) fun a' c' g' tL L=>?_
        have L:LO H (.slice a' (os ++ [oc]).length c') (os ++ [oc]) g' tL [.dz b2 62 Ot.bad.cells,.dz b1 24 [.int .i64 k,sv ([114,101,99]),.int .i64 0,.int .i64 a,.slice _ ks.length _]]:=L.drop (.cons _ (.cons _ (ahx _))) fun p hp=>hp
        simp only[go_sem]
        refine aj (i + 1,.slice a' (os ++ [oc]).length c') (by show ks.length - (i + 1) < ks.length - i; omega) ?_ ⟨by show i + 1≤_; omega,os ++ [oc],g',L,?_⟩
        ·simp only[go_sem,gl]
        ·show nz (os ++ [oc]) (ks.take (i + 1)) _ _ _ _
         rw[aim ba]
         exact hI.snoc hc
     by_cases MG:t=[109,97,112]
     ·subst MG
      have hfJ:lU [109,97,112] ks[i]=true→∃ y z,k1=52∧t1=[]∧n1=0∧bm=[y,z]:=fun h=>by
       rcases jS h with ⟨h1,_⟩ | ⟨_,p,y,z,e,h1,h2⟩ | ⟨_,h1,_⟩
       ·exact absurd h1 (by decide)
       ·rw[e2] at e
        cases e
        exact ⟨y,z,rfl,rfl,rfl,rfl⟩
       ·exact absurd rfl h1
      have bZ:=fun (hf:¬ ∃ y z,k1=52∧t1=[]∧n1=0∧bm=[y,z])=>bZ (by
       cases e:lU [109,97,112] ks[i] with
       | false=>rfl
       | true=>exact absurd (hfJ e) hf)
      have fQ:=fun H=>mf (k:=k1) (t:=t1) (n:=n1) (a:=a1) (ks:=bm) (aa:=a2) (c:=c2) 2 H
      unfold sv at fQ
      have hmr:¬ (([109,97,112]:Bs)=[114,101,99]):=by decide
      by_cases mi:k1=52
      case neg=>
       simp only[go_sem,c1,oC,hmr,ck,mi]
       refine (aB _).mono ?_
       rintro v HB ⟨rfl,hf⟩
       have L:=L.ext hf
       rw[hv Ot.bad]
       simp only[go_sem]
       refine L.ae 1 rfl rfl (ah Ot.bad) fun HC L=>?_
       have c0:=L.cell 1 rfl
       simp only[go_sem,c0]
       refine ⟨Ot.bad,rfl,(Is.bad [] 0 _).to ?_ (fun h=>nomatch h) (afJ _),L.fr⟩
       exact bZ fun ⟨_,_,h,_⟩=>mi h
      subst mi
      simp only[go_sem,c1,oC,hmr,ck]
      refine (fQ _).mono ?_
      rintro v1 H9 ⟨rfl,hf⟩
      have L:=L.ext hf
      have ck:=L.cell 0 rfl
      have c1:=L.cell 2 rfl
      unfold sv at ck c1
      have Bl:((bm.length:Int)=2)=(bm.length=2):=by apply propext; omega
      by_cases h1:t1=[]∧n1=0∧bm.length=2
      case neg=>
       have hC:(decide (t1=[]) && (decide (n1=0) && decide ((bm.length:Int)=2)))=false:=by
        cases e:(decide (t1=[]) && (decide (n1=0) && decide ((bm.length:Int)=2))) with
        | false=>rfl
        | true=>
          simp only[ae5,decide_eq_true_eq,Bl] at e
          exact absurd ⟨e.1,e.2.1,e.2.2⟩ h1
       rw[hC]
       simp only[go_sem]
       refine (aB _).mono ?_
       rintro v HB ⟨rfl,hf⟩
       have L:=L.ext hf
       rw[hv Ot.bad]
       simp only[go_sem]
       refine L.ae 1 rfl rfl (ah Ot.bad) fun HC L=>?_
       have c0:=L.cell 1 rfl
       simp only[go_sem,c0]
       refine ⟨Ot.bad,rfl,(Is.bad [] 0 _).to ?_ (fun h=>nomatch h) (afJ _),L.fr⟩
       exact bZ fun ⟨_,_,_,a1,a2,h⟩=>h1 ⟨a1,a2,by rw[h]; rfl⟩
      obtain ⟨rfl,rfl,hlen⟩:=h1
      match bm,hlen with
      | [y,z],_=>
        obtain ⟨b6,o6,c6,k6,t6,n6,a6,Bk,nC,u1,u2,⟨p0,p1,p2,p3,p4⟩,lg⟩:=cm hr 0 (by simp)
        cases u1
        obtain ⟨b9,o9,c9,k7,t7,n7,a7,WD,Ik,w1,w2,⟨s0,s1,s2,s3,s4⟩,th⟩:=cm hr 1 (by simp)
        cases w1
        rw[aiK] at u2
        rw[ah2,aiK] at w2
        simp only[ahl,aiL,aiM] at p0 p1 p2 p3 p4 s0 s1 s2 s3 s4
        have Vz:NA H y (.agg #[.int .i64 k6,sv t6,.int .i64 n6,.int .i64 a6,nC]):=u2 ▸ NA.mk lg
        have hnz:NA H z (.agg #[.int .i64 k7,sv t7,.int .i64 n7,.int .i64 a7,Ik]):=w2 ▸ NA.mk th
        rw[e2,aq,aA,aA,aA] at hss
        rw[e2,wN,wL,wL,wL] at tj
        have MH:=fun {H':Heap} (hf:Fr [] H H')=>ih.zero (by omega) (Vz.ext hf) (by omega)
        have hcz:=fun {H':Heap} (hf:Fr [] H H')=>ih.zero (by omega) (hnz.ext hf) (by omega)
        have p0:=ab p0 L.fr (by simp)
        have p1:=ab p1 L.fr (by simp)
        have p2:=ab p2 L.fr (by simp)
        have p3:=ab p3 L.fr (by simp)
        have p4:=ab p4 L.fr (by simp)
        have s0:=ab s0 L.fr (by simp)
        have s1:=ab s1 L.fr (by simp)
        have s2:=ab s2 L.fr (by simp)
        have s3:=ab s3 L.fr (by simp)
        have s4:=ab s4 L.fr (by simp)
        unfold sv at MH hcz p1 s1
        simp only[go_sem,ck,p0,p1,p2,p3,p4,s0,s1,s2,s3,s4]
        refine (MH L.fr).mono ?_
        rintro v1 kb ⟨oy,rfl,kB,hf⟩
        have L:=L.ext hf
        have IK:=kB.len
        have ck:=L.cell 0 rfl
        have s0:=ab s0 hf (by simp)
        have s1:=ab s1 hf (by simp)
        have s2:=ab s2 hf (by simp)
        have s3:=ab s3 hf (by simp)
        have s4:=ab s4 hf (by simp)
        unfold sv at ck
        simp only[go_sem,ck,s0,s1,s2,s3,s4]
        refine (aX [58,32] _).mono ?_
        rintro v1 qx ⟨rfl,hf⟩
        have L:=L.ext hf
        have ck:=L.cell 0 rfl
        have s0:=ab s0 hf (by simp)
        have s1:=ab s1 hf (by simp)
        have s2:=ab s2 hf (by simp)
        have s3:=ab s3 hf (by simp)
        have s4:=ab s4 hf (by simp)
        unfold sv at ck
        simp only[go_sem,ck,s0,s1,s2,s3,s4]
        refine (hcz L.fr).mono ?_
        rintro v1 vg ⟨oz,rfl,PV,hf⟩
        have L:=L.ext hf
        have hlz:=PV.len
        have GL:(Ot.word [58,32]).s.length=2:=rfl
        simp only[go_sem]
        refine (bB (Ot.word [58,32]) oz (by omega) _).mono ?_
        rintro v1 tL ⟨rfl,hf⟩
        have L:=L.ext hf
        have hlc:((Ot.word [58,32]).cat oz).s.length=2 + oz.s.length:=by
         show ([58,32] ++ oz.s).length=_
         simp; omega
        simp only[go_sem]
        refine (bB oy ((Ot.word [58,32]).cat oz) (by omega) _).mono ?_
        rintro v1 Q3 ⟨rfl,hf⟩
        have L:=L.ext hf
        have hc:Is (oy.cat ((Ot.word [58,32]).cat oz)) (lU [109,97,112] ks[i]) (sG [109,97,112] ks[i]) (zf [109,97,112] ks[i]) (wN ks[i] - 4):=by
         refine (kB.cat ((Is.word _).cat PV)).to ?_ (fun _=>⟨?_,?_⟩) ?_
         ·rw[e2,lU.eq_def]; simp
         ·rw[e2,ua]; simp
         ·rw[e2,zf.eq_def]; simp
         ·rw[e2,wN,wL,wL,wL]; simp; omega
        generalize hoc:oy.cat ((Ot.word [58,32]).cat oz)=oc at *
        rw[hv oc]
        simp only[go_sem]
        refine L.bc fun b5 vg L=>?_
        simp only[go_sem]
        have ln:=hI.1
        rw[afP] at ln
        refine LO.snoc (o:=oc) L (by omega) fun a' c' g' tL L=>?_
        have L:LO H (.slice a' (os ++ [oc]).length c') (os ++ [oc]) g' tL [.dz b2 62 Ot.bad.cells,.dz b1 24 [.int .i64 k,sv ([109,97,112]),.int .i64 0,.int .i64 a,.slice _ ks.length _]]:=L.drop (.cons _ (.cons _ (ahx _))) fun p hp=>hp
        simp only[go_sem]
        refine aj (i + 1,.slice a' (os ++ [oc]).length c') (by show ks.length - (i + 1) < ks.length - i; omega) ?_ ⟨by show i + 1≤_; omega,os ++ [oc],g',L,?_⟩
        ·simp only[go_sem,gl]
        ·show nz (os ++ [oc]) (ks.take (i + 1)) _ _ _ _
         rw[aim ba]
         exact hI.snoc hc
     have MB:=fun {H':Heap} (hf:Fr [] H H')=>ih.zero (x:=ks[i]) (by omega) (aek.ext hf) (by omega)
     unfold sv at MB
     simp only[go_sem,c1,oC,DY,MG,ck]
     refine (MB L.fr).mono ?_
     rintro v1 kb ⟨oy,rfl,kB,hf⟩
     have L:=L.ext hf
     have hc:Is oy (lU t ks[i]) (sG t ks[i]) (zf t ks[i]) (wN ks[i] - 4):=by
      rw[l9 DY MG,(ib DY MG _).1,(ib DY MG _).2.1]
      exact kB
     generalize hoc:oy=oc at *
     rw[hv oc]
     simp only[go_sem]
     refine L.bc fun b5 vg L=>?_
     simp only[go_sem]
     have ln:=hI.1
     rw[afP] at ln
     refine LO.snoc (o:=oc) L (by omega) fun a' c' g' tL L=>?_
     have L:LO H (.slice a' (os ++ [oc]).length c') (os ++ [oc]) g' tL [.dz b2 62 Ot.bad.cells,.dz b1 24 [.int .i64 k,sv (t),.int .i64 0,.int .i64 a,.slice _ ks.length _]]:=L.drop (.cons _ (.cons _ (ahx _))) fun p hp=>hp
     simp only[go_sem]
     refine aj (i + 1,.slice a' (os ++ [oc]).length c') (by show ks.length - (i + 1) < ks.length - i; omega) ?_ ⟨by show i + 1≤_; omega,os ++ [oc],g',L,?_⟩
     ·simp only[go_sem,gl]
     ·show nz (os ++ [oc]) (ks.take (i + 1)) _ _ _ _
      rw[aim ba]
      exact hI.snoc hc
    ·have h1:¬ ((i:Int) < (ks.length:Int)):=by omega
     obtain rfl:i=ks.length:=by omega
     rw[ain] at hI
     simp only[go_sem,c1,h1]
     refine (aX t _).mono ?_
     rintro v1 H9 ⟨rfl,hf⟩
     have L:LO _ _ _ _ _ _:=L.ext hf
     have e:=yb ks
     simp only[go_sem]
     refine (sT L hI (by omega)).mono ?_
     rintro v1 kb ⟨rfl,hf⟩
     have ln:=hI.dX true
     have L:=L.ext hf
     have hlen:=ln.len
     have ael:=ln.dep
     simp only[go_sem]
     refine (bK [40] [41] (Ot.dX true os) (by simp; omega) _).mono ?_
     rintro v1 qx ⟨rfl,hf⟩
     have L:=L.ext hf
     have Np:(Ot.au [40] (Ot.dX true os) [41]).n≤1000000000:=by
      show max 0 (max (Ot.dX true os).n 0)≤_
      omega
     have PR:(Ot.au [40] (Ot.dX true os) [41]).il.s.length=2 + (Ot.dX true os).s.length:=by
      show ([40] ++ ((Ot.dX true os).s ++ [41])).length=_
      simp; omega
     simp only[go_sem]
     refine (iV (Ot.au [40] (Ot.dX true os) [41]) (by omega) _).mono ?_
     rintro v1 vg ⟨rfl,hf⟩
     have L:=L.ext hf
     have GL:(Ot.word t).s.length=t.length:=rfl
     simp only[go_sem]
     refine (bB (Ot.word t) (Ot.au [40] (Ot.dX true os) [41]).il (by omega) _).mono ?_
     rintro v1 tL ⟨rfl,hf⟩
     have L:=L.ext hf
     rw[hv ((Ot.word t).cat (Ot.au [40] (Ot.dX true os) [41]).il)]
     simp only[go_sem]
     refine L.ae 0 rfl rfl (ah ((Ot.word t).cat (Ot.au [40] (Ot.dX true os) [41]).il)) fun HC L=>?_
     have c0:=L.cell 0 rfl
     simp only[go_sem,c0]
     refine ⟨(Ot.word t).cat (Ot.au [40] (Ot.dX true os) [41]).il,rfl,?_,L.fr⟩
     refine ((Is.word t).cat (ln.au [40] [41]).il).to ?_ (fun _=>⟨?_,?_⟩) ?_
     ·rw[A5]; simp[hT]
     ·rw[← ME]; simp
     ·rw[← GM]; simp
     ·simp; omega
section
variable {k n p:Int} {t w:Bs} {ks:List Nd}
theorem PW {o:Tk} {lv l r:Nat} (hb:eH k=some (o,lv,l,r)) (h:okB (.mk k t n p ks)=true):t=[]∧n=0∧ks.length=2:=by
 rw[AY hb] at h
 split at h
 ·simp only[ae5,decide_eq_true_eq] at h
  exact ⟨by simp[h],by simp[h],rfl⟩
 ·cases h
theorem VA (h:okB (.mk 30 t n p ks)=true):t=[]∧n=0∧ks.length=3:=by
 rw[E0] at h
 split at h
 ·simp only[ae5,decide_eq_true_eq] at h
  exact ⟨by simp[h],by simp[h],rfl⟩
 ·cases h
theorem VB (h:okB (.mk 33 t n p ks)=true):t=[]∧n=0∧ks.length=1:=by
 rw[E1] at h
 split at h
 ·simp only[ae5,decide_eq_true_eq] at h
  exact ⟨by simp[h],by simp[h],rfl⟩
 ·cases h
theorem VC (h:okB (.mk 42 t n p ks)=true):aT t=true∧n=0∧ks.length=1:=by
 rw[E2] at h
 split at h
 ·simp only[ae5,decide_eq_true_eq] at h
  exact ⟨by simp[h],by simp[h],rfl⟩
 ·cases h
theorem VD (h:okB (.mk 43 t n p ks)=true):t=[]∧n=0∧ks.length=2:=by
 rw[E3] at h
 split at h
 ·simp only[ae5,decide_eq_true_eq] at h
  exact ⟨by simp[h],by simp[h],rfl⟩
 ·cases h
theorem A6 (hw:dx k=some w) (h:okB (.mk k t n p ks)=true):t=[]∧n=0∧ks.length=0:=by
 rw[mW hw] at h
 simp only[ae5,decide_eq_true_eq,ah6] at h
 exact ⟨h.1.1,h.1.2,by rw[h.2]; rfl⟩
theorem Il {o:Tk} {lv l r:Nat} (hb:eH k=some (o,lv,l,r)):(fM o).length≤4:=by
 unfold eH at hb
 repeat' split at hb
 all_goals first
  | (cases hb; decide)
  | cases hb
end
set_option maxHeartbeats 4000000 in
theorem Fi {N:Nat} (ih:AtR N):Rw (N + 1):=by
 intro x dO H v hx hw
 have eS:=hx
 obtain ⟨k,t,n,a,ks,aa,cc,rfl,rfl,hk,jG,eJ⟩:=hx.fields
 refine af (args:=[_]) Tryz.func81 aag (ahi rfl) ?_
 have L:=L0 H
 have hv:∀ o:Ot,o.val= .agg #[sv o.s,.int .i64 o.n,.bool o.b]:=fun o=>rfl
 have fQ:=fun (m:Int) H=>mf (k:=k) (t:=t) (n:=n) (a:=a) (ks:=ks) (aa:=aa) (c:=cc) m H
 have tm:wN (.mk k t n a ks)=t.length + 64 + wL ks:=by rw[wN]
 rw[tm] at hw ⊢
 rw[aq] at dO
 simp only[go_sem,c81]
 refine L.aS fun b1 H1 L=>?_
 simp only[go_sem]
 refine L.aS fun b2 H2 L=>?_
 have c1:=L.cell 1 rfl
 unfold sv at c1 fQ
 simp only[go_sem,c1]
 refine (MC k _).mono ?_
 rintro v H3 ⟨rfl,rfl⟩
 cases hb:eH k with
 | some y=>
   obtain ⟨o,lv,l,r⟩:=y
   have hr:yc k=(32 :: (fM o ++ [32]),lv,l,r):=by simp[yc,hb]
   have rr:=Il hb
   rw[hr]
   dsimp only
   have dH:¬ (32 :: (fM o ++ [32]):Bs)=[]:=by simp
   have dj:=PW (n:=n) (t:=t) (p:=a) (ks:=ks) hb
   simp only[go_sem,c1,sv,cW,dH]
   refine (fQ 2 _).mono ?_
   rintro v H6 ⟨rfl,hf⟩
   have L:=L.ext hf
   have c1:=L.cell 1 rfl
   unfold sv at c1
   by_cases h1:t=[]∧n=0∧ks.length=2
   case neg=>
    have bZ:false=okB (.mk k t n a ks):=by
     cases e:okB (.mk k t n a ks) with
     | false=>rfl
     | true=>exact absurd (dj e) h1
    have hC:(decide (t=[]) && (decide (n=0) && decide ((ks.length:Int)=2)))=false:=by
     cases e:(decide (t=[]) && (decide (n=0) && decide ((ks.length:Int)=2))) with
     | false=>rfl
     | true=>
       simp only[ae5,decide_eq_true_eq] at e
       exact absurd ⟨e.1,e.2.1,by omega⟩ h1
    rw[hC]
    simp only[go_sem]
    refine (aB _).mono ?_
    rintro v HB ⟨rfl,hf⟩
    have L:=L.ext hf
    rw[hv Ot.bad]
    simp only[go_sem]
    refine L.ae 0 rfl rfl (ah Ot.bad) fun HC L=>?_
    have c0:=L.cell 0 rfl
    simp only[go_sem,c0]
    refine ⟨Ot.bad,rfl,(Is.bad [] 0 _).to ?_ (fun h=>nomatch h) (afJ _),L.fr⟩
    exact bZ
   obtain ⟨rfl,rfl,hlen⟩:=h1
   match ks,hlen with
   | [y,z],_=>
     simp only[wL,aA] at hw dO ⊢
     obtain ⟨b6,o6,c6,k6,t6,n6,a6,Bk,nC,u6,w6,⟨ur,qb,uu,uv,uw⟩,lg⟩:=cm hk 0 (by simp)
     cases u6
     simp only[ah2,aiK] at w6
     simp only[aiL,aiM,ahl,aiO,aiN] at ur qb uu uv uw
     have gL:NA H y (.agg #[.int .i64 k6,sv t6,.int .i64 n6,.int .i64 a6,nC]):=w6 ▸ NA.mk lg
     have jE:=fun {H':Heap} (hf:Fr [] H H')=>ih y (by omega) (gL.ext hf) (by omega)
     have IH:=fun {H':Heap} (hf:Fr [] H H')=>ih.zero (x:=y) (by omega) (gL.ext hf) (by omega)
     unfold sv at jE IH qb
     have ur:=ab ur L.fr (by simp)
     have qb:=ab qb L.fr (by simp)
     have uu:=ab uu L.fr (by simp)
     have uv:=ab uv L.fr (by simp)
     have uw:=ab uw L.fr (by simp)
     obtain ⟨b7,o7,c7,k7,t7,n7,a7,WD,Ik,u7,w7,⟨sV,qc,sW,sX,sY⟩,th⟩:=cm hk 1 (by simp)
     cases u7
     simp only[ah2,aiK] at w7
     simp only[aiL,aiM,ahl,aiO,aiN] at sV qc sW sX sY
     have qR:NA H z (.agg #[.int .i64 k7,sv t7,.int .i64 n7,.int .i64 a7,Ik]):=w7 ▸ NA.mk th
     have p7:=fun {H':Heap} (hf:Fr [] H H')=>ih z (by omega) (qR.ext hf) (by omega)
     have Hh:=fun {H':Heap} (hf:Fr [] H H')=>ih.zero (x:=z) (by omega) (qR.ext hf) (by omega)
     unfold sv at p7 Hh qc
     have sV:=ab sV L.fr (by simp)
     have qc:=ab qc L.fr (by simp)
     have sW:=ab sW L.fr (by simp)
     have sX:=ab sX L.fr (by simp)
     have sY:=ab sY L.fr (by simp)
     simp only[go_sem,c1,ur,qb,uu,uv,uw,sV,qc,sW,sX,sY]
     refine (jE L.fr l).mono ?_
     rintro v1 H7 ⟨oy,rfl,kB,hf⟩
     have L:=L.ext hf
     have c1:=L.cell 1 rfl
     unfold sv at c1
     have IK:=kB.len
     have sV:=ab sV hf (by simp)
     have qc:=ab qc hf (by simp)
     have sW:=ab sW hf (by simp)
     have sX:=ab sX hf (by simp)
     have sY:=ab sY hf (by simp)
     simp only[go_sem,c1,sV,qc,sW,sX,sY]
     refine (aX (32 :: (fM o ++ [32])) _).mono ?_
     rintro v1 H8 ⟨rfl,hf⟩
     have L:=L.ext hf
     have c1:=L.cell 1 rfl
     unfold sv at c1
     have sV:=ab sV hf (by simp)
     have qc:=ab qc hf (by simp)
     have sW:=ab sW hf (by simp)
     have sX:=ab sX hf (by simp)
     have sY:=ab sY hf (by simp)
     simp only[go_sem,c1,sV,qc,sW,sX,sY]
     refine (p7 L.fr r).mono ?_
     rintro v1 H9 ⟨oz,rfl,PV,hf⟩
     have L:=L.ext hf
     have hlz:=PV.len
     have GL:(Ot.word (32 :: (fM o ++ [32]))).s.length=(fM o).length + 2:=by show (32 :: (fM o ++ [32])).length=_; simp
     simp only[go_sem]
     refine (bB (Ot.word (32 :: (fM o ++ [32]))) oz (by omega) _).mono ?_
     rintro v1 kb ⟨rfl,hf⟩
     have L:=L.ext hf
     have hlc:((Ot.word (32 :: (fM o ++ [32]))).cat oz).s.length=(fM o).length + 2 + oz.s.length:=by
      show ((32 :: (fM o ++ [32])) ++ oz.s).length=_
      simp; omega
     simp only[go_sem]
     refine (bB oy ((Ot.word (32 :: (fM o ++ [32]))).cat oz) (by omega) _).mono ?_
     rintro v1 qx ⟨rfl,hf⟩
     have L:=L.ext hf
     rw[hv (oy.cat ((Ot.word (32 :: (fM o ++ [32]))).cat oz))]
     simp only[go_sem]
     refine L.ae 0 rfl rfl (ah (oy.cat ((Ot.word (32 :: (fM o ++ [32]))).cat oz))) fun HC L=>?_
     have c0:=L.cell 0 rfl
     simp only[go_sem,c0]
     refine ⟨oy.cat ((Ot.word (32 :: (fM o ++ [32]))).cat oz),rfl,?_,L.fr⟩
     refine (kB.cat ((Is.word _).cat PV)).to ?_ (fun _=>⟨?_,?_⟩) ?_
     ·rw[AY hb]; simp
     ·rw[jt hb]; simp
     ·rw[pd hb]; simp
     ·simp; omega
 | none=>
   have hr:yc k=([],8,0,0):=by simp[yc,hb]
   rw[hr]
   dsimp only
   by_cases ym:k=30
   ·subst ym
    simp only[go_sem,c1,sv]
    refine (fQ 3 _).mono ?_
    rintro v H6 ⟨rfl,hf⟩
    have L:=L.ext hf
    have c1:=L.cell 1 rfl
    unfold sv at c1
    by_cases h1:t=[]∧n=0∧ks.length=3
    case neg=>
     have bZ:false=okB (.mk 30 t n a ks):=by
      cases e:okB (.mk 30 t n a ks) with
      | false=>rfl
      | true=>exact absurd (VA e) h1
     have hC:(decide (t=[]) && (decide (n=0) && decide ((ks.length:Int)=3)))=false:=by
      cases e:(decide (t=[]) && (decide (n=0) && decide ((ks.length:Int)=3))) with
      | false=>rfl
      | true=>
        simp only[ae5,decide_eq_true_eq] at e
        exact absurd ⟨e.1,e.2.1,by omega⟩ h1
     rw[hC]
     simp only[go_sem]
     refine (aB _).mono ?_
     rintro v HB ⟨rfl,hf⟩
     have L:=L.ext hf
     rw[hv Ot.bad]
     simp only[go_sem]
     refine L.ae 0 rfl rfl (ah Ot.bad) fun HC L=>?_
     have c0:=L.cell 0 rfl
     simp only[go_sem,c0]
     refine ⟨Ot.bad,rfl,(Is.bad [] 0 _).to ?_ (fun h=>nomatch h) (afJ _),L.fr⟩
     exact bZ
    obtain ⟨rfl,rfl,hlen⟩:=h1
    match ks,hlen with
    | [x,y,z],_=>
      simp only[wL,aA] at hw dO ⊢
      obtain ⟨b6,o6,c6,k6,t6,n6,a6,Bk,nC,u6,w6,⟨ur,qb,uu,uv,uw⟩,lg⟩:=cm hk 0 (by simp)
      cases u6
      simp only[ah2,aiK] at w6
      simp only[aiL,aiM,ahl,aiO,aiN] at ur qb uu uv uw
      have gL:NA H x (.agg #[.int .i64 k6,sv t6,.int .i64 n6,.int .i64 a6,nC]):=w6 ▸ NA.mk lg
      have jE:=fun {H':Heap} (hf:Fr [] H H')=>ih x (by omega) (gL.ext hf) (by omega)
      have IH:=fun {H':Heap} (hf:Fr [] H H')=>ih.zero (x:=x) (by omega) (gL.ext hf) (by omega)
      unfold sv at jE IH qb
      have ur:=ab ur L.fr (by simp)
      have qb:=ab qb L.fr (by simp)
      have uu:=ab uu L.fr (by simp)
      have uv:=ab uv L.fr (by simp)
      have uw:=ab uw L.fr (by simp)
      obtain ⟨b7,o7,c7,k7,t7,n7,a7,WD,Ik,u7,w7,⟨sV,qc,sW,sX,sY⟩,th⟩:=cm hk 1 (by simp)
      cases u7
      simp only[ah2,aiK] at w7
      simp only[aiL,aiM,ahl,aiO,aiN] at sV qc sW sX sY
      have qR:NA H y (.agg #[.int .i64 k7,sv t7,.int .i64 n7,.int .i64 a7,Ik]):=w7 ▸ NA.mk th
      have p7:=fun {H':Heap} (hf:Fr [] H H')=>ih y (by omega) (qR.ext hf) (by omega)
      have Hh:=fun {H':Heap} (hf:Fr [] H H')=>ih.zero (x:=y) (by omega) (qR.ext hf) (by omega)
      unfold sv at p7 Hh qc
      have sV:=ab sV L.fr (by simp)
      have qc:=ab qc L.fr (by simp)
      have sW:=ab sW L.fr (by simp)
      have sX:=ab sX L.fr (by simp)
      have sY:=ab sY L.fr (by simp)
      obtain ⟨b8,o8,c8,k8,t8,n8,a8,kk8,kv8,u8,w8,⟨Dt,Dj,Du,Dv,Dw⟩,Hg⟩:=cm hk 2 (by simp)
      cases u8
      simp only[ah2,aiK] at w8
      simp only[aiL,aiM,ahl,aiO,aiN] at Dt Dj Du Dv Dw
      have kC:NA H z (.agg #[.int .i64 k8,sv t8,.int .i64 n8,.int .i64 a8,kv8]):=w8 ▸ NA.mk Hg
      have nB:=fun {H':Heap} (hf:Fr [] H H')=>ih z (by omega) (kC.ext hf) (by omega)
      have We:=fun {H':Heap} (hf:Fr [] H H')=>ih.zero (x:=z) (by omega) (kC.ext hf) (by omega)
      unfold sv at nB We Dj
      have Dt:=ab Dt L.fr (by simp)
      have Dj:=ab Dj L.fr (by simp)
      have Du:=ab Du L.fr (by simp)
      have Dv:=ab Dv L.fr (by simp)
      have Dw:=ab Dw L.fr (by simp)
      simp only[go_sem,c1,ur,qb,uu,uv,uw,sV,qc,sW,sX,sY,Dt,Dj,Du,Dv,Dw]
      refine (IH L.fr).mono ?_
      rintro v1 H7 ⟨ox,rfl,qO,hf⟩
      have L:=L.ext hf
      have c1:=L.cell 1 rfl
      unfold sv at c1
      have hlx:=qO.len
      have hdx:=qO.dep
      have sV:=ab sV hf (by simp)
      have qc:=ab qc hf (by simp)
      have sW:=ab sW hf (by simp)
      have sX:=ab sX hf (by simp)
      have sY:=ab sY hf (by simp)
      have Dt:=ab Dt hf (by simp)
      have Dj:=ab Dj hf (by simp)
      have Du:=ab Du hf (by simp)
      have Dv:=ab Dv hf (by simp)
      have Dw:=ab Dw hf (by simp)
      simp only[go_sem,c1,sV,qc,sW,sX,sY,Dt,Dj,Du,Dv,Dw]
      refine (bK [105,102,32] [32,116,104,101,110,32] ox (by simp; omega) _).mono ?_
      rintro v1 H8 ⟨rfl,hf⟩
      have L:=L.ext hf
      have c1:=L.cell 1 rfl
      unfold sv at c1
      have sV:=ab sV hf (by simp)
      have qc:=ab qc hf (by simp)
      have sW:=ab sW hf (by simp)
      have sX:=ab sX hf (by simp)
      have sY:=ab sY hf (by simp)
      have Dt:=ab Dt hf (by simp)
      have Dj:=ab Dj hf (by simp)
      have Du:=ab Du hf (by simp)
      have Dv:=ab Dv hf (by simp)
      have Dw:=ab Dw hf (by simp)
      simp only[go_sem,c1,sV,qc,sW,sX,sY,Dt,Dj,Du,Dv,Dw]
      refine (Hh L.fr).mono ?_
      rintro v1 H9 ⟨oy,rfl,kB,hf⟩
      have L:=L.ext hf
      have c1:=L.cell 1 rfl
      unfold sv at c1
      have IK:=kB.len
      have hdy:=kB.dep
      have Dt:=ab Dt hf (by simp)
      have Dj:=ab Dj hf (by simp)
      have Du:=ab Du hf (by simp)
      have Dv:=ab Dv hf (by simp)
      have Dw:=ab Dw hf (by simp)
      simp only[go_sem,c1,Dt,Dj,Du,Dv,Dw]
      refine (aX [32,101,108,115,101,32] _).mono ?_
      rintro v1 kb ⟨rfl,hf⟩
      have L:=L.ext hf
      have c1:=L.cell 1 rfl
      unfold sv at c1
      have Dt:=ab Dt hf (by simp)
      have Dj:=ab Dj hf (by simp)
      have Du:=ab Du hf (by simp)
      have Dv:=ab Dv hf (by simp)
      have Dw:=ab Dw hf (by simp)
      simp only[go_sem,c1,Dt,Dj,Du,Dv,Dw]
      refine (We L.fr).mono ?_
      rintro v1 qx ⟨oz,rfl,PV,hf⟩
      have L:=L.ext hf
      have hlz:=PV.len
      have hdz:=PV.dep
      have GL:(Ot.word [32,101,108,115,101,32]).s.length=6:=rfl
      simp only[go_sem]
      refine (bB (Ot.word [32,101,108,115,101,32]) oz (by omega) _).mono ?_
      rintro v1 vg ⟨rfl,hf⟩
      have L:=L.ext hf
      have hlc:((Ot.word [32,101,108,115,101,32]).cat oz).s.length=6 + oz.s.length:=by
       show ([32,101,108,115,101,32] ++ oz.s).length=_
       simp; omega
      simp only[go_sem]
      refine (bB oy ((Ot.word [32,101,108,115,101,32]).cat oz) (by omega) _).mono ?_
      rintro v1 tL ⟨rfl,hf⟩
      have L:=L.ext hf
      have MS:(oy.cat ((Ot.word [32,101,108,115,101,32]).cat oz)).s.length=6 + oz.s.length + oy.s.length:=by
       show (oy.s ++ ([32,101,108,115,101,32] ++ oz.s)).length=_
       simp; omega
      have PR:(Ot.au [105,102,32] ox [32,116,104,101,110,32]).s.length=9 + ox.s.length:=by
       show ([105,102,32] ++ (ox.s ++ [32,116,104,101,110,32])).length=_
       simp; omega
      simp only[go_sem]
      refine (bB (Ot.au [105,102,32] ox [32,116,104,101,110,32]) (oy.cat ((Ot.word [32,101,108,115,101,32]).cat oz)) (by omega) _).mono ?_
      rintro v1 Q3 ⟨rfl,hf⟩
      have L:=L.ext hf
      have Np:((Ot.au [105,102,32] ox [32,116,104,101,110,32]).cat (oy.cat ((Ot.word [32,101,108,115,101,32]).cat oz))).n≤10000000000:=by
       show max (max 0 (max ox.n 0)) (max oy.n (max 0 oz.n))≤_
       omega
      simp only[go_sem]
      refine (iV ((Ot.au [105,102,32] ox [32,116,104,101,110,32]).cat (oy.cat ((Ot.word [32,101,108,115,101,32]).cat oz))) (by omega) _).mono ?_
      rintro v1 Om ⟨rfl,hf⟩
      have L:=L.ext hf
      rw[hv (((Ot.au [105,102,32] ox [32,116,104,101,110,32]).cat (oy.cat ((Ot.word [32,101,108,115,101,32]).cat oz))).il)]
      simp only[go_sem]
      refine L.ae 0 rfl rfl (ah (((Ot.au [105,102,32] ox [32,116,104,101,110,32]).cat (oy.cat ((Ot.word [32,101,108,115,101,32]).cat oz))).il)) fun HC L=>?_
      have c0:=L.cell 0 rfl
      simp only[go_sem,c0]
      refine ⟨((Ot.au [105,102,32] ox [32,116,104,101,110,32]).cat (oy.cat ((Ot.word [32,101,108,115,101,32]).cat oz))).il,rfl,?_,L.fr⟩
      refine ((qO.au _ _).cat (kB.cat ((Is.word _).cat PV))).il.to ?_ (fun _=>⟨?_,?_⟩) ?_
      ·rw[E0]; simp[aiR]
      ·rw[xB]; simp
      ·rw[xm]; simp
      ·simp; omega
   by_cases yH:k=33
   ·subst yH
    simp only[go_sem,c1,sv]
    refine (fQ 1 _).mono ?_
    rintro v H6 ⟨rfl,hf⟩
    have L:=L.ext hf
    have c1:=L.cell 1 rfl
    unfold sv at c1
    by_cases h1:t=[]∧n=0∧ks.length=1
    case neg=>
     have bZ:false=okB (.mk 33 t n a ks):=by
      cases e:okB (.mk 33 t n a ks) with
      | false=>rfl
      | true=>exact absurd (VB e) h1
     have hC:(decide (t=[]) && (decide (n=0) && decide ((ks.length:Int)=1)))=false:=by
      cases e:(decide (t=[]) && (decide (n=0) && decide ((ks.length:Int)=1))) with
      | false=>rfl
      | true=>
        simp only[ae5,decide_eq_true_eq] at e
        exact absurd ⟨e.1,e.2.1,by omega⟩ h1
     rw[hC]
     simp only[go_sem]
     refine (aB _).mono ?_
     rintro v HB ⟨rfl,hf⟩
     have L:=L.ext hf
     rw[hv Ot.bad]
     simp only[go_sem]
     refine L.ae 0 rfl rfl (ah Ot.bad) fun HC L=>?_
     have c0:=L.cell 0 rfl
     simp only[go_sem,c0]
     refine ⟨Ot.bad,rfl,(Is.bad [] 0 _).to ?_ (fun h=>nomatch h) (afJ _),L.fr⟩
     exact bZ
    obtain ⟨rfl,rfl,hlen⟩:=h1
    match ks,hlen with
    | [x],_=>
      simp only[wL,aA] at hw dO ⊢
      obtain ⟨b6,o6,c6,k6,t6,n6,a6,Bk,nC,u6,w6,⟨ur,qb,uu,uv,uw⟩,lg⟩:=cm hk 0 (by simp)
      cases u6
      simp only[ah2,aiK] at w6
      simp only[aiL,aiM,ahl,aiO,aiN] at ur qb uu uv uw
      have gL:NA H x (.agg #[.int .i64 k6,sv t6,.int .i64 n6,.int .i64 a6,nC]):=w6 ▸ NA.mk lg
      have jE:=fun {H':Heap} (hf:Fr [] H H')=>ih x (by omega) (gL.ext hf) (by omega)
      have IH:=fun {H':Heap} (hf:Fr [] H H')=>ih.zero (x:=x) (by omega) (gL.ext hf) (by omega)
      unfold sv at jE IH qb
      have ur:=ab ur L.fr (by simp)
      have qb:=ab qb L.fr (by simp)
      have uu:=ab uu L.fr (by simp)
      have uv:=ab uv L.fr (by simp)
      have uw:=ab uw L.fr (by simp)
      simp only[go_sem,c1,ur,qb,uu,uv,uw]
      refine (aX [110,111,116,32] _).mono ?_
      rintro v1 H7 ⟨rfl,hf⟩
      have L:=L.ext hf
      have c1:=L.cell 1 rfl
      unfold sv at c1
      have ur:=ab ur hf (by simp)
      have qb:=ab qb hf (by simp)
      have uu:=ab uu hf (by simp)
      have uv:=ab uv hf (by simp)
      have uw:=ab uw hf (by simp)
      simp only[go_sem,c1,ur,qb,uu,uv,uw]
      refine (jE L.fr 3).mono ?_
      rintro v1 H8 ⟨ox,rfl,qO,hf⟩
      have L:=L.ext hf
      have hlx:=qO.len
      have hdx:=qO.dep
      have GL:(Ot.word [110,111,116,32]).s.length=4:=rfl
      simp only[go_sem]
      refine (bB (Ot.word [110,111,116,32]) ox (by omega) _).mono ?_
      rintro v1 H9 ⟨rfl,hf⟩
      have L:=L.ext hf
      have Np:((Ot.word [110,111,116,32]).cat ox).n≤10000000000:=by
       show max 0 ox.n≤_
       omega
      simp only[go_sem]
      refine (iV ((Ot.word [110,111,116,32]).cat ox) (by omega) _).mono ?_
      rintro v1 kb ⟨rfl,hf⟩
      have L:=L.ext hf
      rw[hv (((Ot.word [110,111,116,32]).cat ox).il)]
      simp only[go_sem]
      refine L.ae 0 rfl rfl (ah (((Ot.word [110,111,116,32]).cat ox).il)) fun HC L=>?_
      have c0:=L.cell 0 rfl
      simp only[go_sem,c0]
      refine ⟨((Ot.word [110,111,116,32]).cat ox).il,rfl,?_,L.fr⟩
      refine ((Is.word _).cat qO).il.to ?_ (fun _=>⟨?_,?_⟩) ?_
      ·rw[E1]; simp
      ·rw[qE]; simp
      ·rw[rZ]; simp
      ·simp; omega
   by_cases Bj:k=43
   ·subst Bj
    simp only[go_sem,c1,sv]
    refine (fQ 2 _).mono ?_
    rintro v H6 ⟨rfl,hf⟩
    have L:=L.ext hf
    have c1:=L.cell 1 rfl
    unfold sv at c1
    by_cases h1:t=[]∧n=0∧ks.length=2
    case neg=>
     have bZ:false=okB (.mk 43 t n a ks):=by
      cases e:okB (.mk 43 t n a ks) with
      | false=>rfl
      | true=>exact absurd (VD e) h1
     have hC:(decide (t=[]) && (decide (n=0) && decide ((ks.length:Int)=2)))=false:=by
      cases e:(decide (t=[]) && (decide (n=0) && decide ((ks.length:Int)=2))) with
      | false=>rfl
      | true=>
        simp only[ae5,decide_eq_true_eq] at e
        exact absurd ⟨e.1,e.2.1,by omega⟩ h1
     rw[hC]
     simp only[go_sem]
     refine (aB _).mono ?_
     rintro v HB ⟨rfl,hf⟩
     have L:=L.ext hf
     rw[hv Ot.bad]
     simp only[go_sem]
     refine L.ae 0 rfl rfl (ah Ot.bad) fun HC L=>?_
     have c0:=L.cell 0 rfl
     simp only[go_sem,c0]
     refine ⟨Ot.bad,rfl,(Is.bad [] 0 _).to ?_ (fun h=>nomatch h) (afJ _),L.fr⟩
     exact bZ
    obtain ⟨rfl,rfl,hlen⟩:=h1
    match ks,hlen with
    | [x,y],_=>
      simp only[wL,aA] at hw dO ⊢
      obtain ⟨b6,o6,c6,k6,t6,n6,a6,Bk,nC,u6,w6,⟨ur,qb,uu,uv,uw⟩,lg⟩:=cm hk 0 (by simp)
      cases u6
      simp only[ah2,aiK] at w6
      simp only[aiL,aiM,ahl,aiO,aiN] at ur qb uu uv uw
      have gL:NA H x (.agg #[.int .i64 k6,sv t6,.int .i64 n6,.int .i64 a6,nC]):=w6 ▸ NA.mk lg
      have jE:=fun {H':Heap} (hf:Fr [] H H')=>ih x (by omega) (gL.ext hf) (by omega)
      have IH:=fun {H':Heap} (hf:Fr [] H H')=>ih.zero (x:=x) (by omega) (gL.ext hf) (by omega)
      unfold sv at jE IH qb
      have ur:=ab ur L.fr (by simp)
      have qb:=ab qb L.fr (by simp)
      have uu:=ab uu L.fr (by simp)
      have uv:=ab uv L.fr (by simp)
      have uw:=ab uw L.fr (by simp)
      obtain ⟨b7,o7,c7,k7,t7,n7,a7,WD,Ik,u7,w7,⟨sV,qc,sW,sX,sY⟩,th⟩:=cm hk 1 (by simp)
      cases u7
      simp only[ah2,aiK] at w7
      simp only[aiL,aiM,ahl,aiO,aiN] at sV qc sW sX sY
      have qR:NA H y (.agg #[.int .i64 k7,sv t7,.int .i64 n7,.int .i64 a7,Ik]):=w7 ▸ NA.mk th
      have p7:=fun {H':Heap} (hf:Fr [] H H')=>ih y (by omega) (qR.ext hf) (by omega)
      have Hh:=fun {H':Heap} (hf:Fr [] H H')=>ih.zero (x:=y) (by omega) (qR.ext hf) (by omega)
      unfold sv at p7 Hh qc
      have sV:=ab sV L.fr (by simp)
      have qc:=ab qc L.fr (by simp)
      have sW:=ab sW L.fr (by simp)
      have sX:=ab sX L.fr (by simp)
      have sY:=ab sY L.fr (by simp)
      simp only[go_sem,c1,ur,qb,uu,uv,uw,sV,qc,sW,sX,sY]
      refine (jE L.fr 7).mono ?_
      rintro v1 H7 ⟨ox,rfl,qO,hf⟩
      have L:=L.ext hf
      have c1:=L.cell 1 rfl
      unfold sv at c1
      have hlx:=qO.len
      have sV:=ab sV hf (by simp)
      have qc:=ab qc hf (by simp)
      have sW:=ab sW hf (by simp)
      have sX:=ab sX hf (by simp)
      have sY:=ab sY hf (by simp)
      simp only[go_sem,c1,sV,qc,sW,sX,sY]
      refine (Hh L.fr).mono ?_
      rintro v1 H8 ⟨oy,rfl,kB,hf⟩
      have L:=L.ext hf
      have IK:=kB.len
      have hdy:=kB.dep
      simp only[go_sem]
      refine (bK [91] [93] oy (by simp; omega) _).mono ?_
      rintro v1 H9 ⟨rfl,hf⟩
      have L:=L.ext hf
      have Np:(Ot.au [91] oy [93]).n≤10000000000:=by
       show max 0 (max oy.n 0)≤_
       omega
      simp only[go_sem]
      refine (iV (Ot.au [91] oy [93]) (by omega) _).mono ?_
      rintro v1 kb ⟨rfl,hf⟩
      have L:=L.ext hf
      have PR:(Ot.au [91] oy [93]).il.s.length=2 + oy.s.length:=by
       show ([91] ++ (oy.s ++ [93])).length=_
       simp; omega
      simp only[go_sem]
      refine (bB ox (Ot.au [91] oy [93]).il (by omega) _).mono ?_
      rintro v1 qx ⟨rfl,hf⟩
      have L:=L.ext hf
      rw[hv (ox.cat (Ot.au [91] oy [93]).il)]
      simp only[go_sem]
      refine L.ae 0 rfl rfl (ah (ox.cat (Ot.au [91] oy [93]).il)) fun HC L=>?_
      have c0:=L.cell 0 rfl
      simp only[go_sem,c0]
      refine ⟨ox.cat (Ot.au [91] oy [93]).il,rfl,?_,L.fr⟩
      refine (qO.cat (kB.au [91] [93]).il).to ?_ (fun _=>⟨?_,?_⟩) ?_
      ·rw[E3]; simp
      ·rw[l6]; simp
      ·rw[lW]
      ·simp <;> omega
   by_cases AX:k=42
   ·subst AX
    have sU:=fun H=>gI t H
    unfold sv at sU
    simp only[go_sem,c1,sv]
    refine (sU _).mono ?_
    rintro v H6 ⟨rfl,hf⟩
    have L:=L.ext hf
    have c1:=L.cell 1 rfl
    unfold sv at c1
    have Bl:((ks.length:Int)=1)=(ks.length=1):=by apply propext; omega
    have bZ:=fun (h:¬ (aT t=true∧n=0∧ks.length=1))=>(show false=okB (.mk 42 t n a ks) by
     cases e:okB (.mk 42 t n a ks) with
     | false=>rfl
     | true=>exact absurd (VC e) h)
    by_cases h1:aT t=true
    case neg=>
     simp only[go_sem,c1,h1]
     refine (aB _).mono ?_
     rintro v HB ⟨rfl,hf⟩
     have L:=L.ext hf
     rw[hv Ot.bad]
     simp only[go_sem]
     refine L.ae 0 rfl rfl (ah Ot.bad) fun HC L=>?_
     have c0:=L.cell 0 rfl
     simp only[go_sem,c0]
     refine ⟨Ot.bad,rfl,(Is.bad [] 0 _).to ?_ (fun h=>nomatch h) (afJ _),L.fr⟩
     exact bZ fun h=>h1 h.1
    by_cases h2:n=0
    case neg=>
     simp only[go_sem,c1,h1,h2]
     refine (aB _).mono ?_
     rintro v HB ⟨rfl,hf⟩
     have L:=L.ext hf
     rw[hv Ot.bad]
     simp only[go_sem]
     refine L.ae 0 rfl rfl (ah Ot.bad) fun HC L=>?_
     have c0:=L.cell 0 rfl
     simp only[go_sem,c0]
     refine ⟨Ot.bad,rfl,(Is.bad [] 0 _).to ?_ (fun h=>nomatch h) (afJ _),L.fr⟩
     exact bZ fun h=>h2 h.2.1
    subst h2
    by_cases h3:ks.length=1
    case neg=>
     simp only[go_sem,c1,h1,Bl,h3]
     refine (aB _).mono ?_
     rintro v HB ⟨rfl,hf⟩
     have L:=L.ext hf
     rw[hv Ot.bad]
     simp only[go_sem]
     refine L.ae 0 rfl rfl (ah Ot.bad) fun HC L=>?_
     have c0:=L.cell 0 rfl
     simp only[go_sem,c0]
     refine ⟨Ot.bad,rfl,(Is.bad [] 0 _).to ?_ (fun h=>nomatch h) (afJ _),L.fr⟩
     exact bZ fun h=>h3 h.2.2
    have Ep:=cX h1
    match ks,h3 with
    | [x],_=>
      simp only[wL,aA] at hw dO ⊢
      obtain ⟨b6,o6,c6,k6,t6,n6,a6,Bk,nC,u6,w6,⟨ur,qb,uu,uv,uw⟩,lg⟩:=cm hk 0 (by simp)
      cases u6
      simp only[ah2,aiK] at w6
      simp only[aiL,aiM,ahl,aiO,aiN] at ur qb uu uv uw
      have gL:NA H x (.agg #[.int .i64 k6,sv t6,.int .i64 n6,.int .i64 a6,nC]):=w6 ▸ NA.mk lg
      have jE:=fun {H':Heap} (hf:Fr [] H H')=>ih x (by omega) (gL.ext hf) (by omega)
      have IH:=fun {H':Heap} (hf:Fr [] H H')=>ih.zero (x:=x) (by omega) (gL.ext hf) (by omega)
      unfold sv at jE IH qb
      have ur:=ab ur L.fr (by simp)
      have qb:=ab qb L.fr (by simp)
      have uu:=ab uu L.fr (by simp)
      have uv:=ab uv L.fr (by simp)
      have uw:=ab uw L.fr (by simp)
      simp only[go_sem,c1,h1,Bl,aI,fU,ur,qb,uu,uv,uw]
      refine ⟨by omega,?_⟩
      refine (jE L.fr 7).mono ?_
      rintro v1 H8 ⟨ox,rfl,qO,hf⟩
      have L:=L.ext hf
      have c1:=L.cell 1 rfl
      unfold sv at c1
      have hlx:=qO.len
      simp only[go_sem,c1,aI,fU]
      refine (aX (46 :: t) _).mono ?_
      rintro v1 H9 ⟨rfl,hf⟩
      have L:=L.ext hf
      have GL:(Ot.word (46 :: t)).s.length=t.length + 1:=rfl
      simp only[go_sem]
      refine (bB ox (Ot.word (46 :: t)) (by omega) _).mono ?_
      rintro v1 kb ⟨rfl,hf⟩
      have L:=L.ext hf
      rw[hv (ox.cat (Ot.word (46 :: t)))]
      simp only[go_sem]
      refine L.ae 0 rfl rfl (ah (ox.cat (Ot.word (46 :: t)))) fun HC L=>?_
      have c0:=L.cell 0 rfl
      simp only[go_sem,c0]
      refine ⟨ox.cat (Ot.word (46 :: t)),rfl,?_,L.fr⟩
      refine (qO.cat (Is.word _)).to ?_ (fun _=>⟨?_,?_⟩) ?_
      ·rw[E2]; simp[h1]
      ·rw[l5]
      ·rw[lV]; simp
      ·simp <;> omega
   by_cases Ve:k=44
   ·subst Ve
    have hq:=fun {H':Heap} (hf:Fr [] H H')=>sS (eS.ext hf)
    unfold sv at hq
    simp only[go_sem,c1,sv]
    refine (hq L.fr).mono ?_
    rintro v1 H6 ⟨o,rfl,ho,hf⟩
    have L:=L.ext hf
    rw[hv (o)]
    simp only[go_sem]
    refine L.ae 0 rfl rfl (ah (o)) fun HC L=>?_
    have c0:=L.cell 0 rfl
    simp only[go_sem,c0]
    refine ⟨o,rfl,?_,L.fr⟩
    refine ho.to L7.symm (fun h=>⟨?_,?_⟩) (by omega)
    ·rw[qF]; rfl
    ·simp only[mh,aL,ae5,ah6] at h
     rw[h.1.1.2,iC (by simp)]
   by_cases Ma:k=47
   ·subst Ma
    have hq:=fun {H':Heap} (hf:Fr [] H H')=>um (eS.ext hf) (by simp only[ak]; omega)
    unfold sv at hq
    simp only[go_sem,c1,sv]
    refine (hq L.fr).mono ?_
    rintro v1 H6 ⟨o,rfl,ho,hf⟩
    have L:=L.ext hf
    rw[hv (o)]
    simp only[go_sem]
    refine L.ae 0 rfl rfl (ah (o)) fun HC L=>?_
    have c0:=L.cell 0 rfl
    simp only[go_sem,c0]
    refine ⟨o,rfl,?_,L.fr⟩
    refine ho.to L8.symm (fun h=>⟨?_,?_⟩) (by simp only[ak]; omega)
    ·rw[l8]; rfl
    ·simp only[dQ,aL,ae5,ah6] at h
     rw[h.1.2,iC (by simp)]
   by_cases Ai:k=48
   ·subst Ai
    have sU:=fun H=>gI t H
    unfold sv at sU
    simp only[go_sem,c1,sv]
    refine (sU _).mono ?_
    rintro v H6 ⟨rfl,hf⟩
    have L:=L.ext hf
    have c1:=L.cell 1 rfl
    unfold sv at c1
    have jk:=xX ks
    by_cases h1:aT t=true
    case neg=>
     simp only[go_sem,c1,h1]
     refine (aB _).mono ?_
     rintro v HB ⟨rfl,hf⟩
     have L:=L.ext hf
     rw[hv Ot.bad]
     simp only[go_sem]
     refine L.ae 0 rfl rfl (ah Ot.bad) fun HC L=>?_
     have c0:=L.cell 0 rfl
     simp only[go_sem,c0]
     refine ⟨Ot.bad,rfl,(Is.bad [] 0 _).to ?_ (fun h=>nomatch h) (afJ _),L.fr⟩
     rw[xN]; simp[h1]
    by_cases h2:n=0
    case neg=>
     simp only[go_sem,c1,h1,h2]
     refine (aB _).mono ?_
     rintro v HB ⟨rfl,hf⟩
     have L:=L.ext hf
     rw[hv Ot.bad]
     simp only[go_sem]
     refine L.ae 0 rfl rfl (ah Ot.bad) fun HC L=>?_
     have c0:=L.cell 0 rfl
     simp only[go_sem,c0]
     refine ⟨Ot.bad,rfl,(Is.bad [] 0 _).to ?_ (fun h=>nomatch h) (afJ _),L.fr⟩
     rw[xN]; simp[h2]
    by_cases h3:ks=[]
    case neg=>
     have h3':¬ ((ks.length:Int)=0):=by rw[jk]; exact h3
     simp only[go_sem,c1,h1,h2,h3']
     refine (aB _).mono ?_
     rintro v HB ⟨rfl,hf⟩
     have L:=L.ext hf
     rw[hv Ot.bad]
     simp only[go_sem]
     refine L.ae 0 rfl rfl (ah Ot.bad) fun HC L=>?_
     have c0:=L.cell 0 rfl
     simp only[go_sem,c0]
     refine ⟨Ot.bad,rfl,(Is.bad [] 0 _).to ?_ (fun h=>nomatch h) (afJ _),L.fr⟩
     rw[xN]; simp[h3]
    subst h2 h3
    simp only[go_sem,c1,h1]
    refine (aX t _).mono ?_
    rintro v1 H7 ⟨rfl,hf⟩
    have L:=L.ext hf
    rw[hv (Ot.word t)]
    simp only[go_sem]
    refine L.ae 0 rfl rfl (ah (Ot.word t)) fun HC L=>?_
    have c0:=L.cell 0 rfl
    simp only[go_sem,c0]
    refine ⟨Ot.word t,rfl,?_,L.fr⟩
    refine (Is.word t).to ?_ (fun _=>⟨?_,?_⟩) ?_
    ·rw[xN]; simp[h1]
    ·rw[eu]
    ·rw[iC (by simp)]
    ·omega
   by_cases rC:k=45
   ·subst rC
    simp only[go_sem,c1,sv]
    refine (fQ 0 _).mono ?_
    rintro v H6 ⟨rfl,hf⟩
    have L:=L.ext hf
    have c1:=L.cell 1 rfl
    unfold sv at c1
    by_cases h1:t=[]∧n=0∧ks.length=0
    case neg=>
     have bZ:false=okB (.mk 45 t n a ks):=by
      cases e:okB (.mk 45 t n a ks) with
      | false=>rfl
      | true=>exact absurd (A6 (w:=[116,114,117,101]) rfl e) h1
     have hC:(decide (t=[]) && (decide (n=0) && decide ((ks.length:Int)=0)))=false:=by
      cases e:(decide (t=[]) && (decide (n=0) && decide ((ks.length:Int)=0))) with
      | false=>rfl
      | true=>
        simp only[ae5,decide_eq_true_eq] at e
        exact absurd ⟨e.1,e.2.1,by omega⟩ h1
     rw[hC]
     simp only[go_sem]
     refine (aB _).mono ?_
     rintro v HB ⟨rfl,hf⟩
     have L:=L.ext hf
     rw[hv Ot.bad]
     simp only[go_sem]
     refine L.ae 0 rfl rfl (ah Ot.bad) fun HC L=>?_
     have c0:=L.cell 0 rfl
     simp only[go_sem,c0]
     refine ⟨Ot.bad,rfl,(Is.bad [] 0 _).to ?_ (fun h=>nomatch h) (afJ _),L.fr⟩
     exact bZ
    obtain ⟨rfl,rfl,hlen⟩:=h1
    have wT:ks=[]:=afL hlen
    subst wT
    simp only[go_sem,c1]
    refine (dw true ([116,114,117,101]) ([102,97,108,115,101]) _).mono ?_
    rintro v1 H7 ⟨rfl,rfl⟩
    simp only[go_sem,c1]
    refine (aX ([116,114,117,101]) _).mono ?_
    rintro v1 H8 ⟨rfl,hf⟩
    have L:=L.ext hf
    rw[hv (Ot.word ([116,114,117,101]))]
    simp only[go_sem]
    refine L.ae 0 rfl rfl (ah (Ot.word ([116,114,117,101]))) fun HC L=>?_
    have c0:=L.cell 0 rfl
    simp only[go_sem,c0]
    refine ⟨Ot.word ([116,114,117,101]),rfl,?_,L.fr⟩
    refine (Is.word _).to ?_ (fun _=>⟨?_,?_⟩) ?_
    ·rw[mW (w:=[116,114,117,101]) rfl]; rfl
    ·rw[gO (w:=[116,114,117,101]) rfl]
    ·rw[mb (w:=[116,114,117,101]) rfl]
    ·simp <;> omega
   by_cases Vh:k=46
   ·subst Vh
    simp only[go_sem,c1,sv]
    refine (fQ 0 _).mono ?_
    rintro v H6 ⟨rfl,hf⟩
    have L:=L.ext hf
    have c1:=L.cell 1 rfl
    unfold sv at c1
    by_cases h1:t=[]∧n=0∧ks.length=0
    case neg=>
     have bZ:false=okB (.mk 46 t n a ks):=by
      cases e:okB (.mk 46 t n a ks) with
      | false=>rfl
      | true=>exact absurd (A6 (w:=[102,97,108,115,101]) rfl e) h1
     have hC:(decide (t=[]) && (decide (n=0) && decide ((ks.length:Int)=0)))=false:=by
      cases e:(decide (t=[]) && (decide (n=0) && decide ((ks.length:Int)=0))) with
      | false=>rfl
      | true=>
        simp only[ae5,decide_eq_true_eq] at e
        exact absurd ⟨e.1,e.2.1,by omega⟩ h1
     rw[hC]
     simp only[go_sem]
     refine (aB _).mono ?_
     rintro v HB ⟨rfl,hf⟩
     have L:=L.ext hf
     rw[hv Ot.bad]
     simp only[go_sem]
     refine L.ae 0 rfl rfl (ah Ot.bad) fun HC L=>?_
     have c0:=L.cell 0 rfl
     simp only[go_sem,c0]
     refine ⟨Ot.bad,rfl,(Is.bad [] 0 _).to ?_ (fun h=>nomatch h) (afJ _),L.fr⟩
     exact bZ
    obtain ⟨rfl,rfl,hlen⟩:=h1
    have wT:ks=[]:=afL hlen
    subst wT
    simp only[go_sem,c1]
    refine (dw false ([116,114,117,101]) ([102,97,108,115,101]) _).mono ?_
    rintro v1 H7 ⟨rfl,rfl⟩
    simp only[go_sem,c1]
    refine (aX ([102,97,108,115,101]) _).mono ?_
    rintro v1 H8 ⟨rfl,hf⟩
    have L:=L.ext hf
    rw[hv (Ot.word ([102,97,108,115,101]))]
    simp only[go_sem]
    refine L.ae 0 rfl rfl (ah (Ot.word ([102,97,108,115,101]))) fun HC L=>?_
    have c0:=L.cell 0 rfl
    simp only[go_sem,c0]
    refine ⟨Ot.word ([102,97,108,115,101]),rfl,?_,L.fr⟩
    refine (Is.word _).to ?_ (fun _=>⟨?_,?_⟩) ?_
    ·rw[mW (w:=[102,97,108,115,101]) rfl]; rfl
    ·rw[gO (w:=[102,97,108,115,101]) rfl]
    ·rw[mb (w:=[102,97,108,115,101]) rfl]
    ·simp <;> omega
   by_cases Vi:k=49
   ·subst Vi
    simp only[go_sem,c1,sv]
    refine (fQ 0 _).mono ?_
    rintro v H6 ⟨rfl,hf⟩
    have L:=L.ext hf
    have c1:=L.cell 1 rfl
    unfold sv at c1
    by_cases h1:t=[]∧n=0∧ks.length=0
    case neg=>
     have bZ:false=okB (.mk 49 t n a ks):=by
      cases e:okB (.mk 49 t n a ks) with
      | false=>rfl
      | true=>exact absurd (A6 (w:=[115]) rfl e) h1
     have hC:(decide (t=[]) && (decide (n=0) && decide ((ks.length:Int)=0)))=false:=by
      cases e:(decide (t=[]) && (decide (n=0) && decide ((ks.length:Int)=0))) with
      | false=>rfl
      | true=>
        simp only[ae5,decide_eq_true_eq] at e
        exact absurd ⟨e.1,e.2.1,by omega⟩ h1
     rw[hC]
     simp only[go_sem]
     refine (aB _).mono ?_
     rintro v HB ⟨rfl,hf⟩
     have L:=L.ext hf
     rw[hv Ot.bad]
     simp only[go_sem]
     refine L.ae 0 rfl rfl (ah Ot.bad) fun HC L=>?_
     have c0:=L.cell 0 rfl
     simp only[go_sem,c0]
     refine ⟨Ot.bad,rfl,(Is.bad [] 0 _).to ?_ (fun h=>nomatch h) (afJ _),L.fr⟩
     exact bZ
    obtain ⟨rfl,rfl,hlen⟩:=h1
    have wT:ks=[]:=afL hlen
    subst wT
    simp only[go_sem,c1]
    refine (dw true ([115]) ([98,111,116,116,111,109]) _).mono ?_
    rintro v1 H7 ⟨rfl,rfl⟩
    simp only[go_sem,c1]
    refine (aX ([115]) _).mono ?_
    rintro v1 H8 ⟨rfl,hf⟩
    have L:=L.ext hf
    rw[hv (Ot.word ([115]))]
    simp only[go_sem]
    refine L.ae 0 rfl rfl (ah (Ot.word ([115]))) fun HC L=>?_
    have c0:=L.cell 0 rfl
    simp only[go_sem,c0]
    refine ⟨Ot.word ([115]),rfl,?_,L.fr⟩
    refine (Is.word _).to ?_ (fun _=>⟨?_,?_⟩) ?_
    ·rw[mW (w:=[115]) rfl]; rfl
    ·rw[gO (w:=[115]) rfl]
    ·rw[mb (w:=[115]) rfl]
    ·simp <;> omega
   by_cases Vj:k=50
   ·subst Vj
    simp only[go_sem,c1,sv]
    refine (fQ 0 _).mono ?_
    rintro v H6 ⟨rfl,hf⟩
    have L:=L.ext hf
    have c1:=L.cell 1 rfl
    unfold sv at c1
    by_cases h1:t=[]∧n=0∧ks.length=0
    case neg=>
     have bZ:false=okB (.mk 50 t n a ks):=by
      cases e:okB (.mk 50 t n a ks) with
      | false=>rfl
      | true=>exact absurd (A6 (w:=[98,111,116,116,111,109]) rfl e) h1
     have hC:(decide (t=[]) && (decide (n=0) && decide ((ks.length:Int)=0)))=false:=by
      cases e:(decide (t=[]) && (decide (n=0) && decide ((ks.length:Int)=0))) with
      | false=>rfl
      | true=>
        simp only[ae5,decide_eq_true_eq] at e
        exact absurd ⟨e.1,e.2.1,by omega⟩ h1
     rw[hC]
     simp only[go_sem]
     refine (aB _).mono ?_
     rintro v HB ⟨rfl,hf⟩
     have L:=L.ext hf
     rw[hv Ot.bad]
     simp only[go_sem]
     refine L.ae 0 rfl rfl (ah Ot.bad) fun HC L=>?_
     have c0:=L.cell 0 rfl
     simp only[go_sem,c0]
     refine ⟨Ot.bad,rfl,(Is.bad [] 0 _).to ?_ (fun h=>nomatch h) (afJ _),L.fr⟩
     exact bZ
    obtain ⟨rfl,rfl,hlen⟩:=h1
    have wT:ks=[]:=afL hlen
    subst wT
    simp only[go_sem,c1]
    refine (dw false ([115]) ([98,111,116,116,111,109]) _).mono ?_
    rintro v1 H7 ⟨rfl,rfl⟩
    simp only[go_sem,c1]
    refine (aX ([98,111,116,116,111,109]) _).mono ?_
    rintro v1 H8 ⟨rfl,hf⟩
    have L:=L.ext hf
    rw[hv (Ot.word ([98,111,116,116,111,109]))]
    simp only[go_sem]
    refine L.ae 0 rfl rfl (ah (Ot.word ([98,111,116,116,111,109]))) fun HC L=>?_
    have c0:=L.cell 0 rfl
    simp only[go_sem,c0]
    refine ⟨Ot.word ([98,111,116,116,111,109]),rfl,?_,L.fr⟩
    refine (Is.word _).to ?_ (fun _=>⟨?_,?_⟩) ?_
    ·rw[mW (w:=[98,111,116,116,111,109]) rfl]; rfl
    ·rw[gO (w:=[98,111,116,116,111,109]) rfl]
    ·rw[mb (w:=[98,111,116,116,111,109]) rfl]
    ·simp <;> omega
   by_cases Vf:k=51
   ·subst Vf
    have hq:=fun {H':Heap} (hf:Fr [] H H')=>MF ih (k:=51) (n:=n) (a:=a) (t:=t) (by omega) (hk.ext hf) eJ (by omega)
    unfold sv at hq
    simp only[go_sem,c1,sv]
    refine (hq L.fr).mono ?_
    rintro v1 H6 ⟨o,rfl,ho,hf⟩
    have L:=L.ext hf
    rw[hv (o)]
    simp only[go_sem]
    refine L.ae 0 rfl rfl (ah (o)) fun HC L=>?_
    have c0:=L.cell 0 rfl
    simp only[go_sem,c0]
    refine ⟨o,rfl,?_,L.fr⟩
    exact ho.to L9.symm (fun _=>⟨pB.symm,od.symm⟩) (by omega)
   have bZ:false=okB (.mk k t n a ks):=by
    rw[okB.eq_def]
    simp only[hb,ym,yH,AX,Bj,Ve,Ma,Ai,Vf,if_false]
    have:dx k=none:=by unfold dx; simp[rC,Vh,Vi,Vj]
    rw[this]
   simp only[go_sem,c1,sv,ym,yH,AX,Bj,Ve,Ma,Ai,rC,Vh,Vi,Vj,Vf]
   refine (aB _).mono ?_
   rintro v HB ⟨rfl,hf⟩
   have L:=L.ext hf
   rw[hv Ot.bad]
   simp only[go_sem]
   refine L.ae 0 rfl rfl (ah Ot.bad) fun HC L=>?_
   have c0:=L.cell 0 rfl
   simp only[go_sem,c0]
   refine ⟨Ot.bad,rfl,(Is.bad [] 0 _).to ?_ (fun h=>nomatch h) (afJ _),L.fr⟩
   exact bZ
theorem vQ:∀ N,AtR N
 | 0=>MD fun x h=>by cases x; simp only[aq] at h; omega
 | N + 1=>MD (Fi (vQ N))
theorem Im {x:Nd} (h:cV x=true):kindOf x≠47:=by
 cases ic h <;> simp[kindOf]
theorem Io {ks:List Nd} {x:Nd} (h:ks.all dQ=true) (hx:kindOf x≠47):aP (ks ++ [x])=ks:=by
 induction ks with
 | nil=>
   show ai9 _ [x]=[]
   rw[ahr,if_neg (by simpa using hx)]
 | cons y r ih=>
   rw[afb,ae5] at h
   obtain ⟨t,p,rfl,_⟩:=gN h.1
   show ai9 _ (_ :: (r ++ [x]))=_
   rw[ahr,if_pos (by rfl)]
   have:=ih h.2
   unfold aP at this
   rw[this]
theorem MI (ks:List Nd):jU (aP ks)≤jU ks:=by
 have e:=pz ks
 have:∀ a b:List Nd,jU a≤jU (a ++ b):=fun a b=>by
  induction a with
  | nil=>exact ahn _
  | cons x r ih=>rw[List.cons_append,jU,jU]; omega
 calc jU (aP ks)≤jU (aP ks ++ bt ks):=this _ _
  _=jU ks:=by rw[← e]
theorem MJ {ks:List Nd} {many:Nat} (hl:ks.length=(aP ks).length + 1) (hm:many=(aP ks).length):ks=aP ks ++ [ks[many]'(by omega)]:=by
 have e:=pz ks
 have Wx:(bt ks).length=1:=by
  have:=congrArg List.length e
  rw[ah1] at this
  omega
 obtain ⟨z,hz⟩:∃ z,bt ks=[z]:=by
  match bt ks,Wx with
  | [z],_=>exact ⟨z,rfl⟩
 rw[hz] at e
 have hk:ks[many]?=some z:=by
  have:(aP ks ++ [z])[many]?=some z:=by
   rw[hm,List.getElem?_append_right (afJ _)]; simp
  rw[← e] at this
  exact this
 have:ks[many]'(by omega)=z:=by
  rw[List.getElem?_eq_getElem (by omega)] at hk
  exact ae9.inj hk
 rw[this]; exact e
set_option maxHeartbeats 2000000 in
theorem Ip {N:Nat} (ih:PS N):PS (N + 1):=by
 intro x dO H v hx hw
 obtain ⟨k,t,n,a,ks,aa,cc,rfl,rfl,hk,jG,eJ⟩:=hx.fields
 refine af (args:=[_]) Tryz.func44 Z3 (ahi rfl) ?_
 have L:=L0 H
 have hv:∀ o:Ot,o.val= .agg #[sv o.s,.int .i64 o.n,.bool o.b]:=fun o=>rfl
 rw[aq] at dO
 rw[wN] at hw
 have hqw:=qK ks
 have fQ:=fun (m:Int) H=>mf (k:=k) (t:=t) (n:=n) (a:=a) (ks:=ks) (aa:=aa) (c:=cc) m H
 simp only[go_sem,c44]
 refine L.aS fun b1 H1 L=>?_
 simp only[go_sem]
 refine L.aS fun b2 H2 L=>?_
 have c1:=L.cell 1 rfl
 simp only[go_sem,c1]
 refine (xY (hk.ext L.fr) eJ (by omega)).mono ?_
 rintro v H3 ⟨o0,rfl,Nq,hf⟩
 have L:=L.ext hf
 rw[hv o0]
 simp only[go_sem]
 refine L.aS fun b3 H4 L=>?_
 simp only[go_sem]
 refine L.ae 0 rfl rfl (ah o0) fun H5 L=>?_
 have c1:=L.cell 2 rfl
 have c3:=L.cell 0 rfl
 unfold Ot.cells at c3
 obtain ⟨many,mg⟩:∃ many,many=(aP ks).length:=⟨_,rfl⟩
 rw[← mg]
 by_cases k21:k=21
 ·subst k21
  have dj:cV (.mk 21 t n a ks)=(aT t && decide (n=0) && ks.isEmpty):=by rw[cV.eq_def]; rfl
  have sU:=fun H=>gI t H
  unfold sv at c1 sU
  simp only[go_sem,c1]
  refine (sU _).mono ?_
  rintro v H6 ⟨rfl,hf⟩
  have L:=L.ext hf
  have c1:=L.cell 2 rfl
  unfold sv at c1
  have jk:=xX ks
  by_cases h1:aT t=true
  ·by_cases h2:n=0
   ·by_cases h3:ks=[]
    ·simp only[go_sem,c1,h1,h2,jk,h3]
     refine (aX t _).mono ?_
     rintro v H7 ⟨rfl,hf⟩
     have L:=L.ext hf
     rw[hv (Ot.word t)]
     simp only[go_sem]
     refine L.ae 1 rfl rfl (ah (Ot.word t)) fun HC L=>?_
     have c0:=L.cell 1 rfl
     simp only[go_sem,c0]
     refine ⟨Ot.word t,rfl,?_,L.fr⟩
     have hd:gM (.mk 21 t 0 a [])=0:=bX (by decide)
     subst h2 h3
     rw[ma,hd,dj,h1]
     exact (Is.word t).to rfl (fun _=>⟨rfl,rfl⟩) (by rw[wN]; omega)
    ·have bZ:false=cV (.mk 21 t n a ks):=by rw[dj]; simp[h3]
     simp only[go_sem,c1,h1,h2,jk,h3]
     subst h2
     refine (aB _).mono ?_
     rintro v HB ⟨rfl,hf⟩
     have L:=L.ext hf
     rw[hv Ot.bad]
     simp only[go_sem]
     refine L.ae 1 rfl rfl (ah Ot.bad) fun HC L=>?_
     have c0:=L.cell 1 rfl
     simp only[go_sem,c0]
     refine ⟨Ot.bad,rfl,(Is.bad [] 0 _).to bZ (fun h=>nomatch h) (afJ _),L.fr⟩
   ·have bZ:false=cV (.mk 21 t n a ks):=by rw[dj]; simp[h2]
    simp only[go_sem,c1,h1,h2]
    refine (aB _).mono ?_
    rintro v HB ⟨rfl,hf⟩
    have L:=L.ext hf
    rw[hv Ot.bad]
    simp only[go_sem]
    refine L.ae 1 rfl rfl (ah Ot.bad) fun HC L=>?_
    have c0:=L.cell 1 rfl
    simp only[go_sem,c0]
    refine ⟨Ot.bad,rfl,(Is.bad [] 0 _).to bZ (fun h=>nomatch h) (afJ _),L.fr⟩
  ·have bZ:false=cV (.mk 21 t n a ks):=by rw[dj]; simp[h1]
   simp only[go_sem,c1,h1]
   refine (aB _).mono ?_
   rintro v HB ⟨rfl,hf⟩
   have L:=L.ext hf
   rw[hv Ot.bad]
   simp only[go_sem]
   refine L.ae 1 rfl rfl (ah Ot.bad) fun HC L=>?_
   have c0:=L.cell 1 rfl
   simp only[go_sem,c0]
   refine ⟨Ot.bad,rfl,(Is.bad [] 0 _).to bZ (fun h=>nomatch h) (afJ _),L.fr⟩
 by_cases Wm:k=10
 ·subst Wm
  have dj:cV (.mk 10 t n a ks)=(decide (t=[]) && decide (n=0) && ks.isEmpty):=by rw[cV.eq_def]; rfl
  have fQ:=fQ 0
  unfold sv at c1 fQ
  simp only[go_sem,c1]
  refine (fQ _).mono ?_
  rintro v H6 ⟨rfl,hf⟩
  have L:=L.ext hf
  have c1:=L.cell 2 rfl
  unfold sv at c1
  have jk:=xX ks
  by_cases h1:t=[]∧n=0∧ks=[]
  ·obtain ⟨rfl,rfl,rfl⟩:=h1
   simp only[go_sem,c1]
   refine (dw true [102,108,97,103] [114,101,103,105,115,116,101,114] _).mono ?_
   rintro v H7 ⟨rfl,rfl⟩
   simp only[go_sem]
   refine (aX ([102,108,97,103]) _).mono ?_
   rintro v H8 ⟨rfl,hf⟩
   have L:=L.ext hf
   rw[hv (Ot.word ([102,108,97,103]))]
   simp only[go_sem]
   refine L.ae 1 rfl rfl (ah (Ot.word ([102,108,97,103]))) fun HC L=>?_
   have c0:=L.cell 1 rfl
   simp only[go_sem,c0]
   refine ⟨Ot.word ([102,108,97,103]),rfl,?_,L.fr⟩
   have hd:gM (.mk 10 [] 0 a [])=0:=bX (by decide)
   rw[pC,hd,dj]
   exact (Is.word ([102,108,97,103])).to rfl (fun _=>⟨rfl,rfl⟩) (by rw[wN,wL]; decide)
  ·have bZ:false=cV (.mk 10 t n a ks):=by
    rw[dj]
    cases e:(decide (t=[]) && decide (n=0) && ks.isEmpty) with
    | false=>rfl
    | true=>
      simp only[ae5,decide_eq_true_eq,ah6] at e
      exact absurd ⟨e.1.1,e.1.2,e.2⟩ h1
   have hC:(decide (t=[]) && (decide (n=0) && decide ((ks.length:Int)=0)))=false:=by
    cases e:(decide (t=[]) && (decide (n=0) && decide ((ks.length:Int)=0))) with
    | false=>rfl
    | true=>
      simp only[ae5,decide_eq_true_eq,jk] at e
      exact absurd ⟨e.1,e.2.1,e.2.2⟩ h1
   rw[hC]
   simp only[go_sem]
   refine (aB _).mono ?_
   rintro v HB ⟨rfl,hf⟩
   have L:=L.ext hf
   rw[hv Ot.bad]
   simp only[go_sem]
   refine L.ae 1 rfl rfl (ah Ot.bad) fun HC L=>?_
   have c0:=L.cell 1 rfl
   simp only[go_sem,c0]
   refine ⟨Ot.bad,rfl,(Is.bad [] 0 _).to bZ (fun h=>nomatch h) (afJ _),L.fr⟩
 by_cases k18:k=18
 ·subst k18
  have dj:cV (.mk 18 t n a ks)=(decide (t=[]) && decide (n=0) && ks.isEmpty):=by rw[cV.eq_def]; rfl
  have fQ:=fQ 0
  unfold sv at c1 fQ
  simp only[go_sem,c1]
  refine (fQ _).mono ?_
  rintro v H6 ⟨rfl,hf⟩
  have L:=L.ext hf
  have c1:=L.cell 2 rfl
  unfold sv at c1
  have jk:=xX ks
  by_cases h1:t=[]∧n=0∧ks=[]
  ·obtain ⟨rfl,rfl,rfl⟩:=h1
   simp only[go_sem,c1]
   refine (dw false [102,108,97,103] [114,101,103,105,115,116,101,114] _).mono ?_
   rintro v H7 ⟨rfl,rfl⟩
   simp only[go_sem]
   refine (aX ([114,101,103,105,115,116,101,114]) _).mono ?_
   rintro v H8 ⟨rfl,hf⟩
   have L:=L.ext hf
   rw[hv (Ot.word ([114,101,103,105,115,116,101,114]))]
   simp only[go_sem]
   refine L.ae 1 rfl rfl (ah (Ot.word ([114,101,103,105,115,116,101,114]))) fun HC L=>?_
   have c0:=L.cell 1 rfl
   simp only[go_sem,c0]
   refine ⟨Ot.word ([114,101,103,105,115,116,101,114]),rfl,?_,L.fr⟩
   have hd:gM (.mk 18 [] 0 a [])=0:=bX (by decide)
   rw[ie,hd,dj]
   exact (Is.word ([114,101,103,105,115,116,101,114])).to rfl (fun _=>⟨rfl,rfl⟩) (by rw[wN,wL]; decide)
  ·have bZ:false=cV (.mk 18 t n a ks):=by
    rw[dj]
    cases e:(decide (t=[]) && decide (n=0) && ks.isEmpty) with
    | false=>rfl
    | true=>
      simp only[ae5,decide_eq_true_eq,ah6] at e
      exact absurd ⟨e.1.1,e.1.2,e.2⟩ h1
   have hC:(decide (t=[]) && (decide (n=0) && decide ((ks.length:Int)=0)))=false:=by
    cases e:(decide (t=[]) && (decide (n=0) && decide ((ks.length:Int)=0))) with
    | false=>rfl
    | true=>
      simp only[ae5,decide_eq_true_eq,jk] at e
      exact absurd ⟨e.1,e.2.1,e.2.2⟩ h1
   rw[hC]
   simp only[go_sem]
   refine (aB _).mono ?_
   rintro v HB ⟨rfl,hf⟩
   have L:=L.ext hf
   rw[hv Ot.bad]
   simp only[go_sem]
   refine L.ae 1 rfl rfl (ah Ot.bad) fun HC L=>?_
   have c0:=L.cell 1 rfl
   simp only[go_sem,c0]
   refine ⟨Ot.bad,rfl,(Is.bad [] 0 _).to bZ (fun h=>nomatch h) (afJ _),L.fr⟩
 by_cases k13:k=13
 ·subst k13
  have dj:cV (.mk 13 t n a ks)=(decide (t=[]) && decide (n=0) && ks.all dQ):=by rw[cV.eq_def]; rfl
  have hd:gM (.mk 13 t n a ks)=0:=bX (by decide)
  have fQ:=fQ many
  unfold sv at c1 fQ
  simp only[go_sem,c1]
  refine (dw true [115,101,116] [102,108,97,116] _).mono ?_
  rintro v H7 ⟨rfl,rfl⟩
  simp only[go_sem,c1]
  refine (fQ _).mono ?_
  rintro v H6 ⟨rfl,hf⟩
  have L:=L.ext hf
  have c1:=L.cell 2 rfl
  have c3:=L.cell 0 rfl
  unfold Ot.cells at c3
  unfold sv at c1
  have Bl:((ks.length:Int)=(many:Int))=(ks.length=many):=by apply propext; omega
  by_cases h1:t=[]∧n=0∧ks.length=many
  ·obtain ⟨rfl,rfl,hlen⟩:=h1
   have hle:=uo (mg.symm.trans hlen.symm)
   have jv:(ks.length:Int)=(many:Int):=by omega
   rw[hle] at Nq
   by_cases h2:many=0
   ·have Dl:ks=[]:=afL (by omega)
    have Ii:(many:Int)=0:=by omega
    simp only[go_sem,jv,Ii]
    refine (aX ([115,101,116]) _).mono ?_
    rintro v H8 ⟨rfl,hf⟩
    have L:=L.ext hf
    rw[hv (Ot.word ([115,101,116]))]
    simp only[go_sem]
    refine L.ae 1 rfl rfl (ah (Ot.word ([115,101,116]))) fun HC L=>?_
    have c0:=L.cell 1 rfl
    simp only[go_sem,c0]
    refine ⟨Ot.word ([115,101,116]),rfl,?_,L.fr⟩
    rw[ov,hd,dj,Dl]
    exact (Is.word ([115,101,116])).to rfl (fun _=>⟨rfl,rfl⟩) (by rw[wN,wL]; decide)
   ·have Ii:¬ (many:Int)=0:=by omega
    simp only[go_sem,jv,Ii,c1]
    refine (fQ _).mono ?_
    rintro v H8 ⟨rfl,hf⟩
    have L:=L.ext hf
    have c3:=L.cell 0 rfl
    unfold Ot.cells at c3
    have fj:=Nq.len
    simp only[go_sem,jv,c3,sv,aI,fU]
    refine (bK ([115,101,116,40]) [41] o0 (by simp; omega) _).mono ?_
    rintro v H9 ⟨rfl,hf⟩
    have L:=L.ext hf
    rw[hv (Ot.au ([115,101,116,40]) o0 [41])]
    simp only[go_sem]
    refine L.ae 1 rfl rfl (ah (Ot.au ([115,101,116,40]) o0 [41])) fun HC L=>?_
    have c0:=L.cell 1 rfl
    simp only[go_sem,c0]
    refine ⟨Ot.au ([115,101,116,40]) o0 [41],rfl,?_,L.fr⟩
    rw[ov,hd,dj]
    refine (Nq.au ([115,101,116,40]) [41]).to (by simp) (fun _=>⟨?_,rfl⟩) (by rw[wN]; simp; omega)
    have dH:ks.isEmpty=false:=by
     cases ks with
     | nil=>simp at hlen; omega
     | cons x r=>rfl
    unfold iB
    rw[dH]
    simp
  ·have bZ:false=cV (.mk 13 t n a ks):=by
    rw[dj]
    cases e:(decide (t=[]) && decide (n=0) && ks.all dQ) with
    | false=>rfl
    | true=>
      simp only[ae5,decide_eq_true_eq] at e
      exact absurd ⟨e.1.1,e.1.2,by rw[mg,xZ e.2]⟩ h1
   have hC:(decide (t=[]) && (decide (n=0) && decide ((ks.length:Int)=(many:Int))))=false:=by
    cases e:(decide (t=[]) && (decide (n=0) && decide ((ks.length:Int)=(many:Int)))) with
    | false=>rfl
    | true=>
      simp only[ae5,decide_eq_true_eq,Bl] at e
      exact absurd ⟨e.1,e.2.1,e.2.2⟩ h1
   rw[hC]
   simp only[go_sem,c1]
   refine (fQ _).mono ?_
   rintro v H8 ⟨rfl,hf⟩
   have L:=L.ext hf
   rw[hC]
   simp only[go_sem]
   refine (aB _).mono ?_
   rintro v HB ⟨rfl,hf⟩
   have L:=L.ext hf
   rw[hv Ot.bad]
   simp only[go_sem]
   refine L.ae 1 rfl rfl (ah Ot.bad) fun HC L=>?_
   have c0:=L.cell 1 rfl
   simp only[go_sem,c0]
   refine ⟨Ot.bad,rfl,(Is.bad [] 0 _).to bZ (fun h=>nomatch h) (afJ _),L.fr⟩
 by_cases k17:k=17
 ·subst k17
  have dj:cV (.mk 17 t n a ks)=(decide (t=[]) && decide (n=0) && ks.all dQ):=by rw[cV.eq_def]; rfl
  have hd:gM (.mk 17 t n a ks)=0:=bX (by decide)
  have fQ:=fQ many
  unfold sv at c1 fQ
  simp only[go_sem,c1]
  refine (dw false [115,101,116] [102,108,97,116] _).mono ?_
  rintro v H7 ⟨rfl,rfl⟩
  simp only[go_sem,c1]
  refine (fQ _).mono ?_
  rintro v H6 ⟨rfl,hf⟩
  have L:=L.ext hf
  have c1:=L.cell 2 rfl
  have c3:=L.cell 0 rfl
  unfold Ot.cells at c3
  unfold sv at c1
  have Bl:((ks.length:Int)=(many:Int))=(ks.length=many):=by apply propext; omega
  by_cases h1:t=[]∧n=0∧ks.length=many
  ·obtain ⟨rfl,rfl,hlen⟩:=h1
   have hle:=uo (mg.symm.trans hlen.symm)
   have jv:(ks.length:Int)=(many:Int):=by omega
   rw[hle] at Nq
   by_cases h2:many=0
   ·have Dl:ks=[]:=afL (by omega)
    have Ii:(many:Int)=0:=by omega
    simp only[go_sem,jv,Ii]
    refine (aX ([102,108,97,116]) _).mono ?_
    rintro v H8 ⟨rfl,hf⟩
    have L:=L.ext hf
    rw[hv (Ot.word ([102,108,97,116]))]
    simp only[go_sem]
    refine L.ae 1 rfl rfl (ah (Ot.word ([102,108,97,116]))) fun HC L=>?_
    have c0:=L.cell 1 rfl
    simp only[go_sem,c0]
    refine ⟨Ot.word ([102,108,97,116]),rfl,?_,L.fr⟩
    rw[mR,hd,dj,Dl]
    exact (Is.word ([102,108,97,116])).to rfl (fun _=>⟨rfl,rfl⟩) (by rw[wN,wL]; decide)
   ·have Ii:¬ (many:Int)=0:=by omega
    simp only[go_sem,jv,Ii,c1]
    refine (fQ _).mono ?_
    rintro v H8 ⟨rfl,hf⟩
    have L:=L.ext hf
    have c3:=L.cell 0 rfl
    unfold Ot.cells at c3
    have fj:=Nq.len
    simp only[go_sem,jv,c3,sv,aI,fU]
    refine (bK ([102,108,97,116,40]) [41] o0 (by simp; omega) _).mono ?_
    rintro v H9 ⟨rfl,hf⟩
    have L:=L.ext hf
    rw[hv (Ot.au ([102,108,97,116,40]) o0 [41])]
    simp only[go_sem]
    refine L.ae 1 rfl rfl (ah (Ot.au ([102,108,97,116,40]) o0 [41])) fun HC L=>?_
    have c0:=L.cell 1 rfl
    simp only[go_sem,c0]
    refine ⟨Ot.au ([102,108,97,116,40]) o0 [41],rfl,?_,L.fr⟩
    rw[mR,hd,dj]
    refine (Nq.au ([102,108,97,116,40]) [41]).to (by simp) (fun _=>⟨?_,rfl⟩) (by rw[wN]; simp; omega)
    have dH:ks.isEmpty=false:=by
     cases ks with
     | nil=>simp at hlen; omega
     | cons x r=>rfl
    unfold iB
    rw[dH]
    simp
  ·have bZ:false=cV (.mk 17 t n a ks):=by
    rw[dj]
    cases e:(decide (t=[]) && decide (n=0) && ks.all dQ) with
    | false=>rfl
    | true=>
      simp only[ae5,decide_eq_true_eq] at e
      exact absurd ⟨e.1.1,e.1.2,by rw[mg,xZ e.2]⟩ h1
   have hC:(decide (t=[]) && (decide (n=0) && decide ((ks.length:Int)=(many:Int))))=false:=by
    cases e:(decide (t=[]) && (decide (n=0) && decide ((ks.length:Int)=(many:Int)))) with
    | false=>rfl
    | true=>
      simp only[ae5,decide_eq_true_eq,Bl] at e
      exact absurd ⟨e.1,e.2.1,e.2.2⟩ h1
   rw[hC]
   simp only[go_sem,c1]
   refine (fQ _).mono ?_
   rintro v H8 ⟨rfl,hf⟩
   have L:=L.ext hf
   rw[hC]
   simp only[go_sem]
   refine (aB _).mono ?_
   rintro v HB ⟨rfl,hf⟩
   have L:=L.ext hf
   rw[hv Ot.bad]
   simp only[go_sem]
   refine L.ae 1 rfl rfl (ah Ot.bad) fun HC L=>?_
   have c0:=L.cell 1 rfl
   simp only[go_sem,c0]
   refine ⟨Ot.bad,rfl,(Is.bad [] 0 _).to bZ (fun h=>nomatch h) (afJ _),L.fr⟩
 by_cases k14:k=14
 ·subst k14
  have Tg:cV (.mk 14 t n a ks)=(decide (t=[]) && decide (n=0) && (ks.dropLast.all dQ && ((fw ks).getLast?.getD false))):=by rw[cV.eq_def]; rfl
  have fQ:=fQ ((many:Int) + 1)
  have OP:afd.wrap ((many:Int) + 1)=(many:Int) + 1:=by
   have:many≤ks.length:=by rw[mg]; exact (ai4 _).length_le
   have:=xM ks
   exact aV _ (by omega) (by omega)
  unfold sv at c1 fQ
  simp only[go_sem,c1,OP]
  refine (fQ _).mono ?_
  rintro v H6 ⟨rfl,hf⟩
  have L:=L.ext hf
  have c1:=L.cell 2 rfl
  have c3:=L.cell 0 rfl
  unfold Ot.cells at c3
  unfold sv at c1
  have Bl:((ks.length:Int)=(many:Int) + 1)=(ks.length=many + 1):=by apply propext; omega
  by_cases h1:t=[]∧n=0∧ks.length=many + 1
  ·obtain ⟨rfl,rfl,hlen⟩:=h1
   have jv:(ks.length:Int)=(many:Int) + 1:=by omega
   obtain ⟨y,hy⟩:∃ y,y=ks[many]:=⟨_,rfl⟩
   have rr:=MJ (mg ▸ hlen) mg
   rw[← hy] at rr
   obtain ⟨b6,o6,c6,k6,t6,n6,a6,Bk,nC,u1,u2,⟨p0,p1,p2,p3,p4⟩,lg⟩:=cm hk many (by omega)
   cases u1
   rw[← hy] at u2
   simp only[ahl] at p0
   have Nn:NA H y (.agg #[.int .i64 k6,sv t6,.int .i64 n6,.int .i64 a6,nC]):=u2 ▸ NA.mk lg
   have Wl:(0:Int)≤(many:Int)∧(many:Int) < (many:Int) + 1:=by omega
   have p0:=ab p0 L.fr (by simp)
   have p1:=ab p1 L.fr (by simp)
   have p2:=ab p2 L.fr (by simp)
   have p3:=ab p3 L.fr (by simp)
   have p4:=ab p4 L.fr (by simp)
   have hsy:aq y≤aA ks:=by rw[hy]; exact hJ ks many (by omega)
   have hwy:jU (aP ks) + wN y≤wL ks:=by
    have e1:=qK (aP ks)
    have e2:=Fa (aP ks) [y]
    rw[← rr,wL,wL] at e2
    omega
   have MB:=fun {H':Heap} (hf:Fr [] H H')=>ih y (by omega) (Nn.ext hf) (by omega)
   have abC:cV (.mk 14 [] 0 a ks)=((aP ks).all dQ && cV y):=by
    rw[Tg]
    have e1:ks.dropLast=aP ks:=by
     conv=>lhs; rw[rr]
     exact List.dropLast_concat
    have e2:(fw ks).getLast?.getD false=cV y:=by
     conv=>lhs; rw[rr,sj]
     simp
    rw[e1,e2]; rfl
   have Wp:sL (.mk 14 [] 0 a ks)=[109,97,112] ++ (iB (aP ks) ++ 32 :: sL y):=by
    conv=>lhs; rw[rr]
    exact ub
   have hdp:gM (.mk 14 [] 0 a ks)=gM y + 1:=by
    conv=>lhs; rw[rr]
    exact sk
   have tm:wN (.mk 14 [] 0 a ks)=64 + wL ks:=by rw[wN]; simp
   have fj:=Nq.len
   have WC:jU (aP ks)≤jU ks:=MI ks
   unfold sv at MB
   simp only[go_sem,jv,c1,c3,Wl,p0,p1,p2,p3,p4]
   refine (MB L.fr).mono ?_
   rintro v1 H7 ⟨oy,rfl,kB,hf⟩
   have L:=L.ext hf
   have IK:=kB.len
   have hdy:=kB.dep
   rw[hv oy]
   simp only[go_sem]
   refine L.aS fun b9 H8 L=>?_
   simp only[go_sem]
   refine L.ae 0 rfl rfl (ah oy) fun H9 L=>?_
   by_cases Ii:many=0
   ·have VE:(many:Int)=0:=by omega
    have aem:aP ks=[]:=afL (by omega)
    have c6:=L.cell 0 rfl
    unfold Ot.cells at c6
    simp only[go_sem,VE,c6]
    refine (aX [109,97,112,32] _).mono ?_
    rintro v1 kb ⟨rfl,hf⟩
    have L:=L.ext hf
    have c6:=L.cell 0 rfl
    unfold Ot.cells at c6
    have hw4:(Ot.word [109,97,112,32]).s.length=4:=rfl
    simp only[go_sem,c6]
    refine (bB (Ot.word [109,97,112,32]) oy (by omega) _).mono ?_
    rintro v1 qx ⟨rfl,hf⟩
    have L:=L.ext hf
    have hdc:((Ot.word [109,97,112,32]).cat oy).n≤wN y:=by
     show max 0 oy.n≤_
     omega
    simp only[go_sem]
    refine (iV ((Ot.word [109,97,112,32]).cat oy) (by omega) _).mono ?_
    rintro v1 vg ⟨rfl,hf⟩
    have L:=L.ext hf
    rw[hv (((Ot.word [109,97,112,32]).cat oy).il)]
    simp only[go_sem]
    refine L.ae 2 rfl rfl (ah (((Ot.word [109,97,112,32]).cat oy).il)) fun HC L=>?_
    have c0:=L.cell 2 rfl
    simp only[go_sem,c0]
    refine ⟨((Ot.word [109,97,112,32]).cat oy).il,rfl,?_,L.fr⟩
    rw[abC,Wp,hdp,tm,aem]
    exact ((Is.word [109,97,112,32]).cat kB).il.to (by simp) (fun _=>⟨by simp[iB],by simp⟩) (by simp; omega)
   ·have VE:¬ (many:Int)=0:=by omega
    have c3:=L.cell 1 rfl
    unfold Ot.cells at c3
    have c6:=L.cell 0 rfl
    unfold Ot.cells at c6
    simp only[go_sem,VE,c3,c6]
    refine (bK [109,97,112,40] [41,32] o0 (by simp; omega) _).mono ?_
    rintro v1 kb ⟨rfl,hf⟩
    have L:=L.ext hf
    have c6:=L.cell 0 rfl
    unfold Ot.cells at c6
    have PR:(Ot.au [109,97,112,40] o0 [41,32]).s.length=6 + o0.s.length:=by
     show ([109,97,112,40] ++ (o0.s ++ [41,32])).length=_
     simp only[ah1,afK,aht]; omega
    simp only[go_sem,c6]
    refine (bB (Ot.au [109,97,112,40] o0 [41,32]) oy (by omega) _).mono ?_
    rintro v1 qx ⟨rfl,hf⟩
    have L:=L.ext hf
    have ae3:=Nq.dep
    have hdc:((Ot.au [109,97,112,40] o0 [41,32]).cat oy).n≤jU (aP ks) + wN y:=by
     show max (max 0 (max o0.n 0)) oy.n≤_
     omega
    simp only[go_sem]
    refine (iV ((Ot.au [109,97,112,40] o0 [41,32]).cat oy) (by omega) _).mono ?_
    rintro v1 vg ⟨rfl,hf⟩
    have L:=L.ext hf
    rw[hv (((Ot.au [109,97,112,40] o0 [41,32]).cat oy).il)]
    simp only[go_sem]
    refine L.ae 2 rfl rfl (ah (((Ot.au [109,97,112,40] o0 [41,32]).cat oy).il)) fun HC L=>?_
    have c0:=L.cell 2 rfl
    simp only[go_sem,c0]
    refine ⟨((Ot.au [109,97,112,40] o0 [41,32]).cat oy).il,rfl,?_,L.fr⟩
    rw[abC,Wp,hdp,tm]
    have dH:(aP ks).isEmpty=false:=by
     cases e:aP ks with
     | nil=>rw[e] at mg; exact absurd mg Ii
     | cons z r=>rfl
    refine ((Nq.au [109,97,112,40] [41,32]).cat kB).il.to rfl (fun _=>⟨?_,by simp⟩) ?_
    ·unfold iB
     rw[dH]; simp
    ·simp; omega
  ·have bZ:false=cV (.mk 14 t n a ks):=by
    cases e:cV (.mk 14 t n a ks) with
    | false=>rfl
    | true=>
      exfalso
      cases ic e with
      | @map n' p' t' iK x' ht hn hkq hxx=>
        refine h1 ⟨ht,hn,?_⟩
        rw[mg,Io hkq (Im hxx)]; simp
   have hC:(decide (t=[]) && (decide (n=0) && decide ((ks.length:Int)=(many:Int) + 1)))=false:=by
    cases e:(decide (t=[]) && (decide (n=0) && decide ((ks.length:Int)=(many:Int) + 1))) with
    | false=>rfl
    | true=>
      simp only[ae5,decide_eq_true_eq,Bl] at e
      exact absurd ⟨e.1,e.2.1,e.2.2⟩ h1
   rw[hC]
   simp only[go_sem]
   refine (aB _).mono ?_
   rintro v HB ⟨rfl,hf⟩
   have L:=L.ext hf
   rw[hv Ot.bad]
   simp only[go_sem]
   refine L.ae 1 rfl rfl (ah Ot.bad) fun HC L=>?_
   have c0:=L.cell 1 rfl
   simp only[go_sem,c0]
   refine ⟨Ot.bad,rfl,(Is.bad [] 0 _).to bZ (fun h=>nomatch h) (afJ _),L.fr⟩
 by_cases k11:k=11
 ·subst k11
  have dj:cV (.mk 11 t n a ks)=(decide (t=[]) && decide (n=0) && (decide (ks.length=2) && ks.all mh)):=by rw[cV.eq_def]; rfl
  have hd:gM (.mk 11 t n a ks)=0:=bX (by decide)
  have fQ:=fQ 2
  unfold sv at c1 fQ
  simp only[go_sem,c1]
  refine (fQ _).mono ?_
  rintro v H6 ⟨rfl,hf⟩
  have L:=L.ext hf
  have c1:=L.cell 2 rfl
  unfold sv at c1
  have Bl:((ks.length:Int)=2)=(ks.length=2):=by apply propext; omega
  by_cases h1:t=[]∧n=0∧ks.length=2
  ·obtain ⟨rfl,rfl,hlen⟩:=h1
   match ks,hlen with
   | [x,y],_=>
     obtain ⟨b6,o6,c6,k6,t6,n6,a6,Bk,nC,u1,u2,⟨p0,p1,p2,p3,p4⟩,lg⟩:=cm hk 0 (by simp)
     cases u1
     obtain ⟨b7,o7,c7,k7,t7,n7,a7,WD,Ik,w1,w2,⟨s0,s1,s2,s3,s4⟩,th⟩:=cm hk 1 (by simp)
     cases w1
     rw[aiK] at u2
     rw[ah2,aiK] at w2
     simp only[ahl,aiL,aiM] at p0 p1 p2 p3 p4 s0 s1 s2 s3 s4
     have hnx:NA H x (.agg #[.int .i64 k6,sv t6,.int .i64 n6,.int .i64 a6,nC]):=u2 ▸ NA.mk lg
     have Vz:NA H y (.agg #[.int .i64 k7,sv t7,.int .i64 n7,.int .i64 a7,Ik]):=w2 ▸ NA.mk th
     have Rx:=fun {H':Heap} (hf:Fr [] H H')=>sS (hnx.ext hf)
     have MH:=fun {H':Heap} (hf:Fr [] H H')=>sS (Vz.ext hf)
     have p0:=ab p0 L.fr (by simp)
     have p1:=ab p1 L.fr (by simp)
     have p2:=ab p2 L.fr (by simp)
     have p3:=ab p3 L.fr (by simp)
     have p4:=ab p4 L.fr (by simp)
     have s0:=ab s0 L.fr (by simp)
     have s1:=ab s1 L.fr (by simp)
     have s2:=ab s2 L.fr (by simp)
     have s3:=ab s3 L.fr (by simp)
     have s4:=ab s4 L.fr (by simp)
     unfold sv at Rx MH p1 s1
     simp only[go_sem,c1,p0,p1,p2,p3,p4,s0,s1,s2,s3,s4]
     refine (dw true [109,97,120,40] [109,105,110,40] _).mono ?_
     rintro v H7 ⟨rfl,rfl⟩
     simp only[go_sem,c1,p0,p1,p2,p3,p4,s0,s1,s2,s3,s4]
     refine (Rx L.fr).mono ?_
     rintro v H8 ⟨ox,rfl,qO,hf⟩
     have L:=L.ext hf
     have c1:=L.cell 2 rfl
     unfold sv at c1
     have s0:=ab s0 hf (by simp)
     have s1:=ab s1 hf (by simp)
     have s2:=ab s2 hf (by simp)
     have s3:=ab s3 hf (by simp)
     have s4:=ab s4 hf (by simp)
     simp only[go_sem,c1,s0,s1,s2,s3,s4]
     refine (MH L.fr).mono ?_
     rintro v H9 ⟨oy,rfl,kB,hf⟩
     have L:=L.ext hf
     have Ry:nz [ox,oy] [x,y] mh (fun x=>Lib.itoa (numOf x)) (fun _=>0) (fun _=>20):=(nz.nil.snoc qO).snoc kB
     rw[hv ox,hv oy]
     simp only[go_sem]
     refine L.bc fun bz kb L=>?_
     have hz:=L.get 0 rfl
     have fm:gn Ot.cells kb (some ⟨bz,0,none⟩) [ox,oy]:=(Own.mu (n:=2) (size:=3) hz rfl (by simp[maxLen])).z7
     simp only[go_sem]
     refine (oG [ox,oy] fm (by simp[maxLen]) (ah8 (pH Ry) (by simp))).mono ?_
     rintro v qx ⟨rfl,hf⟩
     have L:=L.ext hf
     have ln:=Ry.dX true
     have WE:=ln.len
     simp at WE
     simp only[go_sem]
     refine (bK ([109,97,120,40]) [41] (Ot.dX true [ox,oy]) (by simp; omega) _).mono ?_
     rintro v vg ⟨rfl,hf⟩
     have L:=L.ext hf
     rw[hv (Ot.au ([109,97,120,40]) (Ot.dX true [ox,oy]) [41])]
     simp only[go_sem]
     refine L.ae 2 rfl rfl (ah (Ot.au ([109,97,120,40]) (Ot.dX true [ox,oy]) [41])) fun HC L=>?_
     have c0:=L.cell 2 rfl
     simp only[go_sem,c0]
     refine ⟨Ot.au ([109,97,120,40]) (Ot.dX true [ox,oy]) [41],rfl,?_,L.fr⟩
     rw[uc,hd,dj]
     refine (ln.au ([109,97,120,40]) [41]).to (by simp) (fun _=>⟨by simp[qN],rfl⟩) (by rw[wN,wL,wL]; simp; omega)
  ·have bZ:false=cV (.mk 11 t n a ks):=by
    rw[dj]
    cases e:(decide (t=[]) && decide (n=0) && (decide (ks.length=2) && ks.all mh)) with
    | false=>rfl
    | true=>
      simp only[ae5,decide_eq_true_eq] at e
      exact absurd ⟨e.1.1,e.1.2,e.2.1⟩ h1
   have hC:(decide (t=[]) && (decide (n=0) && decide ((ks.length:Int)=2)))=false:=by
    cases e:(decide (t=[]) && (decide (n=0) && decide ((ks.length:Int)=2))) with
    | false=>rfl
    | true=>
      simp only[ae5,decide_eq_true_eq,Bl] at e
      exact absurd ⟨e.1,e.2.1,e.2.2⟩ h1
   rw[hC]
   simp only[go_sem]
   refine (aB _).mono ?_
   rintro v HB ⟨rfl,hf⟩
   have L:=L.ext hf
   rw[hv Ot.bad]
   simp only[go_sem]
   refine L.ae 1 rfl rfl (ah Ot.bad) fun HC L=>?_
   have c0:=L.cell 1 rfl
   simp only[go_sem,c0]
   refine ⟨Ot.bad,rfl,(Is.bad [] 0 _).to bZ (fun h=>nomatch h) (afJ _),L.fr⟩
 by_cases k12:k=12
 ·subst k12
  have dj:cV (.mk 12 t n a ks)=(decide (t=[]) && decide (n=0) && (decide (ks.length=2) && ks.all mh)):=by rw[cV.eq_def]; rfl
  have hd:gM (.mk 12 t n a ks)=0:=bX (by decide)
  have fQ:=fQ 2
  unfold sv at c1 fQ
  simp only[go_sem,c1]
  refine (fQ _).mono ?_
  rintro v H6 ⟨rfl,hf⟩
  have L:=L.ext hf
  have c1:=L.cell 2 rfl
  unfold sv at c1
  have Bl:((ks.length:Int)=2)=(ks.length=2):=by apply propext; omega
  by_cases h1:t=[]∧n=0∧ks.length=2
  ·obtain ⟨rfl,rfl,hlen⟩:=h1
   match ks,hlen with
   | [x,y],_=>
     obtain ⟨b6,o6,c6,k6,t6,n6,a6,Bk,nC,u1,u2,⟨p0,p1,p2,p3,p4⟩,lg⟩:=cm hk 0 (by simp)
     cases u1
     obtain ⟨b7,o7,c7,k7,t7,n7,a7,WD,Ik,w1,w2,⟨s0,s1,s2,s3,s4⟩,th⟩:=cm hk 1 (by simp)
     cases w1
     rw[aiK] at u2
     rw[ah2,aiK] at w2
     simp only[ahl,aiL,aiM] at p0 p1 p2 p3 p4 s0 s1 s2 s3 s4
     have hnx:NA H x (.agg #[.int .i64 k6,sv t6,.int .i64 n6,.int .i64 a6,nC]):=u2 ▸ NA.mk lg
     have Vz:NA H y (.agg #[.int .i64 k7,sv t7,.int .i64 n7,.int .i64 a7,Ik]):=w2 ▸ NA.mk th
     have Rx:=fun {H':Heap} (hf:Fr [] H H')=>sS (hnx.ext hf)
     have MH:=fun {H':Heap} (hf:Fr [] H H')=>sS (Vz.ext hf)
     have p0:=ab p0 L.fr (by simp)
     have p1:=ab p1 L.fr (by simp)
     have p2:=ab p2 L.fr (by simp)
     have p3:=ab p3 L.fr (by simp)
     have p4:=ab p4 L.fr (by simp)
     have s0:=ab s0 L.fr (by simp)
     have s1:=ab s1 L.fr (by simp)
     have s2:=ab s2 L.fr (by simp)
     have s3:=ab s3 L.fr (by simp)
     have s4:=ab s4 L.fr (by simp)
     unfold sv at Rx MH p1 s1
     simp only[go_sem,c1,p0,p1,p2,p3,p4,s0,s1,s2,s3,s4]
     refine (dw false [109,97,120,40] [109,105,110,40] _).mono ?_
     rintro v H7 ⟨rfl,rfl⟩
     simp only[go_sem,c1,p0,p1,p2,p3,p4,s0,s1,s2,s3,s4]
     refine (Rx L.fr).mono ?_
     rintro v H8 ⟨ox,rfl,qO,hf⟩
     have L:=L.ext hf
     have c1:=L.cell 2 rfl
     unfold sv at c1
     have s0:=ab s0 hf (by simp)
     have s1:=ab s1 hf (by simp)
     have s2:=ab s2 hf (by simp)
     have s3:=ab s3 hf (by simp)
     have s4:=ab s4 hf (by simp)
     simp only[go_sem,c1,s0,s1,s2,s3,s4]
     refine (MH L.fr).mono ?_
     rintro v H9 ⟨oy,rfl,kB,hf⟩
     have L:=L.ext hf
     have Ry:nz [ox,oy] [x,y] mh (fun x=>Lib.itoa (numOf x)) (fun _=>0) (fun _=>20):=(nz.nil.snoc qO).snoc kB
     rw[hv ox,hv oy]
     simp only[go_sem]
     refine L.bc fun bz kb L=>?_
     have hz:=L.get 0 rfl
     have fm:gn Ot.cells kb (some ⟨bz,0,none⟩) [ox,oy]:=(Own.mu (n:=2) (size:=3) hz rfl (by simp[maxLen])).z7
     simp only[go_sem]
     refine (oG [ox,oy] fm (by simp[maxLen]) (ah8 (pH Ry) (by simp))).mono ?_
     rintro v qx ⟨rfl,hf⟩
     have L:=L.ext hf
     have ln:=Ry.dX true
     have WE:=ln.len
     simp at WE
     simp only[go_sem]
     refine (bK ([109,105,110,40]) [41] (Ot.dX true [ox,oy]) (by simp; omega) _).mono ?_
     rintro v vg ⟨rfl,hf⟩
     have L:=L.ext hf
     rw[hv (Ot.au ([109,105,110,40]) (Ot.dX true [ox,oy]) [41])]
     simp only[go_sem]
     refine L.ae 2 rfl rfl (ah (Ot.au ([109,105,110,40]) (Ot.dX true [ox,oy]) [41])) fun HC L=>?_
     have c0:=L.cell 2 rfl
     simp only[go_sem,c0]
     refine ⟨Ot.au ([109,105,110,40]) (Ot.dX true [ox,oy]) [41],rfl,?_,L.fr⟩
     rw[ud,hd,dj]
     refine (ln.au ([109,105,110,40]) [41]).to (by simp) (fun _=>⟨by simp[qN],rfl⟩) (by rw[wN,wL,wL]; simp; omega)
  ·have bZ:false=cV (.mk 12 t n a ks):=by
    rw[dj]
    cases e:(decide (t=[]) && decide (n=0) && (decide (ks.length=2) && ks.all mh)) with
    | false=>rfl
    | true=>
      simp only[ae5,decide_eq_true_eq] at e
      exact absurd ⟨e.1.1,e.1.2,e.2.1⟩ h1
   have hC:(decide (t=[]) && (decide (n=0) && decide ((ks.length:Int)=2)))=false:=by
    cases e:(decide (t=[]) && (decide (n=0) && decide ((ks.length:Int)=2))) with
    | false=>rfl
    | true=>
      simp only[ae5,decide_eq_true_eq,Bl] at e
      exact absurd ⟨e.1,e.2.1,e.2.2⟩ h1
   rw[hC]
   simp only[go_sem]
   refine (aB _).mono ?_
   rintro v HB ⟨rfl,hf⟩
   have L:=L.ext hf
   rw[hv Ot.bad]
   simp only[go_sem]
   refine L.ae 1 rfl rfl (ah Ot.bad) fun HC L=>?_
   have c0:=L.cell 1 rfl
   simp only[go_sem,c0]
   refine ⟨Ot.bad,rfl,(Is.bad [] 0 _).to bZ (fun h=>nomatch h) (afJ _),L.fr⟩
 by_cases k16:k=16
 ·subst k16
  have dj:cV (.mk 16 t n a ks)=(decide (t=[]) && decide (n=0) && (decide (ks.length=2) && (fw ks).all id)):=by rw[cV.eq_def]; rfl
  have fQ:=fQ 2
  unfold sv at c1 fQ
  simp only[go_sem,c1]
  refine (fQ _).mono ?_
  rintro v H6 ⟨rfl,hf⟩
  have L:=L.ext hf
  have c1:=L.cell 2 rfl
  unfold sv at c1
  have Bl:((ks.length:Int)=2)=(ks.length=2):=by apply propext; omega
  by_cases h1:t=[]∧n=0∧ks.length=2
  ·obtain ⟨rfl,rfl,hlen⟩:=h1
   match ks,hlen with
   | [x,y],_=>
     obtain ⟨b6,o6,c6,k6,t6,n6,a6,Bk,nC,u1,u2,⟨p0,p1,p2,p3,p4⟩,lg⟩:=cm hk 0 (by simp)
     cases u1
     obtain ⟨b7,o7,c7,k7,t7,n7,a7,WD,Ik,w1,w2,⟨s0,s1,s2,s3,s4⟩,th⟩:=cm hk 1 (by simp)
     cases w1
     rw[aiK] at u2
     rw[ah2,aiK] at w2
     simp only[ahl,aiL,aiM] at p0 p1 p2 p3 p4 s0 s1 s2 s3 s4
     have hnx:NA H x (.agg #[.int .i64 k6,sv t6,.int .i64 n6,.int .i64 a6,nC]):=u2 ▸ NA.mk lg
     have Vz:NA H y (.agg #[.int .i64 k7,sv t7,.int .i64 n7,.int .i64 a7,Ik]):=w2 ▸ NA.mk th
     rw[aA,aA,aA] at dO
     rw[wL,wL,wL] at hw
     have Rx:=fun {H':Heap} (hf:Fr [] H H')=>ih x (by omega) (hnx.ext hf) (by omega)
     have MH:=fun {H':Heap} (hf:Fr [] H H')=>ih y (by omega) (Vz.ext hf) (by omega)
     have p0:=ab p0 L.fr (by simp)
     have p1:=ab p1 L.fr (by simp)
     have p2:=ab p2 L.fr (by simp)
     have p3:=ab p3 L.fr (by simp)
     have p4:=ab p4 L.fr (by simp)
     have s0:=ab s0 L.fr (by simp)
     have s1:=ab s1 L.fr (by simp)
     have s2:=ab s2 L.fr (by simp)
     have s3:=ab s3 L.fr (by simp)
     have s4:=ab s4 L.fr (by simp)
     unfold sv at Rx MH p1 s1
     simp only[go_sem,c1,p0,p1,p2,p3,p4,s0,s1,s2,s3,s4]
     refine (Rx L.fr).mono ?_
     rintro v H8 ⟨ox,rfl,qO,hf⟩
     have L:=L.ext hf
     have c1:=L.cell 2 rfl
     unfold sv at c1
     have s0:=ab s0 hf (by simp)
     have s1:=ab s1 hf (by simp)
     have s2:=ab s2 hf (by simp)
     have s3:=ab s3 hf (by simp)
     have s4:=ab s4 hf (by simp)
     simp only[go_sem,c1,s0,s1,s2,s3,s4]
     refine (MH L.fr).mono ?_
     rintro v H9 ⟨oy,rfl,kB,hf⟩
     have L:=L.ext hf
     have Ry:nz [ox,oy] [x,y] cV sL gM wN:=(nz.nil.snoc qO).snoc kB
     rw[hv ox,hv oy]
     simp only[go_sem]
     refine L.bc fun bz kb L=>?_
     have hz:=L.get 0 rfl
     have fm:gn Ot.cells kb (some ⟨bz,0,none⟩) [ox,oy]:=(Own.mu (n:=2) (size:=3) hz rfl (by simp[maxLen])).z7
     have fj:=pH Ry
     simp at fj
     simp only[go_sem]
     refine (oG [ox,oy] fm (by simp[maxLen]) (by omega)).mono ?_
     rintro v qx ⟨rfl,hf⟩
     have L:=L.ext hf
     have ln:=Ry.dX true
     have WE:=ln.len
     have hdl:=ln.dep
     simp at WE hdl
     simp only[go_sem]
     refine (bK [108,101,120,40] [41] (Ot.dX true [ox,oy]) (by simp; omega) _).mono ?_
     rintro v vg ⟨rfl,hf⟩
     have L:=L.ext hf
     have Np:(Ot.au [108,101,120,40] (Ot.dX true [ox,oy]) [41]).n≤1000000000:=by
      show max 0 (max (Ot.dX true [ox,oy]).n 0)≤_
      omega
     simp only[go_sem]
     refine (iV (Ot.au [108,101,120,40] (Ot.dX true [ox,oy]) [41]) (by omega) _).mono ?_
     rintro v tL ⟨rfl,hf⟩
     have L:=L.ext hf
     rw[hv ((Ot.au [108,101,120,40] (Ot.dX true [ox,oy]) [41]).il)]
     simp only[go_sem]
     refine L.ae 2 rfl rfl (ah ((Ot.au [108,101,120,40] (Ot.dX true [ox,oy]) [41]).il)) fun HC L=>?_
     have c0:=L.cell 2 rfl
     simp only[go_sem,c0]
     refine ⟨(Ot.au [108,101,120,40] (Ot.dX true [ox,oy]) [41]).il,rfl,?_,L.fr⟩
     rw[ue,so,dj]
     refine (ln.au [108,101,120,40] [41]).il.to (by simp[fw]) (fun _=>⟨by simp[qN],by simp[uk]⟩) (by rw[wN,wL,wL,wL]; simp; omega)
  ·have bZ:false=cV (.mk 16 t n a ks):=by
    rw[dj]
    cases e:(decide (t=[]) && decide (n=0) && (decide (ks.length=2) && (fw ks).all id)) with
    | false=>rfl
    | true=>
      simp only[ae5,decide_eq_true_eq] at e
      exact absurd ⟨e.1.1,e.1.2,e.2.1⟩ h1
   have hC:(decide (t=[]) && (decide (n=0) && decide ((ks.length:Int)=2)))=false:=by
    cases e:(decide (t=[]) && (decide (n=0) && decide ((ks.length:Int)=2))) with
    | false=>rfl
    | true=>
      simp only[ae5,decide_eq_true_eq,Bl] at e
      exact absurd ⟨e.1,e.2.1,e.2.2⟩ h1
   rw[hC]
   simp only[go_sem]
   refine (aB _).mono ?_
   rintro v HB ⟨rfl,hf⟩
   have L:=L.ext hf
   rw[hv Ot.bad]
   simp only[go_sem]
   refine L.ae 1 rfl rfl (ah Ot.bad) fun HC L=>?_
   have c0:=L.cell 1 rfl
   simp only[go_sem,c0]
   refine ⟨Ot.bad,rfl,(Is.bad [] 0 _).to bZ (fun h=>nomatch h) (afJ _),L.fr⟩
 by_cases k15:k=15
 ·subst k15
  have dj:cV (.mk 15 t n a ks)=(decide (t=[]) && decide (n=0) && (!ks.isEmpty && fb ks)):=by rw[cV.eq_def]; rfl
  have fQ:=fQ (ks.length:Int)
  unfold sv at c1 fQ
  simp only[go_sem,c1]
  refine (fQ _).mono ?_
  rintro v H6 ⟨rfl,hf⟩
  have L:=L.ext hf
  have c1:=L.cell 2 rfl
  unfold sv at c1
  by_cases h1:(t=[]∧n=0)∧ks≠[]
  ·obtain ⟨⟨rfl,rfl⟩,dH⟩:=h1
   have tE:0 < ks.length:=aho.2 dH
   have hg:(0:Int) < (ks.length:Int):=by omega
   simp only[go_sem,c1,hg]
   refine (Di ih (by omega) (hk.ext L.fr) eJ (by simp at hw; omega)).mono ?_
   rintro v H7 ⟨os,ao,co,rfl,fm,ln,WE,hIs,hf⟩
   have L:=L.ext hf
   simp only[go_sem]
   refine (oG os fm ln (by simp at hw; omega)).mono ?_
   rintro v H8 ⟨rfl,hf⟩
   have L:=L.ext hf
   have hlen:=hIs.len
   have ael:=hIs.dep
   simp at hw
   simp only[go_sem]
   refine (bK [123] [125] (Ot.dX true os) (by simp; omega) _).mono ?_
   rintro v H9 ⟨rfl,hf⟩
   have L:=L.ext hf
   have Np:(Ot.au [123] (Ot.dX true os) [125]).n≤1000000000:=by
    show max 0 (max (Ot.dX true os).n 0)≤_
    omega
   simp only[go_sem]
   refine (iV (Ot.au [123] (Ot.dX true os) [125]) (by omega) _).mono ?_
   rintro v kb ⟨rfl,hf⟩
   have L:=L.ext hf
   rw[hv ((Ot.au [123] (Ot.dX true os) [125]).il)]
   simp only[go_sem]
   refine L.ae 1 rfl rfl (ah ((Ot.au [123] (Ot.dX true os) [125]).il)) fun HC L=>?_
   have c0:=L.cell 1 rfl
   simp only[go_sem,c0]
   refine ⟨(Ot.au [123] (Ot.dX true os) [125]).il,rfl,?_,L.fr⟩
   have hie:ks.isEmpty=false:=by simpa using dH
   rw[pD,om,dj,hie]
   exact (hIs.au [123] [125]).il.to (by simp) (fun _=>⟨by simp,rfl⟩) (by rw[wN]; simp; omega)
  ·have bZ:false=cV (.mk 15 t n a ks):=by
    rw[dj]
    cases e:(decide (t=[]) && decide (n=0) && (!ks.isEmpty && fb ks)) with
    | false=>rfl
    | true=>
      simp only[ae5,decide_eq_true_eq,Bool.not_eq_true'] at e
      refine absurd ⟨⟨e.1.1,e.1.2⟩,fun h=>?_⟩ h1
      rw[h] at e
      exact absurd e.2.1 (by decide)
   by_cases h2:t=[]∧n=0
   ·have h3:ks=[]:=by
     rcases ajb (ks=[]) with h | h
     ·exact h
     ·exact absurd ⟨h2,h⟩ h1
    obtain ⟨rfl,rfl⟩:=h2
    have hg:¬ (0:Int) < (ks.length:Int):=by rw[h3]; simp
    simp only[go_sem,c1,hg]
    refine (aB _).mono ?_
    rintro v HB ⟨rfl,hf⟩
    have L:=L.ext hf
    rw[hv Ot.bad]
    simp only[go_sem]
    refine L.ae 1 rfl rfl (ah Ot.bad) fun HC L=>?_
    have c0:=L.cell 1 rfl
    simp only[go_sem,c0]
    refine ⟨Ot.bad,rfl,(Is.bad [] 0 _).to bZ (fun h=>nomatch h) (afJ _),L.fr⟩
   ·have hC:(decide (t=[]) && (decide (n=0) && decide ((ks.length:Int)=(ks.length:Int))))=false:=by
     cases e:(decide (t=[]) && (decide (n=0) && decide ((ks.length:Int)=(ks.length:Int)))) with
     | false=>rfl
     | true=>
       simp only[ae5,decide_eq_true_eq] at e
       exact absurd ⟨e.1,e.2.1⟩ h2
    rw[hC]
    simp only[go_sem,c1]
    refine (aB _).mono ?_
    rintro v HB ⟨rfl,hf⟩
    have L:=L.ext hf
    rw[hv Ot.bad]
    simp only[go_sem]
    refine L.ae 1 rfl rfl (ah Ot.bad) fun HC L=>?_
    have c0:=L.cell 1 rfl
    simp only[go_sem,c0]
    refine ⟨Ot.bad,rfl,(Is.bad [] 0 _).to bZ (fun h=>nomatch h) (afJ _),L.fr⟩
 by_cases k19:k=19
 ·subst k19
  have dj:cV (.mk 19 t n a ks)=(decide (t=[]) && decide (n=0) && ((aP ks).all dQ && (bt ks).all jQ)):=by rw[cV.eq_def]; rfl
  have hd:gM (.mk 19 t n a ks)=0:=bX (by decide)
  have fQ:=fQ (ks.length:Int)
  unfold sv at c1 fQ
  simp only[go_sem,c1]
  refine (fQ _).mono ?_
  rintro v H6 ⟨rfl,hf⟩
  have L:=L.ext hf
  have c1:=L.cell 2 rfl
  have c3:=L.cell 0 rfl
  unfold Ot.cells at c3
  unfold sv at c1
  by_cases h1:t=[]∧n=0
  ·obtain ⟨rfl,rfl⟩:=h1
   have Bl:many≤ks.length:=by rw[mg]; exact (ai4 _).length_le
   have rr:=pz ks
   have WZ:bt ks=ks.drop many:=by
    conv=>rhs; rw[rr,mg,List.drop_left]
   have Wx:ks.length - many=(bt ks).length:=by rw[WZ,List.length_drop]
   have pX:dA H [] (aW (bt ks)) [.slice (if cc=many then aa else aa.map (·.add (many * 5))) (bt ks).length (cc - many)]:=by
    have:=dA.Rr hk (k:=many) (by simpa using Bl)
    rw[← List.map_drop,← WZ,Wx] at this; exact this
   have gK:(0:Int)≤(many:Int)∧(many:Int)≤(ks.length:Int):=by omega
   have hcl:=wcl ks
   have hru:=fun {H':Heap} (hf:Fr [] H H')=>Ij Nq (pX.ext hf) (by omega) (by simp at hw; omega)
   simp only[go_sem,c1,c3,gK]
   rw[Wx]
   refine (hru L.fr).mono ?_
   rintro v H7 ⟨ox,rfl,qO,hf⟩
   have L:=L.ext hf
   have hlen:=qO.len
   simp at hw
   simp only[go_sem]
   refine (bK [99,108,111,115,101,100,40] [41] ox (by simp; omega) _).mono ?_
   rintro v H8 ⟨rfl,hf⟩
   have L:=L.ext hf
   rw[hv (Ot.au [99,108,111,115,101,100,40] ox [41])]
   simp only[go_sem]
   refine L.ae 1 rfl rfl (ah (Ot.au [99,108,111,115,101,100,40] ox [41])) fun HC L=>?_
   have c0:=L.cell 1 rfl
   simp only[go_sem,c0]
   refine ⟨Ot.au [99,108,111,115,101,100,40] ox [41],rfl,?_,L.fr⟩
   rw[jT,hd,dj]
   exact (qO.au [99,108,111,115,101,100,40] [41]).to (by simp) (fun _=>⟨by simp,rfl⟩) (by rw[wN]; simp; omega)
  ·have bZ:false=cV (.mk 19 t n a ks):=by
    rw[dj]
    cases e:(decide (t=[]) && decide (n=0) && ((aP ks).all dQ && (bt ks).all jQ)) with
    | false=>rfl
    | true=>
      simp only[ae5,decide_eq_true_eq] at e
      exact absurd ⟨e.1.1,e.1.2⟩ h1
   have hC:(decide (t=[]) && (decide (n=0) && decide ((ks.length:Int)=(ks.length:Int))))=false:=by
    cases e:(decide (t=[]) && (decide (n=0) && decide ((ks.length:Int)=(ks.length:Int)))) with
    | false=>rfl
    | true=>
      simp only[ae5,decide_eq_true_eq] at e
      exact absurd ⟨e.1,e.2.1⟩ h1
   rw[hC]
   simp only[go_sem]
   refine (aB _).mono ?_
   rintro v HB ⟨rfl,hf⟩
   have L:=L.ext hf
   rw[hv Ot.bad]
   simp only[go_sem]
   refine L.ae 1 rfl rfl (ah Ot.bad) fun HC L=>?_
   have c0:=L.cell 1 rfl
   simp only[go_sem,c0]
   refine ⟨Ot.bad,rfl,(Is.bad [] 0 _).to bZ (fun h=>nomatch h) (afJ _),L.fr⟩
 have bZ:false=cV (.mk k t n a ks):=by
  rw[cV.eq_def]
  simp only[k21,Wm,k18,k13,k17,k14,k11,k12,k16,k15,k19,if_false,Bool.and_false]
 unfold sv at c1
 simp only[go_sem,c1,k21,Wm,k18,k13,k17,k14,k11,k12,k16,k15,k19]
 refine (aB _).mono ?_
 rintro v HB ⟨rfl,hf⟩
 have L:=L.ext hf
 rw[hv Ot.bad]
 simp only[go_sem]
 refine L.ae 1 rfl rfl (ah Ot.bad) fun HC L=>?_
 have c0:=L.cell 1 rfl
 simp only[go_sem,c0]
 refine ⟨Ot.bad,rfl,(Is.bad [] 0 _).to bZ (fun h=>nomatch h) (afJ _),L.fr⟩
theorem sZ:∀ N,PS N
 | 0,x,h,_,_,_,_=>by cases x; simp only[aq] at h; omega
 | N + 1,x,h,_,_,hx,hw=>Ip (sZ N) x h hx hw
theorem yd (n:Int) (H:Heap):RC 104 [.int .i64 n] H (qD n) (cC n) 0 5:=by
 refine af (args:=[_]) Tryz.func104 TB (ahi rfl) ?_
 have L:=L0 H
 have hv:∀ o:Ot,o.val= .agg #[sv o.s,.int .i64 o.n,.bool o.b]:=fun o=>rfl
 simp only[go_sem,aav]
 refine L.aS fun b2 H2 L=>?_
 by_cases h1:n < 1
 ·simp only[go_sem,h1]
  refine (aB _).mono ?_
  rintro v HB ⟨rfl,hf⟩
  have L:=L.ext hf
  rw[hv Ot.bad]
  simp only[go_sem]
  refine L.ae 0 rfl rfl (ah Ot.bad) fun HC L=>?_
  have c0:=L.cell 0 rfl
  simp only[go_sem,c0]
  refine ⟨Ot.bad,rfl,(Is.bad [] 0 _).to ?_ (fun h=>nomatch h) (afJ _),L.fr⟩
  unfold qD; simp; omega
 by_cases h4:4 < n
 ·simp only[go_sem,h1,h4]
  refine (aB _).mono ?_
  rintro v HB ⟨rfl,hf⟩
  have L:=L.ext hf
  rw[hv Ot.bad]
  simp only[go_sem]
  refine L.ae 0 rfl rfl (ah Ot.bad) fun HC L=>?_
  have c0:=L.cell 0 rfl
  simp only[go_sem,c0]
  refine ⟨Ot.bad,rfl,(Is.bad [] 0 _).to ?_ (fun h=>nomatch h) (afJ _),L.fr⟩
  unfold qD; simp; omega
 simp only[go_sem,h1,h4]
 refine L.bc fun b3 H3 L=>?_
 have c3:=L.cell 0 rfl
 have w0:afd.wrap 0=0:=rfl
 have w1:afd.wrap 1=1:=rfl
 have w2:afd.wrap 2=2:=rfl
 have w3:afd.wrap 3=3:=rfl
 obtain rfl | rfl | rfl | rfl:n=1∨n=2∨n=3∨n=4:=by omega
 all_goals
  simp only[go_sem,c3,w0,w1,w2,w3]
  refine (aX _ _).mono ?_
  rintro v H4 ⟨rfl,hf⟩
  have L:=L.ext hf
  rw[hv (Ot.word _)]
  simp only[go_sem]
  refine L.ae 1 rfl rfl (ah (Ot.word _)) fun HC L=>?_
  have c0:=L.cell 1 rfl
  simp only[go_sem,c0]
  refine ⟨Ot.word _,rfl,?_,L.fr⟩
  exact (Is.word _).to rfl (fun _=>⟨rfl,rfl⟩) (by decide)
theorem Fj:∀ (b:Bool) (ks:List Nd),qN Ds b ks=pQ b ks
 | _,[]=>rfl
 | b,x :: r=>by rw[pQ,qN,Fj false r]
theorem ux:∀ ks:List Nd,uk (fun _=>0) ks=0
 | []=>rfl
 | x :: r=>by rw[uk,ux r]; rfl
theorem Fk {ks:List Nd} {m:Nat} (h:m + 2=ks.length):ks=ks.take m ++ [ks[m],ks[m + 1]]:=by
 have h1:=aim (l:=ks) (i:=m) (by omega)
 have h2:=aim (l:=ks) (i:=m + 1) (by omega)
 rw[show m + 1 + 1=ks.length by omega,ain] at h2
 exact h2.trans (by rw[h1,List.append_assoc]; rfl)
theorem abD {k n p:Int} {t:Bs} {ks:List Nd} (hk:k=2∨k=3) (h:l4 (.mk k t n p ks)=true):ks.length=1∧n=0:=by
 rw[ku,if_pos hk] at h
 simp only[ae5,decide_eq_true_eq] at h
 obtain ⟨_,h1,h2⟩:=h
 split at h2
 ·exact ⟨rfl,h1⟩
 ·cases h2
theorem aen {k n p:Int} {t:Bs} {ks:List Nd} {m:Nat} (hk:k=4∨k=5) (hm:m + 2=ks.length):l4 (.mk k t n p ks)=(aT t && ((ks.take m).all kI && su ks[m] && okB ks[m + 1] && (if k=4 then decide (n=0) else qD n))):=by
 have hs:=du (ks.take m) ks[m] ks[m + 1]
 rw[← Fk hm] at hs
 rw[ku,if_neg (by omega),if_pos hk]
 simp only[hs]
def zH (k:Int):Bs:=if k=4 then [117,112,100,97,116,101,32] else [113,117,101,114,121,32]
theorem sD4 {k n p:Int} {t:Bs} {ks:List Nd} {m:Nat} (hk:k=4∨k=5) (hm:m + 2=ks.length):sD (.mk k t n p ks)=zH k ++ (t ++ 40 :: (pQ true (ks.take m) ++ ([41,32,111,110,32] ++ (ak ks[m] ++ ((if k=5 then 58 :: 32 :: cC n else []) ++ 32 :: 61 :: 32 :: sB ks[m + 1]))))):=by
 have hs:=du (ks.take m) ks[m] ks[m + 1]
 rw[← Fk hm] at hs
 rw[sD,if_neg (by omega),if_neg (by omega)]
 simp only[hs]
 unfold zH
 rcases hk with rfl | rfl <;> simp
theorem aeo {k n p:Int} {t:Bs} {ks:List Nd} {m:Nat} (hk:k=4∨k=5) (hm:m + 2=ks.length):zm (.mk k t n p ks)=gu ks[m + 1]:=by
 have hs:=du (ks.take m) ks[m] ks[m + 1]
 rw[← Fk hm] at hs
 rw[zm,if_neg (by omega)]
 simp only[hs]
theorem PX (k:Int):(zH k).length≤7:=by unfold zH; split <;> decide
theorem VF (k:Int) (H:Heap):aE afI 86 #[.bool (decide (k=4)),.string ⟨⟨[117,112,100,97,116,101,32]⟩⟩,.string ⟨⟨[113,117,101,114,121,32]⟩⟩] H fun v H'=>v= .string ⟨⟨zH k⟩⟩∧H'=H:=by
 refine (dw (decide (k=4)) [117,112,100,97,116,101,32] [113,117,101,114,121,32] H).mono ?_
 rintro v H' ⟨rfl,rfl⟩
 unfold zH sv
 simp
set_option maxHeartbeats 4000000 in
theorem MK (x:Nd) {H:Heap} {v:Value} (hx:NA H x v) (hw:wN x≤1000000000):RC 79 [v] H (l4 x) (sD x) (zm x) (wN x - 8):=by
 obtain ⟨k,t,n,a,ks,aa,cc,rfl,rfl,hk,jG,eJ⟩:=hx.fields
 refine af (args:=[_]) Tryz.func79 aac (ahi rfl) ?_
 have L:=L0 H
 have hv:∀ o:Ot,o.val= .agg #[sv o.s,.int .i64 o.n,.bool o.b]:=fun o=>rfl
 have tm:wN (.mk k t n a ks)=t.length + 64 + wL ks:=by rw[wN]
 rw[tm] at hw ⊢
 have M9:64 * ks.length≤wL ks:=xM ks
 have sU:=fun H=>gI t H
 unfold sv at sU
 simp only[go_sem,c79]
 refine L.aS fun b1 H1 L=>?_
 simp only[go_sem]
 refine L.aS fun b2 H2 L=>?_
 have c1:=L.cell 1 rfl
 unfold sv at c1
 simp only[go_sem,c1]
 refine (sU _).mono ?_
 rintro v H3 ⟨rfl,hf⟩
 have L:=L.ext hf
 have c1:=L.cell 1 rfl
 unfold sv at c1
 by_cases yF:aT t=true
 case neg=>
  simp only[go_sem,yF]
  refine (aB _).mono ?_
  rintro v HB ⟨rfl,hf⟩
  have L:=L.ext hf
  rw[hv Ot.bad]
  simp only[go_sem]
  refine L.ae 0 rfl rfl (ah Ot.bad) fun HC L=>?_
  have c0:=L.cell 0 rfl
  simp only[go_sem,c0]
  refine ⟨Ot.bad,rfl,(Is.bad [] 0 _).to ?_ (fun h=>nomatch h) (afJ _),L.fr⟩
  rw[ku]; simp[yF]
 have Ep:=cX yF
 by_cases h2:k=2
 ·subst h2
  have bZ:¬ (ks.length=1∧n=0)→false=l4 (.mk 2 t n a ks):=fun h=>by
   cases e:l4 (.mk 2 t n a ks) with
   | false=>rfl
   | true=>exact absurd (abD (by simp) e) h
  by_cases h1:ks.length=1
  case neg=>
   have yk:¬ (ks.length:Int)=1:=by omega
   simp only[go_sem,c1,yF,yk]
   refine (aB _).mono ?_
   rintro v HB ⟨rfl,hf⟩
   have L:=L.ext hf
   rw[hv Ot.bad]
   simp only[go_sem]
   refine L.ae 0 rfl rfl (ah Ot.bad) fun HC L=>?_
   have c0:=L.cell 0 rfl
   simp only[go_sem,c0]
   refine ⟨Ot.bad,rfl,(Is.bad [] 0 _).to ?_ (fun h=>nomatch h) (afJ _),L.fr⟩
   exact bZ fun h=>h1 h.1
  by_cases h2:n=0
  case neg=>
   have yk:(ks.length:Int)=1:=by omega
   simp only[go_sem,c1,yF,yk,h2]
   refine (aB _).mono ?_
   rintro v HB ⟨rfl,hf⟩
   have L:=L.ext hf
   rw[hv Ot.bad]
   simp only[go_sem]
   refine L.ae 0 rfl rfl (ah Ot.bad) fun HC L=>?_
   have c0:=L.cell 0 rfl
   simp only[go_sem,c0]
   refine ⟨Ot.bad,rfl,(Is.bad [] 0 _).to ?_ (fun h=>nomatch h) (afJ _),L.fr⟩
   exact bZ fun h=>h2 h.2
  subst h2
  match ks,h1 with
  | [y],_=>
    simp only[wL] at hw ⊢
    obtain ⟨b6,o6,c6,k6,t6,n6,a6,Bk,nC,u6,w6,⟨p0,p1,p2,p3,p4⟩,lg⟩:=cm hk 0 (by simp)
    cases u6
    simp only[aiK] at w6
    simp only[aiL,ahl] at p0 p1 p2 p3 p4
    have gL:NA H y (.agg #[.int .i64 k6,sv t6,.int .i64 n6,.int .i64 a6,nC]):=w6 ▸ NA.mk lg
    have jE:=fun {H':Heap} (hf:Fr [] H H')=>sZ _ y (afJ _) (gL.ext hf) (by omega)
    unfold sv at jE p1
    have p0:=ab p0 L.fr (by simp)
    have p1:=ab p1 L.fr (by simp)
    have p2:=ab p2 L.fr (by simp)
    have p3:=ab p3 L.fr (by simp)
    have p4:=ab p4 L.fr (by simp)
    simp only[go_sem,c1,yF,aI,fU,p0,p1,p2,p3,p4]
    refine ⟨by omega,by omega,by omega,by omega,?_⟩
    refine (dw _ _ _ _).mono ?_
    rintro v1 H4 ⟨rfl,rfl⟩
    simp only[go_sem,c1,p0,p1,p2,p3,p4]
    refine (aX (108 :: 97 :: 116 :: 116 :: 105 :: 99 :: 101 :: 32 :: (t ++ [32,61,32])) _).mono ?_
    rintro v1 H5 ⟨rfl,hf⟩
    have L:=L.ext hf
    have p0:=ab p0 hf (by simp)
    have p1:=ab p1 hf (by simp)
    have p2:=ab p2 hf (by simp)
    have p3:=ab p3 hf (by simp)
    have p4:=ab p4 hf (by simp)
    have c1:=L.cell 1 rfl
    unfold sv at c1
    simp only[go_sem,c1,p0,p1,p2,p3,p4]
    refine (jE L.fr).mono ?_
    rintro v1 H6 ⟨oy,rfl,kB,hf⟩
    have L:=L.ext hf
    have IK:=kB.len
    have GL:(Ot.word (108 :: 97 :: 116 :: 116 :: 105 :: 99 :: 101 :: 32 :: (t ++ [32,61,32]))).s.length≤t.length + 12:=by show (108 :: 97 :: 116 :: 116 :: 105 :: 99 :: 101 :: 32 :: (t ++ [32,61,32])).length≤_; simp
    simp only[go_sem]
    refine (bB (Ot.word (108 :: 97 :: 116 :: 116 :: 105 :: 99 :: 101 :: 32 :: (t ++ [32,61,32]))) oy (by omega) _).mono ?_
    rintro v1 H7 ⟨rfl,hf⟩
    have L:=L.ext hf
    rw[hv ((Ot.word (108 :: 97 :: 116 :: 116 :: 105 :: 99 :: 101 :: 32 :: (t ++ [32,61,32]))).cat oy)]
    simp only[go_sem]
    refine L.ae 0 rfl rfl (ah ((Ot.word (108 :: 97 :: 116 :: 116 :: 105 :: 99 :: 101 :: 32 :: (t ++ [32,61,32]))).cat oy)) fun HC L=>?_
    have c0:=L.cell 0 rfl
    simp only[go_sem,c0]
    refine ⟨(Ot.word (108 :: 97 :: 116 :: 116 :: 105 :: 99 :: 101 :: 32 :: (t ++ [32,61,32]))).cat oy,rfl,?_,L.fr⟩
    refine ((Is.word _).cat kB).to ?_ (fun _=>⟨?_,?_⟩) ?_
    ·rw[ku,yF]; rfl
    ·rw[ER]; simp
    ·rw[pA (by simp)]; simp
    ·simp; omega
 by_cases h3:k=3
 ·subst h3
  have bZ:¬ (ks.length=1∧n=0)→false=l4 (.mk 3 t n a ks):=fun h=>by
   cases e:l4 (.mk 3 t n a ks) with
   | false=>rfl
   | true=>exact absurd (abD (by simp) e) h
  by_cases h1:ks.length=1
  case neg=>
   have yk:¬ (ks.length:Int)=1:=by omega
   simp only[go_sem,c1,yF,yk]
   refine (aB _).mono ?_
   rintro v HB ⟨rfl,hf⟩
   have L:=L.ext hf
   rw[hv Ot.bad]
   simp only[go_sem]
   refine L.ae 0 rfl rfl (ah Ot.bad) fun HC L=>?_
   have c0:=L.cell 0 rfl
   simp only[go_sem,c0]
   refine ⟨Ot.bad,rfl,(Is.bad [] 0 _).to ?_ (fun h=>nomatch h) (afJ _),L.fr⟩
   exact bZ fun h=>h1 h.1
  by_cases h2:n=0
  case neg=>
   have yk:(ks.length:Int)=1:=by omega
   simp only[go_sem,c1,yF,yk,h2]
   refine (aB _).mono ?_
   rintro v HB ⟨rfl,hf⟩
   have L:=L.ext hf
   rw[hv Ot.bad]
   simp only[go_sem]
   refine L.ae 0 rfl rfl (ah Ot.bad) fun HC L=>?_
   have c0:=L.cell 0 rfl
   simp only[go_sem,c0]
   refine ⟨Ot.bad,rfl,(Is.bad [] 0 _).to ?_ (fun h=>nomatch h) (afJ _),L.fr⟩
   exact bZ fun h=>h2 h.2
  subst h2
  match ks,h1 with
  | [y],_=>
    simp only[wL] at hw ⊢
    obtain ⟨b6,o6,c6,k6,t6,n6,a6,Bk,nC,u6,w6,⟨p0,p1,p2,p3,p4⟩,lg⟩:=cm hk 0 (by simp)
    cases u6
    simp only[aiK] at w6
    simp only[aiL,ahl] at p0 p1 p2 p3 p4
    have gL:NA H y (.agg #[.int .i64 k6,sv t6,.int .i64 n6,.int .i64 a6,nC]):=w6 ▸ NA.mk lg
    have jE:=fun {H':Heap} (hf:Fr [] H H')=>sZ _ y (afJ _) (gL.ext hf) (by omega)
    unfold sv at jE p1
    have p0:=ab p0 L.fr (by simp)
    have p1:=ab p1 L.fr (by simp)
    have p2:=ab p2 L.fr (by simp)
    have p3:=ab p3 L.fr (by simp)
    have p4:=ab p4 L.fr (by simp)
    simp only[go_sem,c1,yF,aI,fU,p0,p1,p2,p3,p4]
    refine ⟨by omega,by omega,by omega,by omega,?_⟩
    refine (dw _ _ _ _).mono ?_
    rintro v1 H4 ⟨rfl,rfl⟩
    simp only[go_sem,c1,p0,p1,p2,p3,p4]
    refine (aX (111 :: 98 :: 106 :: 101 :: 99 :: 116 :: 32 :: (t ++ [58,32])) _).mono ?_
    rintro v1 H5 ⟨rfl,hf⟩
    have L:=L.ext hf
    have p0:=ab p0 hf (by simp)
    have p1:=ab p1 hf (by simp)
    have p2:=ab p2 hf (by simp)
    have p3:=ab p3 hf (by simp)
    have p4:=ab p4 hf (by simp)
    have c1:=L.cell 1 rfl
    unfold sv at c1
    simp only[go_sem,c1,p0,p1,p2,p3,p4]
    refine (jE L.fr).mono ?_
    rintro v1 H6 ⟨oy,rfl,kB,hf⟩
    have L:=L.ext hf
    have IK:=kB.len
    have GL:(Ot.word (111 :: 98 :: 106 :: 101 :: 99 :: 116 :: 32 :: (t ++ [58,32]))).s.length≤t.length + 12:=by show (111 :: 98 :: 106 :: 101 :: 99 :: 116 :: 32 :: (t ++ [58,32])).length≤_; simp
    simp only[go_sem]
    refine (bB (Ot.word (111 :: 98 :: 106 :: 101 :: 99 :: 116 :: 32 :: (t ++ [58,32]))) oy (by omega) _).mono ?_
    rintro v1 H7 ⟨rfl,hf⟩
    have L:=L.ext hf
    rw[hv ((Ot.word (111 :: 98 :: 106 :: 101 :: 99 :: 116 :: 32 :: (t ++ [58,32]))).cat oy)]
    simp only[go_sem]
    refine L.ae 0 rfl rfl (ah ((Ot.word (111 :: 98 :: 106 :: 101 :: 99 :: 116 :: 32 :: (t ++ [58,32]))).cat oy)) fun HC L=>?_
    have c0:=L.cell 0 rfl
    simp only[go_sem,c0]
    refine ⟨(Ot.word (111 :: 98 :: 106 :: 101 :: 99 :: 116 :: 32 :: (t ++ [58,32]))).cat oy,rfl,?_,L.fr⟩
    refine ((Is.word _).cat kB).to ?_ (fun _=>⟨?_,?_⟩) ?_
    ·rw[ku,yF]; rfl
    ·rw[AN]; simp
    ·rw[pA (by simp)]; simp
    ·simp; omega
 by_cases rC:k=4∨k=5
 case neg=>
  have h4:¬ k=4:=fun h=>rC (.inl h)
  have h5:¬ k=5:=fun h=>rC (.inr h)
  simp only[go_sem,c1,yF,h2,h3,h4,h5]
  refine (aB _).mono ?_
  rintro v HB ⟨rfl,hf⟩
  have L:=L.ext hf
  rw[hv Ot.bad]
  simp only[go_sem]
  refine L.ae 0 rfl rfl (ah Ot.bad) fun HC L=>?_
  have c0:=L.cell 0 rfl
  simp only[go_sem,c0]
  refine ⟨Ot.bad,rfl,(Is.bad [] 0 _).to ?_ (fun h=>nomatch h) (afJ _),L.fr⟩
  rw[ku,if_neg (by omega),if_neg rC]; simp
 by_cases hm:ks.length < 2
 case pos=>
  have bZ:false=l4 (.mk k t n a ks):=by
   cases e:l4 (.mk k t n a ks) with
   | false=>rfl
   | true=>
     exfalso
     cases iT e with
     | Rk=>omega
     | obj=>omega
     | Rm=>simp at hm; omega
     | Rn=>simp at hm; omega
  have GY:(ks.length:Int) < 2:=by omega
  rcases rC with e | e
  all_goals
   simp only[go_sem,c1,yF,e,GY]
   refine (aB _).mono ?_
   rintro v HB ⟨rfl,hf⟩
   have L:=L.ext hf
   rw[hv Ot.bad]
   simp only[go_sem]
   refine L.ae 0 rfl rfl (ah Ot.bad) fun HC L=>?_
   have c0:=L.cell 0 rfl
   simp only[go_sem,c0]
   refine ⟨Ot.bad,rfl,(Is.bad [] 0 _).to ?_ (fun h=>nomatch h) (afJ _),L.fr⟩
   rw[← e]; exact bZ
 obtain ⟨m,hmk⟩:∃ m,m + 2=ks.length:=⟨ks.length - 2,by omega⟩
 have GY:¬ (ks.length:Int) < 2:=by omega
 have VG:=aen (n:=n) (p:=a) (t:=t) rC hmk
 have hsD:=sD4 (n:=n) (p:=a) (t:=t) rC hmk
 have abE:=aeo (n:=n) (p:=a) (t:=t) rC hmk
 have ae4:=eM ks m (by omega)
 have aep:=eM ks (m + 1) (by omega)
 rw[show m + 1 + 1=ks.length by omega,ain] at aep
 have OP:afd.wrap ((ks.length:Int) - 2)=((m:Nat):Int):=by
  unfold maxLen at eJ
  rw[aV _ (by omega) (by omega)]; omega
 have IF:afd.wrap ((ks.length:Int) - 1)=((m + 1:Nat):Int):=by
  unfold maxLen at eJ
  rw[aV _ (by omega) (by omega)]; omega
 have eS:(0:Int)≤((m:Nat):Int)∧((m:Nat):Int) < (ks.length:Int):=by omega
 have J6:(0:Int)≤((m + 1:Nat):Int)∧((m + 1:Nat):Int) < (ks.length:Int):=by omega
 have bZ:((ks.take m).all kI && su ks[m] && okB ks[m + 1] && (if k=4 then decide (n=0) else qD n))=false→false=l4 (.mk k t n a ks):=fun h=>by rw[VG,h]; simp
 by_cases Ni:k=4∧¬ n=0
 case pos=>
  obtain ⟨e,kD⟩:=Ni
  simp only[go_sem,c1,yF,e,GY,kD]
  refine (aB _).mono ?_
  rintro v HB ⟨rfl,hf⟩
  have L:=L.ext hf
  rw[hv Ot.bad]
  simp only[go_sem]
  refine L.ae 0 rfl rfl (ah Ot.bad) fun HC L=>?_
  have c0:=L.cell 0 rfl
  simp only[go_sem,c0]
  refine ⟨Ot.bad,rfl,(Is.bad [] 0 _).to ?_ (fun h=>nomatch h) (afJ _),L.fr⟩
  rw[← e]
  exact bZ (by simp[e,kD])
 have hE:((k=4)=True∧(k=5)=False∧n=0)∨((k=4)=False∧(k=5)=True):=by
  rcases rC with e | e
  ·exact .inl ⟨eq_true e,eq_false (by omega),Classical.not_not.1 fun h=>Ni ⟨e,h⟩⟩
  ·exact .inr ⟨eq_false (by omega),eq_true e⟩
 have B1:=VF k
 have pX:=PX k
 rcases hE with ⟨e4,e5,kD⟩ | ⟨e4,e5⟩
 ·subst kD
  simp only[go_sem,c1,yF,h2,h3,e4,GY]
  refine LO.new L fun b H6 L=>?_
  simp only[go_sem]
  refine bC (fun (p:Nat × Value) H'=>p.1≤m∧∃ os g,LO H p.2 os g H' [.dz b2 62 Ot.bad.cells,.dz b1 24 [.int .i64 k,sv t,.int .i64 (0),.int .i64 a,.slice aa ks.length cc]]∧nz os (ks.take p.1) kI Ds (fun _=>0) (fun x=>wN x - 4))
   (fun p=>[(1,.pointer (some ⟨b1,0,none⟩)),(2,.pointer (some ⟨b2,0,none⟩)),(3,.int .i64 ks.length),(4,p.2),(5,.int .i64 p.1)]) (fun p=>m - p.1) (0,.slice (some ⟨b,0,none⟩) 0 0) ?_ ?_ ?_
  ·exact ⟨ahn _,[],_,L,by rw[ahB]; exact nz.nil⟩
  ·simp only[go_sem]
  ·rintro ⟨i,v⟩ H3 ⟨hi,os,g,L,hI⟩
   dsimp only at hi L hI
   have c1:=L.cell 1 rfl
   unfold sv at c1
   rcases ae8 i m with ba | nf
   ·have h0:(0:Int)≤(i:Int)∧(i:Int) < (ks.length:Int):=by omega
    have h1:(i:Int) < (m:Int):=by omega
    have gl:=dD (show i < ks.length by omega) eJ
    have tj:=eM ks i (by omega)
    have Ah:=mc ks (i + 1)
    obtain ⟨b',oo,c,k1,t1,n1,a1,bm,mD,e1,e2,⟨q0,q1,q2,q3,q4⟩,hr⟩:=cm hk i (by omega)
    cases e1
    have q0:=ab q0 L.fr (by simp)
    have q1:=ab q1 L.fr (by simp)
    have q2:=ab q2 L.fr (by simp)
    have q3:=ab q3 L.fr (by simp)
    have q4:=ab q4 L.fr (by simp)
    simp only[ahl] at q0
    obtain ⟨a2,c2,rfl,yh,nr⟩:=fY hr
    have A0:kI ks[i]=(decide (k1=6) && aT t1 && bm.isEmpty && qD n1):=by rw[e2]; rfl
    have VH:kI ks[i]=false→false=l4 (.mk k t (0) a ks):=fun hf=>bZ (by
     cases e:(ks.take m).all kI with
     | false=>simp
     | true=>
       have:=afg.1 e ks[i] (ai5.2 ⟨i,by omega,rfl⟩)
       rw[hf] at this; cases this)
    unfold sv at q1
    simp only[go_sem,h0,h1,OP,c1,q0,q1,q2,q3,q4]
    refine L.aS fun b7 H7 L=>?_
    simp only[go_sem]
    refine L.ae 0 rfl rfl (ax rfl) fun H8 L=>?_
    have ck:=L.cell 0 rfl
    unfold sv at ck
    by_cases mi:k1=6
    case neg=>
     have ll:kI ks[i]=false:=by rw[A0]; simp[mi]
     simp only[go_sem,ck,mi]
     refine (aB _).mono ?_
     rintro v HB ⟨rfl,hf⟩
     have L:=L.ext hf
     rw[hv Ot.bad]
     simp only[go_sem]
     refine L.ae 1 rfl rfl (ah Ot.bad) fun HC L=>?_
     have c0:=L.cell 1 rfl
     simp only[go_sem,c0]
     refine ⟨Ot.bad,rfl,(Is.bad [] 0 _).to ?_ (fun h=>nomatch h) (afJ _),L.fr⟩
     exact VH ll
    have sU:=fun H=>gI t1 H
    unfold sv at sU
    simp only[go_sem,ck,mi]
    refine (sU _).mono ?_
    rintro v H8 ⟨rfl,hf⟩
    have L:=L.ext hf
    have ck:=L.cell 0 rfl
    unfold sv at ck
    by_cases jz:aT t1=true
    case neg=>
     have ll:kI ks[i]=false:=by rw[A0]; simp[jz]
     simp only[go_sem,ck,jz]
     refine (aB _).mono ?_
     rintro v HB ⟨rfl,hf⟩
     have L:=L.ext hf
     rw[hv Ot.bad]
     simp only[go_sem]
     refine L.ae 1 rfl rfl (ah Ot.bad) fun HC L=>?_
     have c0:=L.cell 1 rfl
     simp only[go_sem,c0]
     refine ⟨Ot.bad,rfl,(Is.bad [] 0 _).to ?_ (fun h=>nomatch h) (afJ _),L.fr⟩
     exact VH ll
    have jk:=xX bm
    by_cases uq:bm=[]
    case neg=>
     have qP:¬ (bm.length:Int)=0:=by rw[jk]; exact uq
     have ll:kI ks[i]=false:=by rw[A0]; simp[uq]
     simp only[go_sem,ck,jz,qP]
     refine (aB _).mono ?_
     rintro v HB ⟨rfl,hf⟩
     have L:=L.ext hf
     rw[hv Ot.bad]
     simp only[go_sem]
     refine L.ae 1 rfl rfl (ah Ot.bad) fun HC L=>?_
     have c0:=L.cell 1 rfl
     simp only[go_sem,c0]
     refine ⟨Ot.bad,rfl,(Is.bad [] 0 _).to ?_ (fun h=>nomatch h) (afJ _),L.fr⟩
     exact VH ll
    have qP:(bm.length:Int)=0:=by rw[jk]; exact uq
    have Ep:=cX jz
    have WG:wN ks[i]=t1.length + 64 + wL bm:=by rw[e2,wN]
    simp only[go_sem,ck,jz,qP,aI,fU]
    refine ⟨by omega,?_⟩
    refine (aX (t1 ++ [58,32]) _).mono ?_
    rintro v1 H9 ⟨rfl,hf⟩
    have L:=L.ext hf
    have ck:=L.cell 0 rfl
    unfold sv at ck
    simp only[go_sem,ck]
    refine (yd n1 _).mono ?_
    rintro v1 kb ⟨oy,rfl,kB,hf⟩
    have L:=L.ext hf
    have IK:=kB.len
    have GL:(Ot.word (t1 ++ [58,32])).s.length=t1.length + 2:=by show (t1 ++ [58,32]).length=_; simp
    simp only[go_sem]
    refine (bB (Ot.word (t1 ++ [58,32])) oy (by omega) _).mono ?_
    rintro v1 qx ⟨rfl,hf⟩
    have L:=L.ext hf
    have hc:Is ((Ot.word (t1 ++ [58,32])).cat oy) (kI ks[i]) (Ds ks[i]) 0 (wN ks[i] - 4):=by
     refine ((Is.word _).cat kB).to ?_ (fun _=>⟨?_,rfl⟩) ?_
     ·rw[A0,mi,jz,uq]; simp
     ·rw[e2]; simp[Ds,ak,numOf]
     ·rw[WG]; simp; omega
    generalize hoc:(Ot.word (t1 ++ [58,32])).cat oy=oc at *
    rw[hv oc]
    simp only[go_sem]
    refine L.bc fun b5 vg L=>?_
    simp only[go_sem]
    have ln:=hI.1
    rw[afP] at ln
    refine LO.snoc (o:=oc) L (by omega) fun a' c' g' tL L=>?_
    have L:LO H (.slice a' (os ++ [oc]).length c') (os ++ [oc]) g' tL [.dz b2 62 Ot.bad.cells,.dz b1 24 [.int .i64 k,sv t,.int .i64 (0),.int .i64 a,.slice _ ks.length _]]:=L.drop (.cons _ (.cons _ (ahx _))) fun p hp=>hp
    simp only[go_sem]
    refine aj (i + 1,.slice a' (os ++ [oc]).length c') (by show m - (i + 1) < m - i; omega) ?_ ⟨by show i + 1≤_; omega,os ++ [oc],g',L,?_⟩
    ·simp only[go_sem,gl]
    ·show nz (os ++ [oc]) (ks.take (i + 1)) _ _ _ _
     rw[aim (by omega)]
     exact hI.snoc hc
   ·have h1:¬ ((i:Int) < (m:Int)):=by omega
    obtain rfl:i=m:=by omega
    obtain ⟨b',oo,c,k1,t1,n1,a1,bm,mD,e1,e2,⟨q0,q1,q2,q3,q4⟩,hr⟩:=cm hk i (by omega)
    cases e1
    have q0:=ab q0 L.fr (by simp)
    have q1:=ab q1 L.fr (by simp)
    have q2:=ab q2 L.fr (by simp)
    have q3:=ab q3 L.fr (by simp)
    have q4:=ab q4 L.fr (by simp)
    simp only[ahl] at q0
    obtain ⟨a2,c2,rfl,yh,nr⟩:=fY hr
    have ML:su ks[i]=(decide (k1=48) && aT t1 && decide (n1=0) && bm.isEmpty):=by rw[e2]; rfl
    have PY:su ks[i]=false→false=l4 (.mk k t (0) a ks):=fun hf=>bZ (by rw[hf]; simp)
    unfold sv at q1
    simp only[go_sem,eS,h1,OP,c1,q0,q1,q2,q3,q4]
    refine L.aS fun b7 H7 L=>?_
    simp only[go_sem]
    refine L.ae 0 rfl rfl (ax rfl) fun H8 L=>?_
    have ck:=L.cell 0 rfl
    unfold sv at ck
    by_cases mi:k1=48
    case neg=>
     have ll:su ks[i]=false:=by rw[ML]; simp[mi]
     simp only[go_sem,ck,mi]
     refine (aB _).mono ?_
     rintro v HB ⟨rfl,hf⟩
     have L:=L.ext hf
     rw[hv Ot.bad]
     simp only[go_sem]
     refine L.ae 1 rfl rfl (ah Ot.bad) fun HC L=>?_
     have c0:=L.cell 1 rfl
     simp only[go_sem,c0]
     refine ⟨Ot.bad,rfl,(Is.bad [] 0 _).to ?_ (fun h=>nomatch h) (afJ _),L.fr⟩
     exact PY ll
    have sU:=fun H=>gI t1 H
    unfold sv at sU
    simp only[go_sem,ck,mi]
    refine (sU _).mono ?_
    rintro v H8 ⟨rfl,hf⟩
    have L:=L.ext hf
    have ck:=L.cell 0 rfl
    unfold sv at ck
    by_cases jz:aT t1=true
    case neg=>
     have ll:su ks[i]=false:=by rw[ML]; simp[jz]
     simp only[go_sem,ck,jz]
     refine (aB _).mono ?_
     rintro v HB ⟨rfl,hf⟩
     have L:=L.ext hf
     rw[hv Ot.bad]
     simp only[go_sem]
     refine L.ae 1 rfl rfl (ah Ot.bad) fun HC L=>?_
     have c0:=L.cell 1 rfl
     simp only[go_sem,c0]
     refine ⟨Ot.bad,rfl,(Is.bad [] 0 _).to ?_ (fun h=>nomatch h) (afJ _),L.fr⟩
     exact PY ll
    by_cases yK:n1=0
    case neg=>
     have ll:su ks[i]=false:=by rw[ML]; simp[yK]
     simp only[go_sem,ck,jz,yK]
     refine (aB _).mono ?_
     rintro v HB ⟨rfl,hf⟩
     have L:=L.ext hf
     rw[hv Ot.bad]
     simp only[go_sem]
     refine L.ae 1 rfl rfl (ah Ot.bad) fun HC L=>?_
     have c0:=L.cell 1 rfl
     simp only[go_sem,c0]
     refine ⟨Ot.bad,rfl,(Is.bad [] 0 _).to ?_ (fun h=>nomatch h) (afJ _),L.fr⟩
     exact PY ll
    have jk:=xX bm
    by_cases uq:bm=[]
    case neg=>
     have qP:¬ (bm.length:Int)=0:=by rw[jk]; exact uq
     have ll:su ks[i]=false:=by rw[ML]; simp[uq]
     simp only[go_sem,ck,jz,yK,qP]
     refine (aB _).mono ?_
     rintro v HB ⟨rfl,hf⟩
     have L:=L.ext hf
     rw[hv Ot.bad]
     simp only[go_sem]
     refine L.ae 1 rfl rfl (ah Ot.bad) fun HC L=>?_
     have c0:=L.cell 1 rfl
     simp only[go_sem,c0]
     refine ⟨Ot.bad,rfl,(Is.bad [] 0 _).to ?_ (fun h=>nomatch h) (afJ _),L.fr⟩
     exact PY ll
    have qP:(bm.length:Int)=0:=by rw[jk]; exact uq
    have Un:=cX jz
    have hoT:su ks[i]=true:=by rw[ML,mi,jz,yK,uq]; rfl
    have htO:ak ks[i]=t1:=by rw[e2]; rfl
    have c1:=L.cell 2 rfl
    unfold sv at c1
    simp only[go_sem,ck,c1,jz,yK,qP]
    have d1:=c1 1
    have d7:=ck 1
    have d0:=c1 0
    have e0:=yb (ks.take i)
    have e1:=mc ks i
    refine ⟨?_,L.aS fun b8 H9 L=>have d0:=L.cell 3 rfl 0; have d1:=L.cell 3 rfl 1; have d7:=L.cell 1 rfl 1; ?_⟩
    all_goals
     try unfold sv at d1 d7
     try simp only[go_sem,d0,d1,d7]
     refine (B1 _).mono ?_
     rintro v1 kb ⟨rfl,rfl⟩
     simp only[go_sem,d1,d7,aI,fU]
     refine ⟨by omega,by simp; omega,?_⟩
    refine ⟨?_,L.aS fun b8 H9 L=>have d1:=L.cell 3 rfl 1; have d7:=L.cell 1 rfl 1; ?_⟩
    all_goals
     try unfold sv at d1 d7
     try simp only[go_sem,d1,d7]
     have L:LO _ _ _ _ _ _:=L
     refine (sT L hI (by omega)).mono ?_
     rintro v1 qx ⟨rfl,hf⟩
     have ln:=hI.dX true
     have L:=L.ext hf
     have hlen:=ln.len
     have d1:=ab d1 hf (by simp)
     have d7:=ab d7 hf (by simp)
     simp only[go_sem,d1,d7]
    refine ⟨?_,L.aS fun b8 H9 L=>have d1:=L.cell 3 rfl 1; have d7:=L.cell 1 rfl 1; ?_⟩
    all_goals
     try unfold sv at d1 d7
     try simp only[go_sem,d1,d7]
     refine (bK (zH k ++ t ++ [40]) [41,32,111,110,32] (Ot.dX true os) (by simp; omega) _).mono ?_
     rintro v1 vg ⟨rfl,hf⟩
     have L:=L.ext hf
     have d1:=ab d1 hf (by simp)
     have d7:=ab d7 hf (by simp)
     simp only[go_sem,d1,d7]
    refine ⟨?_,L.aS fun b8 H9 L=>have d7:=L.cell 1 rfl 1; ?_⟩
    all_goals
     try unfold sv at d7
     try simp only[go_sem,d7]
     refine (aX t1 _).mono ?_
     rintro v1 tL ⟨rfl,hf⟩
     have L:=L.ext hf
     try simp only[go_sem]
    refine ⟨?_,L.aS fun b8 H9 L=>?_⟩
    all_goals
     try simp only[go_sem]
     have PR:(Ot.au (zH k ++ t ++ [40]) (Ot.dX true os) [41,32,111,110,32]).s.length=(zH k).length + t.length + 6 + (Ot.dX true os).s.length:=by
      show ((zH k ++ t ++ [40]) ++ ((Ot.dX true os).s ++ [41,32,111,110,32])).length=_
      simp; omega
     have GL:(Ot.word t1).s.length=t1.length:=rfl
     have qO:=(ln.au (zH k ++ t ++ [40]) [41,32,111,110,32]).cat (Is.word t1)
     refine (bB (Ot.au (zH k ++ t ++ [40]) (Ot.dX true os) [41,32,111,110,32]) (Ot.word t1) (by omega) _).mono ?_
     rintro v1 Q3 ⟨rfl,hf⟩
     have L:=L.ext hf
     generalize aeq:(Ot.au (zH k ++ t ++ [40]) (Ot.dX true os) [41,32,111,110,32]).cat (Ot.word t1)=ox at *
     rw[hv ox]
     try simp only[go_sem]
    refine L.aS fun b8 H9 L=>?_
    all_goals
     try simp only[go_sem]
     refine L.ae 0 rfl rfl (ah ox) fun Om L=>?_
     have c0:=L.cell 0 rfl
     have c1:=L.cell 3 rfl
     unfold Ot.cells at c0
     unfold sv at c1
    all_goals
     obtain ⟨b6,o6,c6,k6,t6,n6,a6,Bk,nC,u6,w6,⟨p0,p1,p2,p3,p4⟩,lg⟩:=cm hk (i + 1) (by omega)
     cases u6
     have gL:NA H ks[i + 1] (.agg #[.int .i64 k6,sv t6,.int .i64 n6,.int .i64 a6,nC]):=w6 ▸ NA.mk lg
     have jE:=fun {H':Heap} (hf:Fr [] H H')=>(vQ _).zero (afJ (aq ks[i + 1])) (gL.ext hf) (by omega)
     unfold sv at jE p1
     have p0:=ab p0 L.fr (by simp)
     have p1:=ab p1 L.fr (by simp)
     have p2:=ab p2 L.fr (by simp)
     have p3:=ab p3 L.fr (by simp)
     have p4:=ab p4 L.fr (by simp)
     simp only[ahl] at p0
     simp only[go_sem,IF,J6,c0,c1,p0,p1,p2,p3,p4,e5]
     refine (aX [32,61,32] _).mono ?_
     rintro v2 Wh ⟨rfl,hf⟩
     have L:=L.ext hf
     have c0:=L.cell 0 rfl
     have c1:=L.cell 3 rfl
     unfold sv at c1
     unfold Ot.cells at c0
     have p0:=ab p0 hf (by simp)
     have p1:=ab p1 hf (by simp)
     have p2:=ab p2 hf (by simp)
     have p3:=ab p3 hf (by simp)
     have p4:=ab p4 hf (by simp)
     simp only[go_sem,c0,c1,p0,p1,p2,p3,p4]
     refine (jE L.fr).mono ?_
     rintro v2 Wi ⟨oe,rfl,hoe,hf⟩
     have L:=L.ext hf
     have c0:=L.cell 0 rfl
     unfold Ot.cells at c0
     have hle:=hoe.len
     have fj:=qO.len
     simp only[ah1,afK,aht] at fj
     have WC:(Ot.word [32,61,32]).s.length=3:=rfl
     try simp only[go_sem,c0]
     refine (bB (Ot.word [32,61,32]) oe (by omega) _).mono ?_
     rintro v2 H18 ⟨rfl,hf⟩
     have L:=L.ext hf
     have c0:=L.cell 0 rfl
     unfold Ot.cells at c0
     have hlr:((Ot.word [32,61,32]).cat oe).s.length=3 + oe.s.length:=by
      show ([32,61,32] ++ oe.s).length=_
      simp; omega
     try simp only[go_sem,c0]
     refine (bB ox ((Ot.word [32,61,32]).cat oe) (by omega) _).mono ?_
     rintro v2 H19 ⟨rfl,hf⟩
     have L:=L.ext hf
     rw[hv (ox.cat ((Ot.word [32,61,32]).cat oe))]
     simp only[go_sem]
     refine L.ae 2 rfl rfl (ah (ox.cat ((Ot.word [32,61,32]).cat oe))) fun HC L=>?_
     have c0:=L.cell 2 rfl
     simp only[go_sem,c0]
     refine ⟨ox.cat ((Ot.word [32,61,32]).cat oe),rfl,?_,L.fr⟩
     refine (qO.cat ((Is.word _).cat hoe)).to ?_ (fun _=>⟨?_,?_⟩) ?_
     ·rw[VG,hoT,yF]
      cases okB ks[i + 1] <;> simp[e4,yF]
     ·rw[hsD,htO,← Fj]; simp[e5]
     ·rw[abE,ux]; simp
     ·have WG:wN ks[i]=t1.length + 64 + wL bm:=by rw[e2,wN]
      simp only[ah1,afK,aht]; omega
 ·simp only[go_sem,c1,yF,h2,h3,e4,e5,GY]
  refine LO.new L fun b H6 L=>?_
  simp only[go_sem]
  refine bC (fun (p:Nat × Value) H'=>p.1≤m∧∃ os g,LO H p.2 os g H' [.dz b2 62 Ot.bad.cells,.dz b1 24 [.int .i64 k,sv t,.int .i64 (n),.int .i64 a,.slice aa ks.length cc]]∧nz os (ks.take p.1) kI Ds (fun _=>0) (fun x=>wN x - 4))
   (fun p=>[(1,.pointer (some ⟨b1,0,none⟩)),(2,.pointer (some ⟨b2,0,none⟩)),(3,.int .i64 ks.length),(4,p.2),(5,.int .i64 p.1)]) (fun p=>m - p.1) (0,.slice (some ⟨b,0,none⟩) 0 0) ?_ ?_ ?_
  ·exact ⟨ahn _,[],_,L,by rw[ahB]; exact nz.nil⟩
  ·simp only[go_sem]
  ·rintro ⟨i,v⟩ H3 ⟨hi,os,g,L,hI⟩
   dsimp only at hi L hI
   have c1:=L.cell 1 rfl
   unfold sv at c1
   rcases ae8 i m with ba | nf
   ·have h0:(0:Int)≤(i:Int)∧(i:Int) < (ks.length:Int):=by omega
    have h1:(i:Int) < (m:Int):=by omega
    have gl:=dD (show i < ks.length by omega) eJ
    have tj:=eM ks i (by omega)
    have Ah:=mc ks (i + 1)
    obtain ⟨b',oo,c,k1,t1,n1,a1,bm,mD,e1,e2,⟨q0,q1,q2,q3,q4⟩,hr⟩:=cm hk i (by omega)
    cases e1
    have q0:=ab q0 L.fr (by simp)
    have q1:=ab q1 L.fr (by simp)
    have q2:=ab q2 L.fr (by simp)
    have q3:=ab q3 L.fr (by simp)
    have q4:=ab q4 L.fr (by simp)
    simp only[ahl] at q0
    obtain ⟨a2,c2,rfl,yh,nr⟩:=fY hr
    have A0:kI ks[i]=(decide (k1=6) && aT t1 && bm.isEmpty && qD n1):=by rw[e2]; rfl
    have VH:kI ks[i]=false→false=l4 (.mk k t (n) a ks):=fun hf=>bZ (by
     cases e:(ks.take m).all kI with
     | false=>simp
     | true=>
       have:=afg.1 e ks[i] (ai5.2 ⟨i,by omega,rfl⟩)
       rw[hf] at this; cases this)
    unfold sv at q1
    simp only[go_sem,h0,h1,OP,c1,q0,q1,q2,q3,q4]
    refine L.aS fun b7 H7 L=>?_
    simp only[go_sem]
    refine L.ae 0 rfl rfl (ax rfl) fun H8 L=>?_
    have ck:=L.cell 0 rfl
    unfold sv at ck
    by_cases mi:k1=6
    case neg=>
     have ll:kI ks[i]=false:=by rw[A0]; simp[mi]
     simp only[go_sem,ck,mi]
     refine (aB _).mono ?_
     rintro v HB ⟨rfl,hf⟩
     have L:=L.ext hf
     rw[hv Ot.bad]
     simp only[go_sem]
     refine L.ae 1 rfl rfl (ah Ot.bad) fun HC L=>?_
     have c0:=L.cell 1 rfl
     simp only[go_sem,c0]
     refine ⟨Ot.bad,rfl,(Is.bad [] 0 _).to ?_ (fun h=>nomatch h) (afJ _),L.fr⟩
     exact VH ll
    have sU:=fun H=>gI t1 H
    unfold sv at sU
    simp only[go_sem,ck,mi]
    refine (sU _).mono ?_
    rintro v H8 ⟨rfl,hf⟩
    have L:=L.ext hf
    have ck:=L.cell 0 rfl
    unfold sv at ck
    by_cases jz:aT t1=true
    case neg=>
     have ll:kI ks[i]=false:=by rw[A0]; simp[jz]
     simp only[go_sem,ck,jz]
     refine (aB _).mono ?_
     rintro v HB ⟨rfl,hf⟩
     have L:=L.ext hf
     rw[hv Ot.bad]
     simp only[go_sem]
     refine L.ae 1 rfl rfl (ah Ot.bad) fun HC L=>?_
     have c0:=L.cell 1 rfl
     simp only[go_sem,c0]
     refine ⟨Ot.bad,rfl,(Is.bad [] 0 _).to ?_ (fun h=>nomatch h) (afJ _),L.fr⟩
     exact VH ll
    have jk:=xX bm
    by_cases uq:bm=[]
    case neg=>
     have qP:¬ (bm.length:Int)=0:=by rw[jk]; exact uq
     have ll:kI ks[i]=false:=by rw[A0]; simp[uq]
     simp only[go_sem,ck,jz,qP]
     refine (aB _).mono ?_
     rintro v HB ⟨rfl,hf⟩
     have L:=L.ext hf
     rw[hv Ot.bad]
     simp only[go_sem]
     refine L.ae 1 rfl rfl (ah Ot.bad) fun HC L=>?_
     have c0:=L.cell 1 rfl
     simp only[go_sem,c0]
     refine ⟨Ot.bad,rfl,(Is.bad [] 0 _).to ?_ (fun h=>nomatch h) (afJ _),L.fr⟩
     exact VH ll
    have qP:(bm.length:Int)=0:=by rw[jk]; exact uq
    have Ep:=cX jz
    have WG:wN ks[i]=t1.length + 64 + wL bm:=by rw[e2,wN]
    simp only[go_sem,ck,jz,qP,aI,fU]
    refine ⟨by omega,?_⟩
    refine (aX (t1 ++ [58,32]) _).mono ?_
    rintro v1 H9 ⟨rfl,hf⟩
    have L:=L.ext hf
    have ck:=L.cell 0 rfl
    unfold sv at ck
    simp only[go_sem,ck]
    refine (yd n1 _).mono ?_
    rintro v1 kb ⟨oy,rfl,kB,hf⟩
    have L:=L.ext hf
    have IK:=kB.len
    have GL:(Ot.word (t1 ++ [58,32])).s.length=t1.length + 2:=by show (t1 ++ [58,32]).length=_; simp
    simp only[go_sem]
    refine (bB (Ot.word (t1 ++ [58,32])) oy (by omega) _).mono ?_
    rintro v1 qx ⟨rfl,hf⟩
    have L:=L.ext hf
    have hc:Is ((Ot.word (t1 ++ [58,32])).cat oy) (kI ks[i]) (Ds ks[i]) 0 (wN ks[i] - 4):=by
     refine ((Is.word _).cat kB).to ?_ (fun _=>⟨?_,rfl⟩) ?_
     ·rw[A0,mi,jz,uq]; simp
     ·rw[e2]; simp[Ds,ak,numOf]
     ·rw[WG]; simp; omega
    generalize hoc:(Ot.word (t1 ++ [58,32])).cat oy=oc at *
    rw[hv oc]
    simp only[go_sem]
    refine L.bc fun b5 vg L=>?_
    simp only[go_sem]
    have ln:=hI.1
    rw[afP] at ln
    refine LO.snoc (o:=oc) L (by omega) fun a' c' g' tL L=>?_
    have L:LO H (.slice a' (os ++ [oc]).length c') (os ++ [oc]) g' tL [.dz b2 62 Ot.bad.cells,.dz b1 24 [.int .i64 k,sv t,.int .i64 (n),.int .i64 a,.slice _ ks.length _]]:=L.drop (.cons _ (.cons _ (ahx _))) fun p hp=>hp
    simp only[go_sem]
    refine aj (i + 1,.slice a' (os ++ [oc]).length c') (by show m - (i + 1) < m - i; omega) ?_ ⟨by show i + 1≤_; omega,os ++ [oc],g',L,?_⟩
    ·simp only[go_sem,gl]
    ·show nz (os ++ [oc]) (ks.take (i + 1)) _ _ _ _
     rw[aim (by omega)]
     exact hI.snoc hc
   ·have h1:¬ ((i:Int) < (m:Int)):=by omega
    obtain rfl:i=m:=by omega
    obtain ⟨b',oo,c,k1,t1,n1,a1,bm,mD,e1,e2,⟨q0,q1,q2,q3,q4⟩,hr⟩:=cm hk i (by omega)
    cases e1
    have q0:=ab q0 L.fr (by simp)
    have q1:=ab q1 L.fr (by simp)
    have q2:=ab q2 L.fr (by simp)
    have q3:=ab q3 L.fr (by simp)
    have q4:=ab q4 L.fr (by simp)
    simp only[ahl] at q0
    obtain ⟨a2,c2,rfl,yh,nr⟩:=fY hr
    have ML:su ks[i]=(decide (k1=48) && aT t1 && decide (n1=0) && bm.isEmpty):=by rw[e2]; rfl
    have PY:su ks[i]=false→false=l4 (.mk k t (n) a ks):=fun hf=>bZ (by rw[hf]; simp)
    unfold sv at q1
    simp only[go_sem,eS,h1,OP,c1,q0,q1,q2,q3,q4]
    refine L.aS fun b7 H7 L=>?_
    simp only[go_sem]
    refine L.ae 0 rfl rfl (ax rfl) fun H8 L=>?_
    have ck:=L.cell 0 rfl
    unfold sv at ck
    by_cases mi:k1=48
    case neg=>
     have ll:su ks[i]=false:=by rw[ML]; simp[mi]
     simp only[go_sem,ck,mi]
     refine (aB _).mono ?_
     rintro v HB ⟨rfl,hf⟩
     have L:=L.ext hf
     rw[hv Ot.bad]
     simp only[go_sem]
     refine L.ae 1 rfl rfl (ah Ot.bad) fun HC L=>?_
     have c0:=L.cell 1 rfl
     simp only[go_sem,c0]
     refine ⟨Ot.bad,rfl,(Is.bad [] 0 _).to ?_ (fun h=>nomatch h) (afJ _),L.fr⟩
     exact PY ll
    have sU:=fun H=>gI t1 H
    unfold sv at sU
    simp only[go_sem,ck,mi]
    refine (sU _).mono ?_
    rintro v H8 ⟨rfl,hf⟩
    have L:=L.ext hf
    have ck:=L.cell 0 rfl
    unfold sv at ck
    by_cases jz:aT t1=true
    case neg=>
     have ll:su ks[i]=false:=by rw[ML]; simp[jz]
     simp only[go_sem,ck,jz]
     refine (aB _).mono ?_
     rintro v HB ⟨rfl,hf⟩
     have L:=L.ext hf
     rw[hv Ot.bad]
     simp only[go_sem]
     refine L.ae 1 rfl rfl (ah Ot.bad) fun HC L=>?_
     have c0:=L.cell 1 rfl
     simp only[go_sem,c0]
     refine ⟨Ot.bad,rfl,(Is.bad [] 0 _).to ?_ (fun h=>nomatch h) (afJ _),L.fr⟩
     exact PY ll
    by_cases yK:n1=0
    case neg=>
     have ll:su ks[i]=false:=by rw[ML]; simp[yK]
     simp only[go_sem,ck,jz,yK]
     refine (aB _).mono ?_
     rintro v HB ⟨rfl,hf⟩
     have L:=L.ext hf
     rw[hv Ot.bad]
     simp only[go_sem]
     refine L.ae 1 rfl rfl (ah Ot.bad) fun HC L=>?_
     have c0:=L.cell 1 rfl
     simp only[go_sem,c0]
     refine ⟨Ot.bad,rfl,(Is.bad [] 0 _).to ?_ (fun h=>nomatch h) (afJ _),L.fr⟩
     exact PY ll
    have jk:=xX bm
    by_cases uq:bm=[]
    case neg=>
     have qP:¬ (bm.length:Int)=0:=by rw[jk]; exact uq
     have ll:su ks[i]=false:=by rw[ML]; simp[uq]
     simp only[go_sem,ck,jz,yK,qP]
     refine (aB _).mono ?_
     rintro v HB ⟨rfl,hf⟩
     have L:=L.ext hf
     rw[hv Ot.bad]
     simp only[go_sem]
     refine L.ae 1 rfl rfl (ah Ot.bad) fun HC L=>?_
     have c0:=L.cell 1 rfl
     simp only[go_sem,c0]
     refine ⟨Ot.bad,rfl,(Is.bad [] 0 _).to ?_ (fun h=>nomatch h) (afJ _),L.fr⟩
     exact PY ll
    have qP:(bm.length:Int)=0:=by rw[jk]; exact uq
    have Un:=cX jz
    have hoT:su ks[i]=true:=by rw[ML,mi,jz,yK,uq]; rfl
    have htO:ak ks[i]=t1:=by rw[e2]; rfl
    have c1:=L.cell 2 rfl
    unfold sv at c1
    simp only[go_sem,ck,c1,jz,yK,qP]
    have d1:=c1 1
    have d7:=ck 1
    have d0:=c1 0
    have e0:=yb (ks.take i)
    have e1:=mc ks i
    refine ⟨?_,L.aS fun b8 H9 L=>have d0:=L.cell 3 rfl 0; have d1:=L.cell 3 rfl 1; have d7:=L.cell 1 rfl 1; ?_⟩
    all_goals
     try unfold sv at d1 d7
     try simp only[go_sem,d0,d1,d7]
     refine (B1 _).mono ?_
     rintro v1 kb ⟨rfl,rfl⟩
     simp only[go_sem,d1,d7,aI,fU]
     refine ⟨by omega,by simp; omega,?_⟩
    refine ⟨?_,L.aS fun b8 H9 L=>have d1:=L.cell 3 rfl 1; have d7:=L.cell 1 rfl 1; ?_⟩
    all_goals
     try unfold sv at d1 d7
     try simp only[go_sem,d1,d7]
     have L:LO _ _ _ _ _ _:=L
     refine (sT L hI (by omega)).mono ?_
     rintro v1 qx ⟨rfl,hf⟩
     have ln:=hI.dX true
     have L:=L.ext hf
     have hlen:=ln.len
     have d1:=ab d1 hf (by simp)
     have d7:=ab d7 hf (by simp)
     simp only[go_sem,d1,d7]
    refine ⟨?_,L.aS fun b8 H9 L=>have d1:=L.cell 3 rfl 1; have d7:=L.cell 1 rfl 1; ?_⟩
    all_goals
     try unfold sv at d1 d7
     try simp only[go_sem,d1,d7]
     refine (bK (zH k ++ t ++ [40]) [41,32,111,110,32] (Ot.dX true os) (by simp; omega) _).mono ?_
     rintro v1 vg ⟨rfl,hf⟩
     have L:=L.ext hf
     have d1:=ab d1 hf (by simp)
     have d7:=ab d7 hf (by simp)
     simp only[go_sem,d1,d7]
    refine ⟨?_,L.aS fun b8 H9 L=>have d7:=L.cell 1 rfl 1; ?_⟩
    all_goals
     try unfold sv at d7
     try simp only[go_sem,d7]
     refine (aX t1 _).mono ?_
     rintro v1 tL ⟨rfl,hf⟩
     have L:=L.ext hf
     try simp only[go_sem]
    refine ⟨?_,L.aS fun b8 H9 L=>?_⟩
    all_goals
     try simp only[go_sem]
     have PR:(Ot.au (zH k ++ t ++ [40]) (Ot.dX true os) [41,32,111,110,32]).s.length=(zH k).length + t.length + 6 + (Ot.dX true os).s.length:=by
      show ((zH k ++ t ++ [40]) ++ ((Ot.dX true os).s ++ [41,32,111,110,32])).length=_
      simp; omega
     have GL:(Ot.word t1).s.length=t1.length:=rfl
     have qO:=(ln.au (zH k ++ t ++ [40]) [41,32,111,110,32]).cat (Is.word t1)
     refine (bB (Ot.au (zH k ++ t ++ [40]) (Ot.dX true os) [41,32,111,110,32]) (Ot.word t1) (by omega) _).mono ?_
     rintro v1 Q3 ⟨rfl,hf⟩
     have L:=L.ext hf
     generalize aeq:(Ot.au (zH k ++ t ++ [40]) (Ot.dX true os) [41,32,111,110,32]).cat (Ot.word t1)=ox at *
     rw[hv ox]
     try simp only[go_sem]
    refine L.aS fun b8 H9 L=>?_
    all_goals
     try simp only[go_sem]
     refine L.ae 0 rfl rfl (ah ox) fun Om L=>?_
     have c0:=L.cell 0 rfl
     have c1:=L.cell 3 rfl
     unfold Ot.cells at c0
     unfold sv at c1
    all_goals
     simp only[go_sem,c0,c1,e5]
     refine (aX [58,32] _).mono ?_
     rintro v2 Wh ⟨rfl,hf⟩
     have L:=L.ext hf
     have c0:=L.cell 0 rfl
     have c1:=L.cell 3 rfl
     unfold sv at c1
     unfold Ot.cells at c0
     simp only[go_sem,c0,c1]
     refine (yd n _).mono ?_
     rintro v2 Wi ⟨WH,rfl,hos,hf⟩
     have L:=L.ext hf
     have c0:=L.cell 0 rfl
     unfold Ot.cells at c0
     have hls:=hos.len
     have fj:=qO.len
     simp only[ah1,afK,aht] at fj
     have WC:(Ot.word [58,32]).s.length=2:=rfl
     try simp only[go_sem,c0]
     refine (bB (Ot.word [58,32]) WH (by omega) _).mono ?_
     rintro v2 H18 ⟨rfl,hf⟩
     have L:=L.ext hf
     have c0:=L.cell 0 rfl
     unfold Ot.cells at c0
     have hlr:((Ot.word [58,32]).cat WH).s.length=2 + WH.s.length:=by
      show ([58,32] ++ WH.s).length=_
      simp; omega
     try simp only[go_sem,c0]
     refine (bB ox ((Ot.word [58,32]).cat WH) (by omega) _).mono ?_
     rintro v2 H19 ⟨rfl,hf⟩
     have L:=L.ext hf
     have qO:=qO.cat ((Is.word [58,32]).cat hos)
     generalize aeO:ox.cat ((Ot.word [58,32]).cat WH)=ox at *
     rw[hv ox]
     try simp only[go_sem]
     refine L.ae 0 rfl rfl (ah ox) fun H20 L=>?_
     have c0:=L.cell 0 rfl
     have c1:=L.cell 3 rfl
     unfold Ot.cells at c0
     unfold sv at c1
     obtain ⟨b6,o6,c6,k6,t6,n6,a6,Bk,nC,u6,w6,⟨p0,p1,p2,p3,p4⟩,lg⟩:=cm hk (i + 1) (by omega)
     cases u6
     have gL:NA H ks[i + 1] (.agg #[.int .i64 k6,sv t6,.int .i64 n6,.int .i64 a6,nC]):=w6 ▸ NA.mk lg
     have jE:=fun {H':Heap} (hf:Fr [] H H')=>(vQ _).zero (afJ (aq ks[i + 1])) (gL.ext hf) (by omega)
     unfold sv at jE p1
     have p0:=ab p0 L.fr (by simp)
     have p1:=ab p1 L.fr (by simp)
     have p2:=ab p2 L.fr (by simp)
     have p3:=ab p3 L.fr (by simp)
     have p4:=ab p4 L.fr (by simp)
     simp only[ahl] at p0
     simp only[go_sem,IF,J6,c0,c1,p0,p1,p2,p3,p4,e5]
     refine (aX [32,61,32] _).mono ?_
     rintro v2 Wh ⟨rfl,hf⟩
     have L:=L.ext hf
     have c0:=L.cell 0 rfl
     have c1:=L.cell 3 rfl
     unfold sv at c1
     unfold Ot.cells at c0
     have p0:=ab p0 hf (by simp)
     have p1:=ab p1 hf (by simp)
     have p2:=ab p2 hf (by simp)
     have p3:=ab p3 hf (by simp)
     have p4:=ab p4 hf (by simp)
     simp only[go_sem,c0,c1,p0,p1,p2,p3,p4]
     refine (jE L.fr).mono ?_
     rintro v2 Wi ⟨oe,rfl,hoe,hf⟩
     have L:=L.ext hf
     have c0:=L.cell 0 rfl
     unfold Ot.cells at c0
     have hle:=hoe.len
     have fj:=qO.len
     simp only[ah1,afK,aht] at fj
     have WC:(Ot.word [32,61,32]).s.length=3:=rfl
     try simp only[go_sem,c0]
     refine (bB (Ot.word [32,61,32]) oe (by omega) _).mono ?_
     rintro v2 H18 ⟨rfl,hf⟩
     have L:=L.ext hf
     have c0:=L.cell 0 rfl
     unfold Ot.cells at c0
     have hlr:((Ot.word [32,61,32]).cat oe).s.length=3 + oe.s.length:=by
      show ([32,61,32] ++ oe.s).length=_
      simp; omega
     try simp only[go_sem,c0]
     refine (bB ox ((Ot.word [32,61,32]).cat oe) (by omega) _).mono ?_
     rintro v2 H19 ⟨rfl,hf⟩
     have L:=L.ext hf
     rw[hv (ox.cat ((Ot.word [32,61,32]).cat oe))]
     simp only[go_sem]
     refine L.ae 2 rfl rfl (ah (ox.cat ((Ot.word [32,61,32]).cat oe))) fun HC L=>?_
     have c0:=L.cell 2 rfl
     simp only[go_sem,c0]
     refine ⟨ox.cat ((Ot.word [32,61,32]).cat oe),rfl,?_,L.fr⟩
     refine (qO.cat ((Is.word _).cat hoe)).to ?_ (fun _=>⟨?_,?_⟩) ?_
     ·rw[VG,hoT,yF]
      cases okB ks[i + 1] <;> simp[e4,e5]
     ·rw[hsD,htO,← Fj]; simp[e5]
     ·rw[abE,ux]; simp
     ·have WG:wN ks[i]=t1.length + 64 + wL bm:=by rw[e2,wN]
      simp only[ah1,afK,aht]; omega
theorem Is.out {o:Ot} {k:Bool} {t:Bs} {d w:Nat} (h:Is o k t d w):uj o.b o.n o.s=uj k d t:=by
 rw[h.ok]
 cases k with
 | false=>rfl
 | true=>
   obtain ⟨e1,e2⟩:=h.val rfl
   rw[e1,e2]
theorem A7 (o:Ot) (H:Heap):aE afI 41 #[o.val] H fun v H'=>v= .tuple #[sv (uj o.b o.n o.s).1,.int .i64 (uj o.b o.n o.s).2]∧Fr [] H H':=by
 refine af (args:=[_]) Tryz.func41 ZY (ahi rfl) ?_
 have L:=L0 H
 have hv:∀ o:Ot,o.val= .agg #[sv o.s,.int .i64 o.n,.bool o.b]:=fun o=>rfl
 rw[hv o]
 simp only[go_sem,c41]
 refine L.aS fun b1 H1 L=>?_
 have c1:=L.cell 0 rfl
 cases hb:o.b with
 | false=>
   simp only[go_sem,c1,hb]
   exact ⟨rfl,L.fr⟩
 | true=>
   unfold uj
   rw[if_pos rfl]
   by_cases h1:o.n≤64
   ·have yk:¬ (64:Int) < (o.n:Int):=by omega
    by_cases h2:o.s.length≤65536
    ·have TI:¬ (65536:Int) < (o.s.length:Int):=by omega
     rw[if_pos ⟨h1,h2⟩]
     unfold sv at c1
     simp only[go_sem,c1,hb,yk,TI,aI]
     exact ⟨rfl,L.fr⟩
    ·have TI:(65536:Int) < (o.s.length:Int):=by omega
     rw[if_neg (fun q=>h2 q.2)]
     unfold sv at c1
     simp only[go_sem,c1,hb,yk,TI,aI]
     exact ⟨rfl,L.fr⟩
   ·have yk:(64:Int) < (o.n:Int):=by omega
    rw[if_neg (fun q=>h1 q.1)]
    unfold sv at c1
    simp only[go_sem,c1,hb,yk,aI]
    exact ⟨rfl,L.fr⟩
theorem zI:∀ (ks:List Nd) (i:Nat) (h:i < ks.length),vl (ks.take (i + 1))=max (vl (ks.take i)) (zm ks[i])
 | x :: r,0,_=>by simp[vl]
 | x :: r,i + 1,h=>by
   have:=zI r i (by simpa using h)
   simp only[ahq,vl,ah2,this]; omega
set_option maxHeartbeats 2000000 in
theorem MM (x:Nd) {H:Heap} {v:Value} (hx:NA H x v) (hw:wN x≤1000000000):RC 42 [v] H (sO x) (sE (aL x)) (vl (aL x)) (wN x):=by
 obtain ⟨k,t,n,a,ks,aa,cc,rfl,rfl,hk,jG,eJ⟩:=hx.fields
 refine af (args:=[_]) Tryz.func42 ZZ (ahi rfl) ?_
 have L:=L0 H
 have hv:∀ o:Ot,o.val= .agg #[sv o.s,.int .i64 o.n,.bool o.b]:=fun o=>rfl
 have fQ:=fun (m:Int) H=>mf (k:=k) (t:=t) (n:=n) (a:=a) (ks:=ks) (aa:=aa) (c:=cc) m H
 have tm:wN (.mk k t n a ks)=t.length + 64 + wL ks:=by rw[wN]
 rw[tm] at hw ⊢
 have dj:sO (.mk k t n a ks)=(decide (k=1) && decide (t=[]) && decide (n=0) && ks.all l4):=rfl
 have jk:aL (.mk k t n a ks)=ks:=rfl
 rw[dj,jk]
 simp only[go_sem,c42]
 refine L.aS fun b1 H1 L=>?_
 simp only[go_sem]
 refine L.aS fun b2 H2 L=>?_
 have c1:=L.cell 1 rfl
 unfold sv at c1 fQ
 by_cases h1:k=1
 case neg=>
  simp only[go_sem,c1,h1]
  refine (aB _).mono ?_
  rintro v HB ⟨rfl,hf⟩
  have L:=L.ext hf
  rw[hv Ot.bad]
  simp only[go_sem]
  refine L.ae 0 rfl rfl (ah Ot.bad) fun HC L=>?_
  have c0:=L.cell 0 rfl
  simp only[go_sem,c0]
  refine ⟨Ot.bad,rfl,(Is.bad [] 0 _).to ?_ (fun h=>nomatch h) (afJ _),L.fr⟩
  simp[h1]
 simp only[go_sem,c1,h1]
 rw[h1] at fQ
 refine (fQ _ _).mono ?_
 rintro v H3 ⟨rfl,hf⟩
 have L:=L.ext hf
 have c1:=L.cell 1 rfl
 by_cases h2:t=[]
 case neg=>
  simp only[go_sem,h2]
  refine (aB _).mono ?_
  rintro v HB ⟨rfl,hf⟩
  have L:=L.ext hf
  rw[hv Ot.bad]
  simp only[go_sem]
  refine L.ae 0 rfl rfl (ah Ot.bad) fun HC L=>?_
  have c0:=L.cell 0 rfl
  simp only[go_sem,c0]
  refine ⟨Ot.bad,rfl,(Is.bad [] 0 _).to ?_ (fun h=>nomatch h) (afJ _),L.fr⟩
  simp[h2]
 by_cases h3:n=0
 case neg=>
  simp only[go_sem,h2,h3]
  refine (aB _).mono ?_
  rintro v HB ⟨rfl,hf⟩
  have L:=L.ext hf
  rw[hv Ot.bad]
  simp only[go_sem]
  refine L.ae 0 rfl rfl (ah Ot.bad) fun HC L=>?_
  have c0:=L.cell 0 rfl
  simp only[go_sem,c0]
  refine ⟨Ot.bad,rfl,(Is.bad [] 0 _).to ?_ (fun h=>nomatch h) (afJ _),L.fr⟩
  simp[h3]
 simp only[go_sem,h2,h3]
 refine (aX [] _).mono ?_
 rintro v H4 ⟨rfl,hf⟩
 have L:=L.ext hf
 rw[hv (Ot.word [])]
 simp only[go_sem]
 refine L.aS fun b3 H5 L=>?_
 simp only[go_sem]
 refine L.ae 0 rfl rfl (ah (Ot.word [])) fun H6 L=>?_
 simp only[go_sem]
 refine bC (fun (i:Nat) H'=>i≤ks.length∧∃ o,Lv [] H [] (fun _=>True) H' [.dz b3 62 o.cells,.dz b2 62 Ot.bad.cells,.dz b1 24 [.int .i64 k,sv t,.int .i64 n,.int .i64 a,.slice aa ks.length cc]] []∧Is o ((ks.take i).all l4) (sE (ks.take i)) (vl (ks.take i)) (wL (ks.take i)))
  (fun i=>[(1,.pointer (some ⟨b1,0,none⟩)),(2,.pointer (some ⟨b2,0,none⟩)),(3,.pointer (some ⟨b3,0,none⟩)),(4,.int .i64 i)]) (fun i=>ks.length - i) 0 ?_ ?_ ?_
 ·exact ⟨ahn _,Ot.word [],L,by rw[ahB]; exact (Is.word []).to rfl (fun _=>⟨rfl,rfl⟩) (ahn _)⟩
 ·simp only[go_sem]
 ·rintro i H7 ⟨hi,o,L,hI⟩
  have hlen:=hI.len
  have c0:=L.cell 0 rfl
  have c1:=L.cell 2 rfl
  unfold Ot.cells at c0
  unfold sv at c1
  rcases ae8 i ks.length with ba | nf
  ·have h0:(0:Int)≤(i:Int):=by omega
   have h1:(i:Int) < (ks.length:Int):=by omega
   have gl:=dD ba eJ
   have tj:=eM ks i ba
   have Ah:=mc ks (i + 1)
   obtain ⟨b6,o6,c6,k6,t6,n6,a6,Bk,nC,u6,w6,⟨p0,p1,p2,p3,p4⟩,lg⟩:=cm hk i ba
   cases u6
   have WG:wN ks[i]=t6.length + 64 + wL Bk:=by rw[w6,wN]
   have gL:NA H ks[i] (.agg #[.int .i64 k6,sv t6,.int .i64 n6,.int .i64 a6,nC]):=w6 ▸ NA.mk lg
   have jE:=fun {H':Heap} (hf:Fr [] H H')=>MK ks[i] (gL.ext hf) (by omega)
   unfold sv at jE p1
   have p0:=ab p0 L.fr (by simp)
   have p1:=ab p1 L.fr (by simp)
   have p2:=ab p2 L.fr (by simp)
   have p3:=ab p3 L.fr (by simp)
   have p4:=ab p4 L.fr (by simp)
   simp only[ahl] at p0
   simp only[go_sem,h0,h1,c0,c1,p0,p1,p2,p3,p4]
   refine (jE L.fr).mono ?_
   rintro v1 H8 ⟨oy,rfl,kB,hf⟩
   have L:=L.ext hf
   have IK:=kB.len
   have c0:=L.cell 0 rfl
   unfold Ot.cells at c0
   simp only[go_sem,c0]
   refine (aX [59,10] _).mono ?_
   rintro v1 H9 ⟨rfl,hf⟩
   have L:=L.ext hf
   have c0:=L.cell 0 rfl
   unfold Ot.cells at c0
   have GL:(Ot.word [59,10]).s.length=2:=rfl
   simp only[go_sem,c0]
   refine (bB oy (Ot.word [59,10]) (by omega) _).mono ?_
   rintro v1 kb ⟨rfl,hf⟩
   have L:=L.ext hf
   have c0:=L.cell 0 rfl
   unfold Ot.cells at c0
   have hlc:(oy.cat (Ot.word [59,10])).s.length=oy.s.length + 2:=by
    show (oy.s ++ [59,10]).length=_
    simp
   simp only[go_sem,c0]
   refine (bB o (oy.cat (Ot.word [59,10])) (by omega) _).mono ?_
   rintro v1 qx ⟨rfl,hf⟩
   have L:=L.ext hf
   rw[hv (o.cat (oy.cat (Ot.word [59,10])))]
   simp only[go_sem]
   refine L.ae 0 rfl rfl (ah (o.cat (oy.cat (Ot.word [59,10])))) fun vg L=>?_
   simp only[go_sem,gl]
   refine aj (i + 1) (by omega) ?_ ⟨by omega,_,L,(hI.cat (kB.cat (Is.word _))).to ?_ (fun _=>⟨?_,?_⟩) ?_⟩
   ·simp only[go_sem,gl]
   ·rw[fy l4 ks i ba]; simp
   ·rw[xT ks i ba]
   ·rw[zI ks i ba]; simp
   ·rw[tj]; simp; omega
  ·have h1:¬ ((i:Int) < (ks.length:Int)):=by omega
   obtain rfl:i=ks.length:=by omega
   rw[ain] at hI
   simp only[go_sem,h1,c0,c1]
   refine L.ae 1 rfl rfl (ah o) fun H8 L=>?_
   have c1:=L.cell 1 rfl
   unfold Ot.cells at c1
   simp only[go_sem,c1]
   refine ⟨o,rfl,hI.to ?_ (fun _=>⟨rfl,rfl⟩) (by omega),L.fr⟩
   simp
def VI (f:Nat) (v:Value) (H:Heap) (R:Bs × Int):Prop:=aE afI f #[v] H fun r H'=>r= .tuple #[sv R.1,.int .i64 R.2]∧Fr [] H H'
section
variable {x:Nd} {H:Heap} {v:Value} (hx:NA H x v) (hw:wN x≤1000000000)
include hx hw
theorem rpp:VI 18 v H (gR x):=by
 obtain ⟨k,t,n,a,ks,aa,cc,rfl,rfl,hk,jG,eJ⟩:=hx.fields
 refine af (args:=[_]) Tryz.func18 ZS (ahi rfl) ?_
 have L:=L0 H
 have hn:NA H (.mk k t n a ks) (.agg #[.int .i64 k,sv t,.int .i64 n,.int .i64 a,.slice aa ks.length cc]):=NA.mk hk
 have hc:=fun {H':Heap} (hf:Fr [] H H')=>MM _ (hn.ext hf) hw
 have hv:∀ o:Ot,o.val= .agg #[sv o.s,.int .i64 o.n,.bool o.b]:=fun o=>rfl
 unfold sv at hc
 simp only[go_sem,c18]
 refine L.aS fun b1 H1 L=>?_
 have c1:=L.cell 0 rfl
 unfold sv at c1
 simp only[go_sem,c1]
 refine (hc L.fr).mono ?_
 rintro r H2 ⟨o,rfl,ho,hf⟩
 have L:=L.ext hf
 have he:=ho.out
 simp only[go_sem]
 refine (A7 o _).mono ?_
 rintro r H3 ⟨rfl,hf⟩
 have L:=L.ext hf
 rw[he]
 simp only[go_sem]
 exact ⟨rfl,L.fr⟩
theorem rpx:VI 19 v H (xR x):=by
 obtain ⟨k,t,n,a,ks,aa,cc,rfl,rfl,hk,jG,eJ⟩:=hx.fields
 refine af (args:=[_]) Tryz.func19 ZU (ahi rfl) ?_
 have L:=L0 H
 have hn:NA H (.mk k t n a ks) (.agg #[.int .i64 k,sv t,.int .i64 n,.int .i64 a,.slice aa ks.length cc]):=NA.mk hk
 have hc:=fun {H':Heap} (hf:Fr [] H H')=>(vQ _).zero (afJ (aq (.mk k t n a ks))) (hn.ext hf) hw
 have hv:∀ o:Ot,o.val= .agg #[sv o.s,.int .i64 o.n,.bool o.b]:=fun o=>rfl
 unfold sv at hc
 simp only[go_sem,c19]
 refine L.aS fun b1 H1 L=>?_
 have c1:=L.cell 0 rfl
 unfold sv at c1
 simp only[go_sem,c1]
 refine (hc L.fr).mono ?_
 rintro r H2 ⟨o,rfl,ho,hf⟩
 have L:=L.ext hf
 have he:=ho.out
 simp only[go_sem]
 refine (A7 o _).mono ?_
 rintro r H3 ⟨rfl,hf⟩
 have L:=L.ext hf
 rw[he]
 simp only[go_sem]
 exact ⟨rfl,L.fr⟩
theorem rpl:VI 20 v H (lR x):=by
 obtain ⟨k,t,n,a,ks,aa,cc,rfl,rfl,hk,jG,eJ⟩:=hx.fields
 refine af (args:=[_]) Tryz.func20 ZW (ahi rfl) ?_
 have L:=L0 H
 have hn:NA H (.mk k t n a ks) (.agg #[.int .i64 k,sv t,.int .i64 n,.int .i64 a,.slice aa ks.length cc]):=NA.mk hk
 have hc:=fun {H':Heap} (hf:Fr [] H H')=>sZ _ (.mk k t n a ks) (afJ _) (hn.ext hf) hw
 have hv:∀ o:Ot,o.val= .agg #[sv o.s,.int .i64 o.n,.bool o.b]:=fun o=>rfl
 unfold sv at hc
 simp only[go_sem,c20]
 refine L.aS fun b1 H1 L=>?_
 have c1:=L.cell 0 rfl
 unfold sv at c1
 simp only[go_sem,c1]
 refine (hc L.fr).mono ?_
 rintro r H2 ⟨o,rfl,ho,hf⟩
 have L:=L.ext hf
 have he:=ho.out
 simp only[go_sem]
 refine (A7 o _).mono ?_
 rintro r H3 ⟨rfl,hf⟩
 have L:=L.ext hf
 rw[he]
 simp only[go_sem]
 exact ⟨rfl,L.fr⟩
end
theorem GN:∀ ks:List Nd,64 * ks.length≤wL ks
 | []=>ahn _
 | x :: r=>by
   obtain ⟨k,t,n,a,ks⟩:=x
   have:=GN r
   rw[wL,wN,afK]; omega
theorem abF {x:Nd} (hw:wN x≤100000000):wN x≤140737488355328∧wN x + 2 * (aL x).length≤140737488355328:=by
 obtain ⟨k,t,n,a,ks⟩:=x
 have:=GN ks
 rw[wN] at hw ⊢
 show _∧_ + 2 * ks.length≤_
 omega
set_option maxHeartbeats 4000000 in
theorem Fl (x:Nd) (dP:ny x) (hw:wN x≤100000000) {H:Heap} (hG:bS H) {v:Value} (hx:NA H x v):aE afI 6 #[v] H fun v H'=>v= .bool true∧Fr [] H H':=by
 have eS:=hx
 obtain ⟨Ea,IB⟩:=abF hw
 obtain ⟨k,t,n,a,ks⟩:=x
 obtain ⟨kv,rfl,hk⟩:=hx.open
 obtain ⟨aa,cc,rfl,jG,eJ⟩:=fY hk
 refine af (args:=[_]) Tryz.func6 acC (ahi rfl) ?_
 have L:=L0 H
 simp -implicitDefEqProofs only[go_sem,c6]
 refine L.aS fun bx H1 L=>?_
 simp -implicitDefEqProofs only[go_sem]
 refine (Mu (hG.ext L.fr)).mono ?_
 rintro v H3 ⟨rfl,hf⟩
 have L:=L.ext hf
 have ca:=L.cell 0 rfl
 simp -implicitDefEqProofs only[go_sem,ca]
 refine (KM _ (by decide) (eS.ext L.fr)).mono ?_
 rintro v H4 ⟨rfl,hf⟩
 have L:=L.ext hf
 by_cases e1:aq (.mk k t n a ks)≤300
 case neg=>
  simp -implicitDefEqProofs only[go_sem,e1]
  exact L.fr
 simp -implicitDefEqProofs only[go_sem,e1]
 have ca:=L.cell 0 rfl
 simp -implicitDefEqProofs only[go_sem,ca]
 refine (pp dP (hG.ext L.fr) (eS.ext L.fr) IB).mono ?_
 rintro v H3 ⟨rfl,hf⟩
 have L:=L.ext hf
 simp -implicitDefEqProofs only[go_sem]
 have ca:=L.cell 0 rfl
 simp -implicitDefEqProofs only[go_sem,ca]
 refine (rpp (eS.ext L.fr) (by omega)).mono ?_
 rintro v H3 ⟨rfl,hf⟩
 have L:=L.ext hf
 simp -implicitDefEqProofs only[go_sem]
 have ca:=L.cell 0 rfl
 simp -implicitDefEqProofs only[go_sem,ca]
 refine (px dP (hG.ext L.fr) (eS.ext L.fr) Ea).mono ?_
 rintro v H3 ⟨rfl,hf⟩
 have L:=L.ext hf
 simp -implicitDefEqProofs only[go_sem]
 have ca:=L.cell 0 rfl
 simp -implicitDefEqProofs only[go_sem,ca]
 refine (rpx (eS.ext L.fr) (by omega)).mono ?_
 rintro v H3 ⟨rfl,hf⟩
 have L:=L.ext hf
 simp -implicitDefEqProofs only[go_sem]
 have ca:=L.cell 0 rfl
 simp -implicitDefEqProofs only[go_sem,ca]
 refine (pl dP (hG.ext L.fr) (eS.ext L.fr) Ea).mono ?_
 rintro v H3 ⟨rfl,hf⟩
 have L:=L.ext hf
 simp -implicitDefEqProofs only[go_sem]
 have ca:=L.cell 0 rfl
 simp -implicitDefEqProofs only[go_sem,ca]
 refine (rpl (eS.ext L.fr) (by omega)).mono ?_
 rintro v H3 ⟨rfl,hf⟩
 have L:=L.ext hf
 simp -implicitDefEqProofs only[go_sem]
 simp -implicitDefEqProofs only[go_sem,sv]
 exact L.fr
end Go.Proofs.YtmhdkbmnpekpoaaGreatDoor
namespace Go.Proofs.YtmhdkbmnpekpoaaGreatDoor
open Gx Go Go.ChangeShapes Go.WideShapes Go.ChangeAt Go.RowKit
def GO:List (String × DataW Unit):=Rows.printerFewestRow.laid
theorem own:ownKnob afI.godebug=none:=by kernel_rfl
theorem laidOut:laidOutB afI=true:=by kernel_rfl
theorem uW {P:Program} {W:World} {name:String} {g:Nat} {cs:Array Value} (hg:P.globalNamed name=some g) (h:W.var? P name=some cs):∃ t fr,W.heap[g]?=some (.cells cs t fr):=by
 unfold World.var? at h
 rw[hg,Option.bind_some] at h
 split at h
 ·rename_i c t fr he
  simp only[ae9.injEq] at h
  subst h
  exact ⟨t,fr,he⟩
 ·cases h
theorem A8 {W:World} (h:laidMetH afI GO W):bS W.heap:=by
 rw[MakeChecks.laidMetH_plain _ _ _ (by kernel_rfl)] at h
 obtain ⟨ps,⟨g0,t0,cs0,f0,p0,q0,hg0,ht0,hv0,Tg,⟨g1,t1,UC,f1,p1,q1,Th,ht1,VL,hd1,⟨g2,t2,cs2,f2,p2,q2,vv,Pn,u0,hd2,⟨g3,t3,cs3,f3,p3,q3,QS,ht3,hv3,hd3,_,_⟩,_⟩,_⟩,_⟩,_,_⟩:=h
 obtain rfl:=ae9.inj (aaB.symm.trans vv)
 obtain rfl:=ae9.inj (adp.symm.trans QS)
 have e2:(afI.globals[0]?).map (·.type)=some 137:=by kernel_rfl
 have e3:(afI.globals[2]?).map (·.type)=some 79:=by kernel_rfl
 obtain rfl:=ae9.inj (e2.symm.trans Pn)
 obtain rfl:=ae9.inj (e3.symm.trans ht3)
 obtain ⟨t2',fr2,hh2⟩:=uW vv u0
 obtain ⟨t3',fr3,hh3⟩:=uW QS hv3
 have hc:=Lib.cells_of_tab (k:=.u64) (zs:=Lib.pow10Tab) Tryz.underlying137 Tryz.underlying129 (by kernel_rfl) (by kernel_rfl) hd2
 obtain ⟨_,u,v,aer,_,_⟩:=iface_of_trod Tryz.underlying79 hd3
 refine ⟨⟨.iface u v,?_,.inr ⟨u,v,rfl⟩⟩,t2',fr2,?_⟩
 ·unfold ct
  rw[hh3]
  show cs3[0]?=_
  rw[← Array.getElem?_toList,aer]; rfl
 ·rw[hh2,← hc]
theorem MN (os:Os) (args:Array Value):laidMetH afI GO ((World.doorLaid afI 400 os).forCall (fun _ _=>0) ⟨#[],args,[]⟩).memory:=
 laidMetH_of_parts3 (fuel:=8) (laidMet_of_run' 8 (by kernel_rfl) (by kernel_rfl)) (by kernel_rfl) (by kernel_rfl)
theorem A9 {H:Type} {enc:TypeId × Value→H} {os:Os} {f:FuncId} {fn:Func} {s:ChangeSpec} {tb:TypeId} {F:Stop.Interp} (started:os.Started) (VJ:afI.inits.idxOf? f=none) (hf:afI.funcs[f]?=some fn)
 (SM:fn.params.toList.all (fun t=>afI.readableRec t && decide (t < afI.types.size))=true) (Jy:fn.resultTypes=#[tb]) (htb:afI.underlying tb=some .bool) (hv:s.vars=[])
 (gm:∀ (K:Type) (ds:List (DataW K)),ds.length=fn.params.size→s.fn K ds={ results:=[.lit (.bool true)],args:=ds })
 (witness:∃ (w:World) (tape:Tape) (i:Input),w.os=os∧(w.forCall tape i).Shaped afI∧i.vars=[]∧Input.okWide afI (w.forCall tape i) .any w.heap.size f i∧
  (Rows.OpenSpec.upto s).preRow enc afI fn [] false GO (w.forCall tape i).memory i.args∧
  Assume.holds {} afI (Go.lone (Frame.enter afI f i.args .normal) [] (w.forCall tape i)))
 (MO:∀ (W:World) (base:Nat) (args:Array Value) (ds:List (DataW H)) (ps:List MemPlace),
  (∀ (j:Nat) t v,fn.params[j]?=some t→args[j]?=some v→ai7 afI W .any base t v)→
  DataW.TrodAll enc afI W 0 (fun _=>true) true fn.params.toList args.toList ds ps→Rows.uptoBulkAll ds≤1048576→bS W.heap→aE afI f args W.heap fun v H'=>v= .bool true∧Fr [] W.heap H') :
 ReturnsInHanded {} ajc os f .any ((Rows.OpenSpec.upto s).preRow enc afI fn [] false GO) (((Rows.OpenSpec.upto s).at F).post enc afI fn false true false false):=by
 refine returnsInHanded_of_row (C:=ajc) (s:=Rows.OpenSpec.upto s) own started VJ hf witness ?_
 intro W base args ds gs before pK hW _ abG _ hL _ _
 have Qv:DataW.Whole enc afI fn.params.toList s.vars false W args.toList ds gs before:=hW
 have hk:=abG _ rfl
 obtain ⟨p,q,hA,hV,rfl,hz,hn⟩:=Qv
 have Qv:DataW.Whole enc afI fn.params.toList s.vars false W args.toList ds gs _:=hW
 have hV':=hV
 rw[hv] at hV'
 obtain ⟨rfl,rfl⟩:=trodVars_none hV'
 rw[ah7] at hk
 have hk:Rows.uptoBulkAll ds≤1048576:=of_decide_eq_true hk
 refine ((MO W base args ds p pK hA hk (A8 hL)).out W rfl).mono fun e W' ⟨v,he,⟨hvt,hfr⟩,hs⟩=>?_
 subst hvt
 refine ⟨_,he,Jx laidOut SM Jy htb hv ?_ Qv (Jw hs hfr)⟩
 rw[ah7]
 exact gm H ds (by have:=uF hA; simpa using this)
def Fm (P:Program) (F:Nat) (t:TypeId) {α:Type} (R:α→Nat→List Value→Heap→Prop):Prop:=
 ∀ {H:Type} {enc:TypeId × Value→H} {W:World} {base:Nat} {sp:Nat→Bool} {held:Bool} {fuel:Nat} {cs:List Value} {x:DataW H × List MemPlace},
   fuel≤F→DataW.trod enc P W base sp held fuel t cs=some x→∃ a,R a (Rows.uptoBulk x.1) cs W.heap
theorem Dk {H:Type}:∀ (l:List (DataW H × List MemPlace)),Rows.uptoBulkAll (l.map (·.1))=(l.map fun y=>Rows.uptoBulk y.1).sum
 | []=>rfl
 | y :: l=>by rw[afi,Rows.uptoBulkAll,Dk l,afi,aiQ]
theorem Ba {P:Program} {t e m F:Nat} {α:Type} {R:α→Nat→List Value→Heap→Prop} (ht:P.underlying t=some (.slice e)) (hc:P.cellsOf e=m) (hm:0 < m) (he:Fm P F e R) :
 Fm P (F + 1) t (fun (l:List (α × Nat)) b cs H=>SlR (fun (p:α × Nat) cs H=>R p.1 p.2 cs H) m l cs H∧(l.map (·.2)).sum≤b):=by
 intro H enc W base sp held fuel cs x hF h
 rcases DataW.trod_slice ht h with ⟨h0,_⟩ | ⟨a,len,cap,elems,rest,n,hn,rfl,rfl,hb,hl,eJ,hlen,hel,_,_⟩
 ·exact ⟨[],⟨none,0,h0,by simp,by simp[maxLen],.inl rfl⟩,ahn _⟩
 ·have hi:∀ i,i < len→∃ y:α × Nat,(∀ h:i < elems.length,y.2=Rows.uptoBulk elems[i].1)∧∃ vs,vs.length=m∧(∀ j,j < m→cellAt W.heap (a.add (i * m + j))=vs[j]?)∧R y.1 y.2 vs W.heap:=by
   intro i hi
   have h1:=hel i hi
   have h2:elems[i]?=some elems[i]:=List.getElem?_eq_getElem (by omega)
   rw[h2,Option.bind_eq_some_iff] at h1
   obtain ⟨vs,hv,hr⟩:=h1
   obtain ⟨h3,h4,h5⟩:=World.cells?_some hv
   obtain ⟨y,hy⟩:=he (by omega) hr
   rw[hc] at h4 h5 hv
   refine ⟨(y,Rows.uptoBulk elems[i].1),fun _=>rfl,vs,h4,fun j hj=>?_,hy⟩
   have:=h5 j hj
   rw[← this]
   show _=cellAt W.heap _
   congr 1
   simp only[Addr.add]
   repeat' split
   all_goals first | rfl | omega | simp_all [afY]
  obtain ⟨l,yN,yf⟩:=FB (β:=Unit) hi
  refine ⟨l,⟨some a,cap,by rw[yN],by omega,eJ,?_⟩,?_⟩
  ·rcases aiP l.length with h0 | h0
   ·exact .inl (afL h0)
   ·have Rz:a.spot=none:=by
     obtain ⟨_,vs,h1,h2,_⟩:=yf 0 h0
     have h3:=h2 0 hm
     rw[List.getElem?_eq_getElem (by omega)] at h3
     unfold cellAt at h3
     split at h3
     ·split at h3
      ·cases h3
      ·rename_i hs; simpa [Addr.add] using hs
     ·cases h3
    obtain ⟨b,o,s⟩:=a
    simp only at Rz
    subst Rz
    refine .inr ⟨b,o,rfl,fun j hj=>?_⟩
    obtain ⟨_,vs,h1,h2,h3⟩:=yf j hj
    refine ⟨vs,h1,fun i hi=>?_,h3⟩
    rw[← h2 i hi,kZ,fA,afY]
  ·have e:l.map (·.2)=elems.map fun y=>Rows.uptoBulk y.1:=by
    refine List.ext_getElem (by simp[yN,hlen]) fun i h1 h2=>?_
    simp only[List.length_map] at h1 h2
    rw[ai1,ai1]
    exact (yf i h1).1 h2
   show (l.map (·.2)).sum≤Rows.uptoBulk (.slice (elems.map (·.1)) (rest.map (·.1)))
   rw[e,← Dk,Rows.uptoBulk]
   omega
theorem cS.of {H:Heap} {M:List Nat}:∀ {ds:List iH} {css:List (List Value)},css.length=ds.length→(∀ (i:Nat) (h:i < css.length) (h':i < ds.length),dA H M ds[i] css[i])→cS H M ds css
 | [],[],_,_=>by simp[cS]
 | d :: ds,c :: css,hl,h=>by
   simp only[cS]
   exact ⟨c,css,rfl,h 0 (by simp) (by simp),cS.of (by simpa using hl) fun i hi iD=>h (i + 1) (by simpa using hi) (by simpa using iD)⟩
 | [],_ :: _,hl,_=>by simp at hl
 | _ :: _,[],hl,_=>by simp at hl
theorem MP {m:Nat} {css:List (List Value)} (h:∀ x ∈ css,x.length=m) {q r:Nat} (hq:q < css.length) (hr:r < m):css.flatten[q * m + r]?=css[q][r]?:=by
 have h1:=iw q h
 have h2:css.flatten[q * m + r]?=(css.flatten.drop (q * m))[r]?:=by simp
 rw[h2,h1,List.drop_eq_getElem_cons hq,List.flatten_cons,List.getElem?_append_left (by rw[h _ (ahD hq)]; exact hr)]
theorem Fo {α:Type} {R:α→List Value→Heap→Prop} {D:α→iH} {m:Nat} (h0:0 < m) {H:Heap} (hR:∀ x vs,R x vs H→dA H [] (D x) vs) {l:List α} {cs:List Value} (h:SlR R m l cs H):dA H [] (.list m (l.map D)) cs:=by
 obtain ⟨a,c,rfl,h1,h2,h3⟩:=h
 simp only[dA]
 rcases h3 with h3 | ⟨b,o,h4,h5⟩
 ·subst h3
  exact ⟨a,c,[],rfl,by simp,h2,by simp[cS],by simp,.inl rfl⟩
 ·have hq:∀ i,i < l.length→∃ vs:List Value,vs.length=m∧(∀ k,k < m→ct H b (o + i * m + k)=vs[k]?)∧∀ hi:i < l.length,dA H [] (D l[i]) vs:=fun i hi=>by
   obtain ⟨vs,q1,q2,q3⟩:=h5 i hi
   exact ⟨vs,q1,q2,fun _=>hR _ _ q3⟩
  obtain ⟨css,e1,e2⟩:=FB (β:=Unit) hq
  have hm:∀ x ∈ css,x.length=m:=fun x hx=>by
   obtain ⟨i,hi,rfl⟩:=List.getElem_of_mem hx
   exact (e2 i hi).1
  refine ⟨a,c,css,by simp,by simpa using h1,h2,cS.of (by simpa using e1) fun i hi iD=>?_,hm,.inr ⟨b,o,h4,by simp,fun j hj=>?_⟩⟩
  ·rw[ai1]
   exact (e2 i hi).2.2 (by omega)
  ·have hlen:css.flatten.length=css.length * m:=kL hm
   have hqj:j / m < css.length:=by rw[hlen] at hj; exact (Nat.div_lt_iff_lt_mul h0).2 hj
   have hrj:j % m < m:=Nat.mod_lt _ h0
   have e:j=j / m * m + j % m:=by rw[Nat.mul_comm,Nat.div_add_mod]
   have h8:=(e2 _ hqj).2.1 _ hrj
   rw[← MP hm hqj hrj,← e,afY,← e] at h8
   rw[h8,List.getElem?_eq_getElem hj]
def NdB (n:Nd) (b:Nat) (cs:List Value) (H:Heap):Prop:=dA H [] n.fD cs∧ny n∧wN n≤64 * b
theorem zJ {H:Heap} {m:Nat}:∀ {l:List (Nd × Nat)},(∀ (j:Nat) (h:j < l.length),∃ vs,NdB l[j].1 l[j].2 vs H)→EZ (l.map (·.1))∧wL (l.map (·.1))≤64 * (l.map (·.2)).sum
 | [],_=>⟨trivial,ahn _⟩
 | p :: l,h=>by
   obtain ⟨vs,h1,h2,h3⟩:=h 0 (by simp)
   obtain ⟨i1,i2⟩:=zJ (m:=m) (l:=l) fun j hj=>h (j + 1) (by simpa using hj)
   simp only[aiK] at h2 h3
   refine ⟨⟨h2,i1⟩,?_⟩
   rw[afi,wL,afi,aiQ]
   omega
theorem abH {α:Type}:∀ {l:List α},l.length=5→∃ a b c d e,l=[a,b,c,d,e]
 | [a,b,c,d,e],_=>⟨a,b,c,d,e,rfl⟩
 | [],h=>by simp at h
 | [_],h=>by simp at h
 | [_,_],h=>by simp at h
 | [_,_,_],h=>by simp at h
 | [_,_,_,_],h=>by simp at h
 | _ :: _ :: _ :: _ :: _ :: _ :: _,h=>by simp at h
theorem Iq:∀ F:Nat,Fm afI F 24 NdB:=by
 intro F
 induction F using Nat.strongRecOn with
 | _ F ihF=>
   intro H enc W base sp held fuel cs x hF h
   obtain ⟨xs,n,hn,rfl,hl,hx,hf⟩:=DataW.trod_struct ai8 h
   have hc:afI.cellsOf 24=5:=by kernel_rfl
   rw[hc] at hl
   obtain ⟨x0,x1,x2,x3,x4,rfl⟩:=abH (l:=xs) (by rw[hx]; rfl)
   obtain ⟨v0,v1,v2,v3,v4,rfl⟩:=abH hl
   have f0:=hf 0 _ rfl
   have f1:=hf 1 _ rfl
   have f2:=hf 2 _ rfl
   have f3:=hf 3 _ rfl
   have f4:=hf 4 _ rfl
   have c1:afI.cellsOf 3=1:=by kernel_rfl
   have c2:afI.cellsOf 9=1:=by kernel_rfl
   have c3:afI.cellsOf 2=1:=by kernel_rfl
   have c4:afI.cellsOf 22=1:=by kernel_rfl
   change DataW.trod enc afI W base sp held n 3 (([v0,v1,v2,v3,v4].drop 0).take (afI.cellsOf 3))=some x0 at f0
   change DataW.trod enc afI W base sp held n 9 (([v0,v1,v2,v3,v4].drop 1).take (afI.cellsOf 9))=some x1 at f1
   change DataW.trod enc afI W base sp held n 2 (([v0,v1,v2,v3,v4].drop 2).take (afI.cellsOf 2))=some x2 at f2
   change DataW.trod enc afI W base sp held n 3 (([v0,v1,v2,v3,v4].drop 3).take (afI.cellsOf 3))=some x3 at f3
   change DataW.trod enc afI W base sp held n 22 (([v0,v1,v2,v3,v4].drop 4).take (afI.cellsOf 22))=some x4 at f4
   rw[c1] at f0 f3
   rw[c2] at f1
   rw[c3] at f2
   rw[c4] at f4
   obtain ⟨k,e0,q0,w0⟩:=DataW.trod_int (k:=.i64) af0 f0
   obtain ⟨t,e1,q1,w1⟩:=DataW.trod_string Tryz.underlying9 f1
   obtain ⟨m,e2,q2,w2⟩:=DataW.trod_int (k:=.i64) Tryz.underlying2 f2
   obtain ⟨a,e3,q3,w3⟩:=DataW.trod_int (k:=.i64) af0 f3
   have jk:∃ l:List (Nd × Nat),SlR (fun (p:Nd × Nat) cs H=>NdB p.1 p.2 cs H) 5 l [v4] W.heap∧(l.map (·.2)).sum≤Rows.uptoBulk x4.1:=by
    rcases aiP n with h0 | h0
    ·rw[h0] at f4
     simp[DataW.trod] at f4
    ·obtain ⟨n',rfl⟩:∃ n',n=n' + 1:=⟨n - 1,by omega⟩
     exact Ba (F:=n') (m:=5) Tryz.underlying22 hc (by decide) (ihF n' (by omega)) (afJ _) f4
   obtain ⟨l,yN,yf⟩:=jk
   simp only[List.drop_zero,List.drop_succ_cons,ahq,ahB,List.cons.injEq,and_true] at e0 e1 e2 e3
   subst e0 e1 e2 e3
   subst q0 q1 q2 q3
   have dk:∀ (j:Nat) (h:j < l.length),∃ vs,NdB l[j].1 l[j].2 vs W.heap:=by
    obtain ⟨_,_,_,_,_,h3⟩:=yN
    rcases h3 with rfl | ⟨_,_,_,h5⟩
    ·intro j hj; simp at hj
    ·intro j hj
     obtain ⟨vs,_,_,h6⟩:=h5 j hj
     exact ⟨vs,h6⟩
   obtain ⟨i1,i2⟩:=zJ (m:=5) dk
   have hr:=Fo (D:=fun (p:Nd × Nat)=>p.1.fD) (by decide) (fun x vs hx=>hx.1) yN
   have W6:dA W.heap [] (aW (l.map (·.1))) [v4]:=by
    unfold aW
    rw[List.map_map]
    exact hr
   refine ⟨.mk k t.data.toList m a (l.map (·.1)),lb.2 ⟨v4,rfl,W6⟩,?_,?_⟩
   ·rw[ny]
    refine ⟨?_,?_,i1⟩
    ·simp[Lit.wf,aje,ajf,aja,ajd] at w2
     omega
    ·simp[Lit.wf,aje,ajf,aja,ajd] at w2
     omega
   ·rw[wN]
    show _≤64 * Rows.uptoBulk (.agg [.lit (.int .i64 k),.lit (.string t.data.toList),.lit (.int .i64 m),.lit (.int .i64 a),x4.1])
    simp only[Rows.uptoBulk,Rows.uptoBulkAll]
    omega
theorem VK {H:Type} {enc:TypeId × Value→H} {W:World} {b0:Nat} {sp:Nat→Bool} {held:Bool} {base:Nat} {v:Value} {d:DataW H} {ps:List MemPlace} (pK:ai7 afI W .any b0 24 v) (h:DataW.Trod enc afI W base sp held 24 v d ps) :
 ∃ n,NA W.heap n v∧ny n∧wN n≤64 * Rows.uptoBulk d:=by
 obtain ⟨fuel,hf⟩:=h
 obtain ⟨cs,rfl,_⟩:=okWide_struct ai8 pK
 obtain ⟨n,h1,h2,h3⟩:=Iq fuel (afJ _) hf
 exact ⟨n,⟨cs.toList,by simp,h1⟩,h2,h3⟩
theorem PZ {H:Type} {enc:TypeId × Value→H} {W:World} {fn:Func} {b0:Nat} {args:Array Value} {ds:List (DataW H)} {ps:List MemPlace} (hp:fn.params=#[24])
 (pK:∀ (j:Nat) t v,fn.params[j]?=some t→args[j]?=some v→ai7 afI W .any b0 t v) (h:DataW.TrodAll enc afI W 0 (fun _=>true) true fn.params.toList args.toList ds ps) (hk:Rows.uptoBulkAll ds≤1048576) :
 ∃ v n,args=#[v]∧NA W.heap n v∧ny n∧wN n≤100000000:=by
 rw[hp] at h pK
 obtain ⟨v0,vs0,d0,ds0,p0,q0,aeP,rfl,rfl,h0,r0⟩:=trodAll_cons h
 obtain ⟨rfl,rfl,rfl⟩:=trodAll_nil r0
 obtain rfl:args=#[v0]:=by cases args; simp_all
 obtain ⟨n,h1,h2,h3⟩:=VK (pK 0 24 v0 rfl rfl) h0
 refine ⟨v0,n,rfl,h1,h2,?_⟩
 simp only[Rows.uptoBulkAll] at hk
 omega
end Go.Proofs.YtmhdkbmnpekpoaaGreatDoor
