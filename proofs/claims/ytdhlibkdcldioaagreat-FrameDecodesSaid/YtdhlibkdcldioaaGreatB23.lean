import Derived.Test.YtdhlibkdcldioaaGreatB21
import Derived.Test.YtdhlibkdcldioaaGreatB22
set_option linter.unusedSimpArgs false
set_option linter.unusedVariables false
set_option maxRecDepth 8000
namespace Go.Proofs.YtdhlibkdcldioaaGreat
open Gx Go
def decA (L:Bs):Msg × Int:=
 if 2^24 < L.length then (Msg.zero,6)
 else if L.length < 4 then (Msg.zero,2)
 else if sealB (L.take (L.length - 4))=L then
  match decF (L.take (L.length - 4)) with
  | some m=>(m,0)
  | none=>(Msg.zero,2)
 else (Msg.zero,2)
def leS (q:Bs):Nat→Nat
 | 0=>0
 | i + 1=>leS q i + (q.getD i 0).toNat * 2^(8*i)
theorem leS_lt (q:Bs):∀ i,leS q i < 2^(8*i)
 | 0=>by simp [leS]
 | i + 1=>by
   have h1:=leS_lt q i
   have h2:=(q.getD i 0).toNat_lt
   have h3:(q.getD i 0).toNat * 2^(8*i)≤255 * 2^(8*i):=Nat.mul_le_mul_right _ (by omega)
   simp only [leS]
   rw [Nat.mul_add,Nat.pow_add]
   have:2^(8*1)=256:=rfl
   rw [this]; omega
theorem or_u32 (s x i:Nat) (hi:i≤3) (hs:s < 2^(8*i)) (hx:x < 256):bits .or .u32 (s:Int) (shlI .u32 (x:Int) ((8 * i:Nat):Int))=((s + x * 2^(8*i):Nat):Int):=by
 have hp:2^(8*i)≤2^24:=Nat.pow_le_pow_right (by omega) (by omega)
 have hxx:x * 2^(8*i)≤255 * 2^(8*i):=Nat.mul_le_mul_right _ (by omega)
 have hxx2:255 * 2^(8*i)≤255 * 2^24:=Nat.mul_le_mul_left _ hp
 have e1:shlI .u32 (x:Int) ((8 * i:Nat):Int)=((x * 2^(8*i):Nat):Int):=by
  unfold shlI
  rw [show min ((8 * i:Nat):Int).toNat IntKind.u32.bits=8 * i by simp only [IntKind.bits,Int.toNat_natCast]; omega]
  have:((x:Int) * 2 ^ (8 * i))=((x * 2^(8*i):Nat):Int):=by norm_cast
  rw [this,wrap_u32_id _ (by omega) (by omega)]
 rw [e1]
 have hs':s < 2^24:=by omega
 have hx':(BitVec.ofInt 32 (s:Int)).toNat=s:=by rw [BitVec.toNat_ofInt]; omega
 have hy':(BitVec.ofInt 32 ((x * 2^(8*i):Nat):Int)).toNat=x * 2^(8*i):=by rw [BitVec.toNat_ofInt]; omega
 have e:(BitVec.ofInt 32 (s:Int) ||| BitVec.ofInt 32 ((x * 2^(8*i):Nat):Int)).toNat=s + x * 2^(8*i):=by
  rw [BitVec.toNat_or,hx',hy',Nat.or_comm,← Nat.shiftLeft_eq,← Nat.shiftLeft_add_eq_or_of_lt hs,Nat.add_comm]
 show IntKind.u32.wrap ((BitVec.ofInt 32 (s:Int) ||| BitVec.ofInt 32 ((x * 2^(8*i):Nat):Int)).toNat:Int)=_
 rw [e,wrap_u32_id _ (by omega) (by omega)]
theorem le4_iff (v:W32) (q:Bs) (hq:q.length=4):leS q 4=v.toNat↔le4 v=q:=by
 match q,hq with
 | [a,b,c,d],_=>
   have ha:=a.toNat_lt; have hb:=b.toNat_lt; have hc:=c.toNat_lt; have hd:=d.toNat_lt
   have hv:=v.isLt
   have e:leS [a,b,c,d] 4=a.toNat + b.toNat * 256 + c.toNat * 65536 + d.toNat * 16777216:=by simp [leS]
   rw [e]
   constructor
   ·intro h
    have k:∀ (n:Nat) (x:UInt8),n=x.toNat→UInt8.ofNat n=x:=by
     intro n x hn; subst hn; exact UInt8.ofNat_toNat
    simp only [le4]
    rw [k _ a (by omega),k _ b (by omega),k _ c (by omega),k _ d (by omega)]
   ·intro h
    simp only [le4,List.cons.injEq,and_true] at h
    obtain ⟨h1,h2,h3,h4⟩:=h
    have k:∀ (n:Nat) (x:UInt8),n < 256→UInt8.ofNat n=x→n=x.toNat:=by
     intro n x hn hx; rw [← hx]; simp; omega
    have k1:=k _ _ (by omega) h1
    have k2:=k _ _ (by omega) h2
    have k3:=k _ _ (by omega) h3
    have k4:=k _ _ (by omega) h4
    omega
theorem seal_iff {L:Bs} (h:4≤L.length):sealB (L.take (L.length - 4))=L↔le4 (crc (L.take (L.length - 4)))=L.drop (L.length - 4):=by
 unfold sealB
 constructor
 ·intro e
  have:=congrArg (List.drop (L.length - 4)) e
  rwa [List.drop_append_of_le_length (by simp),List.drop_eq_nil_of_le (by simp),List.nil_append] at this
 ·intro e
  rw [e,List.take_append_drop]
theorem msgO_decF {L:Bs} {m:Msg} (h:msgO L=some (m,some L.length)):decF L=if formB m then some m else none:=by
 rw [decF_msgO,h]
 simp only [true_and]
theorem msgO_none {L:Bs} (h:∀ m,msgO L≠some (m,some L.length)):decF L=none:=by
 rw [decF_msgO]
 split
 ·rename_i m s e
  rw [if_neg]
  rintro ⟨rfl,_⟩
  exact h m e
 ·rfl
set_option maxHeartbeats 2000000 in
theorem decode_ok {H:Heap} {a:Option Addr} {c:Nat} {L:Bs} (h:BsR H a L) (hl:L.length < 2^36) (hc:L.length≤c) (hcm:c≤maxLen):HCalls Tryz.prog 20 #[.slice a L.length c] H fun v H'=>
 ∃ cs,v= .tuple #[.agg (List.toArray cs),.int .i64 (decA L).2]∧Rep H' [] (datT tMsg (decA L).1.tup) cs∧Fr [] H H':=by
 refine calls_of_vc (args:=[_]) Tryz.func20 c20ok (Nat.le_of_ble_eq_true rfl) ?_
 simp (implicitDefEqProofs:=false) only [go_sem,c20]
 refine NewP_intro fun A hA hfA hsA=>?_
 unfold maxLen at hcm
 unfold decA
 have zero:∀ (H':Heap) (cz:∀ o,cellB H' H.size o=zeroM[o]?) (e:Int),True:=fun _ _ _=>trivial
 by_cases h24:2^24 < L.length
 ·have h24':(16777216:Int) < (L.length:Int):=by omega
  rw [if_pos h24]
  simp (implicitDefEqProofs:=false) only [go_sem,h24']
  refine Sto_all hA rfl (by simp [Value.oneCell']) fun B hB hfB hsB=>?_
  have hcB:=hB.cell
  simp (implicitDefEqProofs:=false) only [go_sem,hcB]
  exact ⟨zeroM,rfl,zeroM_rep _,hfA.trans' hfB (by simp)⟩
 have h24':¬ (16777216:Int) < (L.length:Int):=by omega
 rw [if_neg h24]
 have hsub:IntKind.i64.wrap ((L.length:Int) - 4)=(L.length:Int) - 4:=wrap_i64_id _ (by omega) (by omega)
 by_cases h4:L.length < 4
 ·have h4':(L.length:Int) - 4 < 0:=by omega
  rw [if_pos h4]
  simp (implicitDefEqProofs:=false) only [go_sem,h24',hsub,h4']
  refine Sto_all hA rfl (by simp [Value.oneCell']) fun B hB hfB hsB=>?_
  have hcB:=hB.cell
  simp (implicitDefEqProofs:=false) only [go_sem,hcB]
  exact ⟨zeroM,rfl,zeroM_rep _,hfA.trans' hfB (by simp)⟩
 have h4':¬ (L.length:Int) - 4 < 0:=by omega
 rw [if_neg h4]
 obtain ⟨n,hn⟩:∃ n,n=L.length - 4:=⟨_,rfl⟩
 have hnI:(L.length:Int) - 4=(n:Int):=by omega
 rw [← hn]
 rw [hnI] at h4'
 have hsub:IntKind.i64.wrap ((L.length:Int) - 4)=(n:Int):=by rw [hsub,hnI]
 have hb1:(0:Int)≤(n:Int)∧(n:Int)≤(L.length:Int):=by omega
 have hb2:(n:Int)≤(c:Int):=by omega
 simp (implicitDefEqProofs:=false) only [go_sem,h24',hsub,h4',hb1,hb2]
 obtain ⟨b,o,rfl,hcell⟩:∃ b o,a=some ⟨b,o,none⟩∧∀ j (hj:j < L.length),cellB H b (o + j)=some (bv L[j]):=by
  rcases h with h | h
  ·rw [h] at h4; simp at h4
  ·exact h
 have hA0:∀ j (hj:j < L.length),cellB A b (o + j)=some (bv L[j]):=fun j hj=>cellB_fr (hcell j hj) hfA (by simp)
 have hcn:¬ c=n:=by omega
 have hL4:L.length - n=4:=by omega
 obtain ⟨q,hq⟩:∃ q,q=L.drop n:=⟨_,rfl⟩
 have hql:q.length=4:=by rw [hq,List.length_drop]; omega
 have hqg:∀ i,i < 4→(q.getD i 0).toNat < 256∧cellB A b (o + n + i)=some (bv (q.getD i 0)):=by
  intro i hi
  have hlt:n + i < L.length:=by omega
  have e:q.getD i 0=L[n + i]:=by
   rw [hq,List.getD_eq_getElem?_getD,List.getElem?_drop,List.getElem?_eq_getElem hlt]; rfl
  refine ⟨(q.getD i 0).toNat_lt,?_⟩
  rw [e,Nat.add_assoc]; exact hA0 _ hlt
 simp only [hcn,if_false,hL4,Option.map_some,add_mk]
 refine vc_loop (fun (i:Nat) H'=>i≤3∧H'=A)
  (fun i=>[(0,.slice (some ⟨b,o,none⟩) L.length c),(2,.pointer (some ⟨H.size,0,none⟩)),(4,.int .i64 n),(5,.int .u32 (leS q i)),(22,.slice (some ⟨b,o + n,none⟩) 4 (c - n)),(23,.int .i64 4),(24,.int .i64 i)]) (fun i=>4 - i) 0 ?_ ?_ ?_
 ·exact ⟨by omega,rfl⟩
 ·simp (implicitDefEqProofs:=false) only [go_sem]
  rfl
 ·rintro i H' ⟨hi,rfl⟩
  have hi4:(i:Int) < 4:=by omega
  have h0:(0:Int)≤(i:Int):=by omega
  obtain ⟨hx,hcx⟩:=hqg i (by omega)
  have hb32:IntKind.u32.wrap ((q.getD i 0).toNat:Int)=((q.getD i 0).toNat:Int):=wrap_u32_id _ (by omega) (by omega)
  have hmul:IntKind.i64.wrap (8 * (i:Int))=((8 * i:Nat):Int):=by rw [wrap_i64_id _ (by omega) (by omega)]; omega
  have hor:=or_u32 (leS q i) (q.getD i 0).toNat i hi (leS_lt q i) hx
  by_cases hi3:i=3
  ·subst hi3
   have hm1:IntKind.i64.wrap 24=24:=rfl
   have hm2:IntKind.i64.wrap (8 * 3)=24:=rfl
   have hor':bits .or .u32 ((leS q 3:Nat):Int) (shlI .u32 ((q.getD 3 0).toNat:Int) 24)=((leS q 4:Nat):Int):=hor
   simp (implicitDefEqProofs:=false) only [go_sem,hcx,bv,hb32,hm1,hm2,hor']
   have htake:(L.take n).length=n:=by rw [List.length_take]; omega
   have hbs:BsR H' (some ⟨b,o,none⟩) (L.take n):=(h.ext hfA).take n
   have hsum:=sum_ok (c:=c) hbs (by omega)
   rw [htake] at hsum
   refine ⟨⟨by omega,hb2⟩,hsum.mono ?_⟩
   rintro v H2 ⟨rfl,rfl⟩
   have hseal:=seal_iff (L:=L) (by omega)
   rw [← hn,← hq,← le4_iff _ q hql] at hseal
   by_cases hs:sealB (L.take n)=L
   ·have hs':((leS q 4:Nat):Int)=((crc (L.take n)).toNat:Int):=by rw [hseal.1 hs]
    simp only [hs,if_true]
    have hpar:=parse_ok (c:=c) hbs (by omega)
    rw [htake] at hpar
    simp (implicitDefEqProofs:=false) only [go_sem,wv,hs',hb2]
    refine ⟨by omega,hpar.mono ?_⟩
    rintro v H3 ⟨m,cs,ok,rfl,hrep,hf3,hok1,hok0⟩
    obtain ⟨a_reads,c_reads,a_base,c_base,a_state,c_state,a_acks,c_acks,a_proof,c_proof,a_digests,c_digests,a_objects,c_objects,a_items,c_items,hcs,_⟩:=msg_open hrep.rep
    have hone:=rep_one (t:=tMsg) hrep.rep
    have hA3:=hA.ext hf3
    simp (implicitDefEqProofs:=false) only [go_sem,hcs]
    refine NewP_intro fun D hD hfD hsD=>?_
    simp (implicitDefEqProofs:=false) only [go_sem]
    refine Sto_all hD rfl (by rw [← hcs]; exact hone) fun D2 hD2 hfD2 hsD2=>?_
    have hA4:=(hA3.ext hfD).fr hfD2 (by have:=hA3.lt; simp; omega)
    have hfn:=new_fr hfD hfD2
    have hrep2:=Rep.ext hrep.rep hfn
    have hcD:=hD2.cell
    cases ok with
    | false=>
      have hdn:=msgO_none (L:=L.take n) (by rw [htake]; rw [htake] at hok0; exact hok0 rfl)
      rw [hdn]
      simp (implicitDefEqProofs:=false) only [go_sem]
      refine Sto_all hA4 rfl (by simp [Value.oneCell']) fun B hB hfB hsB=>?_
      have hcB:=hB.cell
      simp (implicitDefEqProofs:=false) only [go_sem,hcB]
      exact ⟨zeroM,rfl,zeroM_rep _,((hfA.trans hf3).trans hfn).trans' hfB (by simp)⟩
    | true=>
      have hdm:=msgO_decF (L:=L.take n) (m:=m) (hok1 rfl)
      rw [hdm]
      simp (implicitDefEqProofs:=false) only [go_sem,hcD]
      rw [← hcs]
      refine (formed_ok hrep2).mono ?_
      rintro v H5 ⟨rfl,hf5⟩
      have hA5:=hA4.ext hf5
      cases hform:formB m with
      | false=>
        simp (implicitDefEqProofs:=false) only [go_sem]
        refine Sto_all hA5 rfl (by simp [Value.oneCell']) fun B hB hfB hsB=>?_
        have hcB:=hB.cell
        simp (implicitDefEqProofs:=false) only [go_sem,hcB]
        exact ⟨zeroM,rfl,zeroM_rep _,(((hfA.trans hf3).trans hfn).trans hf5).trans' hfB (by simp)⟩
      | true=>
        have hcD5:=(hD2.ext hf5).cell
        simp (implicitDefEqProofs:=false) only [go_sem,hcD5]
        refine Sto_all hA5 rfl (by rw [← hcs]; exact hone) fun B hB hfB hsB=>?_
        have hcB:=hB.cell
        simp (implicitDefEqProofs:=false) only [go_sem,hcB]
        refine ⟨cs,by rw [hcs],?_,(((hfA.trans hf3).trans hfn).trans hf5).trans' hfB (by simp)⟩
        have h1:=RepP.ext hrep (B':=fun x=>x < H2.size + 0) ((hfn.trans hf5)) (fun x hx=>.inl (by omega))
        exact (RepP.fr h1 (B':=fun x=>x < H2.size + 0) hfB (by simp; omega) (fun x hx=>.inl hx)).rep
   ·have hs':¬ ((leS q 4:Nat):Int)=((crc (L.take n)).toNat:Int):=by
     intro e; exact hs (hseal.2 (by omega))
    simp only [hs,if_false]
    simp (implicitDefEqProofs:=false) only [go_sem,wv,hs']
    refine Sto_all hA rfl (by simp [Value.oneCell']) fun B hB hfB hsB=>?_
    have hcB:=hB.cell
    simp (implicitDefEqProofs:=false) only [go_sem,hcB]
    exact ⟨zeroM,rfl,zeroM_rep _,hfA.trans' hfB (by simp)⟩
  ·have hi3':¬ (i:Int)=3:=by omega
   have hw1:=succ_i64 i 4 (by omega) (by omega)
   simp (implicitDefEqProofs:=false) only [go_sem,hi4,h0,hcx,bv,hb32,hmul,hor,hi3']
   refine ⟨by omega,loopK_intro (i + 1) (by show 4 - (i + 1) < 4 - i; omega) ?_ ⟨by omega,rfl⟩⟩
   simp (implicitDefEqProofs:=false) only [go_sem,hw1]
   rfl
end Go.Proofs.YtdhlibkdcldioaaGreat
