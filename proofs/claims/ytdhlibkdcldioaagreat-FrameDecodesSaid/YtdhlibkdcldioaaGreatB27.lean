import Derived.Test.YtdhlibkdcldioaaGreatB23
import Derived.Test.YtdhlibkdcldioaaGreatB24
import Derived.Test.YtdhlibkdcldioaaGreatB26
import Derived.Test.YtdhlibkdcldioaaGreatB10
import Derived.Test.YtdhlibkdcldioaaGreatB25
import Derived.Test.YtdhlibkdcldioaaGreatB14
section
set_option linter.unusedSimpArgs false
set_option linter.unusedVariables false
set_option maxRecDepth 8000
namespace Go.Proofs.YtdhlibkdcldioaaGreat
open Gx Go
theorem Mks_blk {H:Heap} {b t:Nat} {l:List Value} {R:Heap→Prop} (h:Blk H b t l) (hR:∀ H',(∀ j,cellB H' b j=cellB H b j)→Fr [b] H H'→H'.size=H.size→R H'):Mks H ⟨b,0,none⟩ R:=by
 refine ⟨l.toArray,t,(0,0),h,hR _ (fun j=>?_) ⟨?_,fun b' hb' hn=>?_⟩ ?_⟩
 ·have hlt:=h.lt
  unfold Blk at h
  unfold cellB frzH
  simp only [Array.getElem?_modify,if_true,h,Option.map_some]
 ·simp [frzH]
 ·have:b≠b':=by simpa using fun e=>hn (by simp [e])
  simp only [frzH,Array.getElem?_modify,if_neg this]
 ·simp [frzH]
def m512:Msg:=mkM 5 1 2 []
def m6:Msg:={ Msg.zero with kind:=6 }
def m5s:Msg:={ Msg.zero with kind:=5,seq:=1 }
def mcells (k s d q:Int):List Value:=[.int .i64 k,.int .i64 s,.int .i64 d,.int .i64 0,.int .i64 0,.int .i64 0,.slice none 0 0,.slice none 0 0,.slice none 0 0,.slice none 0 0,.slice none 0 0,.slice none 0 0,.slice none 0 0,.int .i64 q,.slice none 0 0]
theorem mcells_rep (k s d q:Int) (H:Heap):Rep H [] (datT tMsg ({ Msg.zero with kind:=k,src:=s,dst:=d,seq:=q }:Msg).tup) (mcells k s d q):=by
 have:RepP H (fun _=>False) (datT tMsg ({ Msg.zero with kind:=k,src:=s,dst:=d,seq:=q }:Msg).tup) (mcells k s d q):=
  RepP.pair (RepP.v _) (RepP.pair (RepP.v _) (RepP.pair (RepP.v _) (RepP.pair (RepP.pair (RepP.v _) (RepP.pair (RepP.v _) (RepP.v _))) (RepP.pair (RepP.nil _) (RepP.pair (RepP.nil _) (RepP.pair (RepP.nil _) (RepP.pair (RepP.nil _) (RepP.pair (RepP.nil _) (RepP.pair (RepP.nil _) (RepP.pair (RepP.nil _) (RepP.pair (RepP.v _) (RepP.nil _))))))))))))
 exact this.rep
theorem okM_zero (k s d q:Int) (hk:-2^63≤k∧k < 2^63) (hs:-2^63≤s∧s < 2^63) (hd:-2^63≤d∧d < 2^63) (hq:-2^63≤q∧q < 2^63):okM ({ Msg.zero with kind:=k,src:=s,dst:=d,seq:=q }:Msg):=by
 have hz:∀ t:Ty,okT (.list t) []:=fun t=>⟨by simp,by simp⟩
 have hn:okT .num 0:=by constructor <;> decide
 exact ⟨hk,hs,hd,⟨hn,hn,hn⟩,hz _,hz _,hz _,hz _,hz _,hz _,hz _,hq,hz _⟩
theorem encM_512:encM m512=[5,2,4,0]:=by decide
theorem formB_512:formB m512=true:=by decide
theorem encO_512:encO m512=(sealB [5,2,4,0],0):=by unfold encO; rw [formB_512,if_pos rfl,encM_512]
theorem okM_512:okM m512:=okM_zero 5 1 2 0 (by omega) (by omega) (by omega) (by omega)
theorem decA_512:decA (sealB [5,2,4,0])=(m512,0):=by
 have hl:(sealB [5,2,4,0]).length=8:=by rw [sealB_len]; rfl
 have ht:(sealB [5,2,4,0]).take 4=[5,2,4,0]:=by unfold sealB; rfl
 unfold decA
 rw [hl,if_neg (by omega),if_neg (by omega)]
 simp only [Nat.reduceSub]
 rw [ht,if_pos rfl]
 have:=decF_encM formB_512 okM_512 (by rw [encM_512]; decide)
 rw [encM_512] at this
 rw [this]
theorem crc_nil:crc []=0#32:=by decide
theorem crc_nine:crc [49,50,51,52,53,54,55,56,57]=3421780262#32:=by decide +kernel
set_option maxHeartbeats 4000000 in
theorem awake_ok (H:Heap):HCalls Tryz.prog 11 #[] H fun v H'=>v= .bool true∧Fr [] H H':=by
 refine calls_of_vc (args:=[]) Tryz.func11 c11ok (Nat.le_of_ble_eq_true rfl) ?_
 simp (implicitDefEqProofs:=false) only [go_sem,c11]
 refine (encode_ok (m:=m512) (cs:=mcells 5 1 2 0) (mcells_rep 5 1 2 0 H) okM_512 (fun _=>by rw [encM_512]; decide)).mono ?_
 rintro v H1 ⟨a1,c1,g1,rfl,ho1,hg1,hf1⟩
 rw [encO_512] at ho1 ⊢
 have hb1:=ho1.bsR
 have hcap:=ho1.cap_le
 simp (implicitDefEqProofs:=false) only [go_sem]
 have hmx:c1≤maxLen:=by
  rcases ho1.2 with ⟨_,e,_⟩ | ⟨b,cap,cur,_,e,_,_,h5,_⟩
  ·simp only [Value.slice.injEq] at e; have:=e.2.1; rw [sealB_len] at this; simp at this
  ·simp only [Value.slice.injEq] at e; obtain ⟨_,_,rfl⟩:=e; exact h5
 refine (decode_ok (c:=c1) hb1 (by rw [sealB_len]; decide) hcap hmx).mono ?_
 rintro v H2 ⟨cs,rfl,hrep,hf2⟩
 rw [decA_512] at hrep ⊢
 have hrep0:=hrep
 obtain ⟨a_reads,c_reads,a_base,c_base,a_state,c_state,a_acks,c_acks,a_proof,c_proof,a_digests,c_digests,a_objects,c_objects,a_items,c_items,hcs,_⟩:=msg_open hrep
 have hone:=rep_one (t:=tMsg) hrep
 simp (implicitDefEqProofs:=false) only [go_sem,hcs]
 refine NewP_intro fun H3 hn3 hf3 hs3=>?_
 simp (implicitDefEqProofs:=false) only [go_sem]
 refine Sto_all hn3 rfl (by rw [← hcs]; exact hone) fun H4 hn4 hf4 hs4=>?_
 have hfn:=new_fr hf3 hf4
 have hF4:Fr [] H H4:=(hf1.trans hf2).trans hfn
 have hb4:=hb1.ext (hf2.trans hfn)
 have hk5:m512.kind=5:=rfl
 have hs5:m512.src=1:=rfl
 have hd5:m512.dst=2:=rfl
 simp (implicitDefEqProofs:=false) only [go_sem]
 refine (sum_ok (l:=[]) (c:=0) (BsR.nil H4 none) (by simp)).mono ?_
 rintro v H5 ⟨rfl,rfl⟩
 have hcn:((crc []).toNat:Int)=0:=by rw [crc_nil]; rfl
 simp (implicitDefEqProofs:=false) only [go_sem,wv,hcn]
 refine NewS_intro fun H6 hn6 hf6 hs6=>?_
 simp (implicitDefEqProofs:=false) only [go_sem]
 refine Mks_blk hn6 fun H7 hc7 hf7 hs7=>?_
 have hfn7:=new_fr hf6 hf7
 have hb7:BsR H7 (some ⟨H5.size,0,none⟩) [49,50,51,52,53,54,55,56,57]:=by
  refine .inr ⟨_,_,rfl,fun j hj=>?_⟩
  rw [hc7,Nat.zero_add,hn6.cell]
  have:([49,50,51,52,53,54,55,56,57]:List UInt8).map bv=[.int .u8 49,.int .u8 50,.int .u8 51,.int .u8 52,.int .u8 53,.int .u8 54,.int .u8 55,.int .u8 56,.int .u8 57]:=rfl
  rw [← this,List.getElem?_map,List.getElem?_eq_getElem hj]; rfl
 have hs9:=sum_ok (c:=9) hb7 (by decide)
 rw [show ([49,50,51,52,53,54,55,56,57]:List UInt8).length=9 from rfl] at hs9
 simp (implicitDefEqProofs:=false) only [go_sem]
 refine hs9.mono ?_
 rintro v H8 ⟨rfl,rfl⟩
 have hc9:((crc [49,50,51,52,53,54,55,56,57]).toNat:Int)=3421780262:=by rw [crc_nine]; rfl
 have hbs:=(hb4.ext hfn7).b2s c1
 simp (implicitDefEqProofs:=false) only [go_sem,wv,hc9,hbs]
 refine NewS_intro fun H9 hn9 hf9 hs9'=>?_
 have hb9:BsR H9 (some ⟨H8.size,0,none⟩) [5,2,4,0]:=by
  refine .inr ⟨_,_,rfl,fun j hj=>?_⟩
  rw [Nat.zero_add,hn9.cell]
  have:([5,2,4,0]:List UInt8).map bv=[.int .u8 5,.int .u8 2,.int .u8 4,.int .u8 0]:=rfl
  rw [← this,List.getElem?_map,List.getElem?_eq_getElem hj]; rfl
 have hsl:=sealed_ok (c:=4) hb9 (by decide)
 rw [show ([5,2,4,0]:List UInt8).length=4 from rfl] at hsl
 have hbs9:=(hb4.ext (hfn7.trans hf9)).b2s c1
 simp (implicitDefEqProofs:=false) only [go_sem,hbs9]
 refine hsl.mono ?_
 rintro v H10 ⟨a10,c10,g10,rfl,ho10,hg10,hf10⟩
 have hFx:=hfn7.trans (hf9.trans hf10)
 have hbs10:=(hb4.ext hFx).b2s c1
 have hbt10:=ho10.bsR.b2s c10
 have hcm:=(hn4.ext hFx).cell
 simp (implicitDefEqProofs:=false) only [go_sem,hbs10,hbt10,hcm,hk5,hs5,hd5]
 have hF10:=hF4.trans hFx
 refine (check'_ok (m:=m6) (cs:=mcells 6 0 0 0) (mcells_rep 6 0 0 0 H10) (okM_zero 6 0 0 0 (by omega) (by omega) (by omega) (by omega)) (fun h=>by have:formB m6=false:=(by decide); rw [this] at h; cases h)).mono ?_
 rintro v H11 ⟨rfl,hf11⟩
 have e6:(encO m6).2=1:=by decide
 have hcm11:=(hn4.ext (hFx.trans hf11)).cell
 have hbs11:=(hb4.ext (hFx.trans hf11)).b2s c1
 have hbt11:=(ho10.bsR.ext hf11).b2s c10
 simp (implicitDefEqProofs:=false) only [go_sem,e6,hcm11,hbs11,hbt11,hk5,hs5,hd5]
 refine (check'_ok (m:=m5s) (cs:=mcells 5 0 0 1) (mcells_rep 5 0 0 1 H11) (okM_zero 5 0 0 1 (by omega) (by omega) (by omega) (by omega)) (fun h=>by have:formB m5s=false:=(by decide); rw [this] at h; cases h)).mono ?_
 rintro v H12 ⟨rfl,hf12⟩
 have e5:(encO m5s).2=1:=by decide
 have hFy:=hFx.trans (hf11.trans hf12)
 have hcm12:=(hn4.ext hFy).cell
 have hbs12:=(hb4.ext hFy).b2s c1
 have hbt12:=(ho10.bsR.ext (hf11.trans hf12)).b2s c10
 simp (implicitDefEqProofs:=false) only [go_sem,e5,hcm12,hbs12,hbt12,hk5,hs5,hd5]
 have heq:=smsg_ok.2 m512.tup m512.tup (Rep.ext hrep (hfn.trans hFy)) (mcells_rep 5 1 2 0 H12)
 rw [hcs] at heq
 refine heq.mono ?_
 rintro v H13 ⟨rfl,hf13⟩
 rw [eqB_true rfl]
 have hFz:=hFy.trans hf13
 have hcm13:=(hn4.ext hFz).cell
 have hbs13:=(hb4.ext hFz).b2s c1
 have hbt13:=(ho10.bsR.ext (hf11.trans (hf12.trans hf13))).b2s c10
 simp (implicitDefEqProofs:=false) only [go_sem,hcm13,hbs13,hbt13,hk5,hs5,hd5]
 exact hF4.trans hFz
end Go.Proofs.YtdhlibkdcldioaaGreat
end
section
set_option linter.unusedSimpArgs false
set_option linter.unusedVariables false
set_option maxRecDepth 8000
namespace Go.Proofs.YtdhlibkdcldioaaGreat
open Gx Go
theorem decF_ok {L:Bs} {m:Msg} (hL:L.length < 2^63) (h:decF L=some m):okM m:=by
 unfold decF at h
 split at h
 ·rename_i m' hm
  split at h
  ·cases h; exact decM_ok hL hm
  ·cases h
 ·cases h
theorem Own.cap_max {H:Heap} {e z n c:Nat} {a:Option Addr} {xs:List Value} {g:Option Nat} (h:Own H e z (.slice a n c) n xs g):c≤maxLen:=by
 rcases h.2 with ⟨_,e,_⟩ | ⟨b,cap,cur,_,e,_,_,h5,_⟩
 ·simp only [Value.slice.injEq] at e; obtain ⟨_,_,rfl⟩:=e; decide
 ·simp only [Value.slice.injEq] at e; obtain ⟨_,_,rfl⟩:=e; exact h5
end Go.Proofs.YtdhlibkdcldioaaGreat
end
section
set_option linter.unusedSimpArgs false
set_option linter.unusedVariables false
set_option maxRecDepth 8000
namespace Go.Proofs.YtdhlibkdcldioaaGreat
open Gx Go
theorem zero_ok:okM Msg.zero:=okM_zero 0 0 0 0 (by omega) (by omega) (by omega) (by omega)
theorem zero_all:(encT tMsg Msg.zero.tup).length < 2^37:=by
 have e0:=enc0_len
 have ez:=zero_len
 simp only [Msg.zero,Msg.tup,encT,List.length_append,List.length_nil,List.flatMap_nil] at ez ⊢
 omega
theorem decA_facts {Z:Bs} (h:Z.length≤4000):okM (decA Z).1∧(encT tMsg (decA Z).1.tup).length < 2^37∧((formB (decA Z).1=true→(encM (decA Z).1).length≤2^24 - 4))∧((decA Z).2=0→encO (decA Z).1=(Z,0)):=by
 have hz:okM Msg.zero∧(encT tMsg Msg.zero.tup).length < 2^37∧(formB Msg.zero=true→(encM Msg.zero).length≤2^24 - 4)∧((2:Int)=0→encO Msg.zero=(Z,0)):=⟨zero_ok,zero_all,fun h=>by have:=(form_head h).1; simp [Msg.zero] at this,fun h=>by omega⟩
 unfold decA
 rw [if_neg (by omega)]
 by_cases h4:Z.length < 4
 ·rw [if_pos h4]; exact hz
 rw [if_neg h4]
 by_cases hs:sealB (Z.take (Z.length - 4))=Z
 case neg=>rw [if_neg hs]; exact hz
 rw [if_pos hs]
 have hl:(Z.take (Z.length - 4)).length≤4000:=by rw [List.length_take]; omega
 cases hd:decF (Z.take (Z.length - 4)) with
 | none=>exact hz
 | some m=>
   obtain ⟨h1,h2⟩:=decF_some hd
   have h3:=all_len h2
   rw [h1] at h3
   refine ⟨decF_ok (by omega) hd,by show (encT tMsg m.tup).length < _; omega,fun _=>by show (encM m).length≤_; rw [h1]; omega,fun _=>?_⟩
   show encO m=_
   unfold encO
   rw [if_pos h2,h1,hs]
set_option maxHeartbeats 8000000 in
theorem decodes_law {Z:Bs} {H:Heap} {a:Option Addr} {c:Nat} (h:BsR H a Z) (hc:Z.length≤c) (hcm:c≤maxLen) (t:Bool):HCalls Tryz.prog 6 #[.slice a Z.length c,.bool t] H fun v H'=>v= .bool true∧Fr [] H H':=by
 refine calls_of_vc (args:=[_,_]) Tryz.func6 c6ok (Nat.le_of_ble_eq_true rfl) ?_
 by_cases h3:3000 < Z.length
 ·have h3':(3000:Int) < (Z.length:Int):=by omega
  simp (implicitDefEqProofs:=false) only [go_sem,c6,h3']
  refine (awake_ok _).mono ?_
  rintro v H1 ⟨rfl,hf⟩
  simp (implicitDefEqProofs:=false) only [go_sem]
  exact hf
 have h3':¬ (3000:Int) < (Z.length:Int):=by omega
 simp (implicitDefEqProofs:=false) only [go_sem,c6,h3']
 cases t
 case' false=>
  obtain ⟨K,hK⟩:∃ K,K=H:=⟨_,rfl⟩
  have hF:Fr [] H K:=by rw [hK]; exact Fr.refl _ _
  have hb:BsR K a Z:=by rw [hK]; exact h
  have hZ:Z.length≤3004:=by omega
  rw [← hK] at hF
  simp (implicitDefEqProofs:=false) only [go_sem]
  rw [← hK]
 case' true=>
  simp (implicitDefEqProofs:=false) only [go_sem]
  refine (sealed_ok h (by omega)).mono ?_
  rintro v K ⟨a,c,g,rfl,ho,hg,hF⟩
  have hb:=ho.bsR
  have hcm:=Own.cap_max ho
  have hc:=ho.cap_le
  have hZ:(sealB Z).length≤3004:=by rw [sealB_len]; omega
  generalize sealB Z=Z at *
  simp (implicitDefEqProofs:=false) only [go_sem]
 all_goals
  obtain ⟨q1,q2,q3,q4⟩:=decA_facts (Z:=Z) (by omega)
  refine (decode_ok hb (by omega) hc hcm).mono ?_
  rintro v H1 ⟨ds,rfl,hrep,hf1⟩
  obtain ⟨a_reads,c_reads,a_base,c_base,a_state,c_state,a_acks,c_acks,a_proof,c_proof,a_digests,c_digests,a_objects,c_objects,a_items,c_items,hcs,_⟩:=msg_open hrep
  have hone:=rep_one (t:=tMsg) hrep
  simp (implicitDefEqProofs:=false) only [go_sem,hcs]
  refine NewP_intro fun H2 hn2 hf2 hs2=>?_
  simp (implicitDefEqProofs:=false) only [go_sem]
  refine Sto_all hn2 rfl (by rw [← hcs]; exact hone) fun H3 hn3 hf3 hs3=>?_
  have hfn:=new_fr hf2 hf3
  simp (implicitDefEqProofs:=false) only [go_sem]
  refine (fdecode_ok (hb.ext (hf1.trans hfn)) (by omega) hc hcm).mono ?_
  rintro v H4 ⟨es,rfl,hrep',hf4⟩
  obtain ⟨e_reads,f_reads,e_base,f_base,e_state,f_state,e_acks,f_acks,e_proof,f_proof,e_digests,f_digests,e_objects,f_objects,e_items,f_items,hcs',_⟩:=msg_open hrep'
  have hone':=rep_one (t:=tMsg) hrep'
  simp (implicitDefEqProofs:=false) only [go_sem,hcs']
  refine NewP_intro fun H5 hn5 hf5 hs5=>?_
  simp (implicitDefEqProofs:=false) only [go_sem]
  refine Sto_all hn5 rfl (by rw [← hcs']; exact hone') fun H6 hn6 hf6 hs6=>?_
  have hfm:=new_fr hf5 hf6
  have hF4:=hf4.trans hfm
  have hF6:=hF.trans ((hf1.trans hfn).trans hF4)
  have hm3:=(hn3.ext hF4).cell
  have hm6:=hn6.cell
  simp (implicitDefEqProofs:=false) only [go_sem,hm3,hm6]
  rw [← hcs,← hcs']
  refine (fequal_ok (Rep.ext hrep (hfn.trans hF4)) (Rep.ext hrep' hfm) q1 q1 q2 q2).mono ?_
  rintro v H7 ⟨rfl,hf7⟩
  rw [eqB_true rfl]
  by_cases h0:(decA Z).2=0
  case neg=>
   simp (implicitDefEqProofs:=false) only [go_sem,h0]
   refine (awake_ok _).mono ?_
   rintro v H8 ⟨rfl,hf8⟩
   simp (implicitDefEqProofs:=false) only [go_sem]
   exact hF6.trans (hf7.trans hf8)
  have hm7:=(hn3.ext (hF4.trans hf7)).cell
  simp (implicitDefEqProofs:=false) only [go_sem,h0,hm7]
  rw [← hcs]
  refine (encode_ok (Rep.ext hrep ((hfn.trans hF4).trans hf7)) q1 q3).mono ?_
  rintro v H8 ⟨a8,c8,g8,rfl,ho8,hg8,hf8⟩
  have e8:=q4 h0
  rw [e8] at ho8 ⊢
  simp (implicitDefEqProofs:=false) only [go_sem]
  refine (awake_ok _).mono ?_
  rintro v H9 ⟨rfl,hf9⟩
  have hb9:=(hb.ext (((hf1.trans hfn).trans hF4).trans (hf7.trans (hf8.trans hf9)))).b2s c
  have hb8:=(ho8.bsR.ext hf9).b2s c8
  simp (implicitDefEqProofs:=false) only [go_sem,hb9,hb8,str_inj]
  exact hF6.trans (hf7.trans (hf8.trans hf9))
end Go.Proofs.YtdhlibkdcldioaaGreat
end
