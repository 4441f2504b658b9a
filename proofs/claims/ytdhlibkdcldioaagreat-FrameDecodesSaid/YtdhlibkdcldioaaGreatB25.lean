import Derived.Test.YtdhlibkdcldioaaGreatB20
import Derived.Test.YtdhlibkdcldioaaGreatB23
import Derived.Test.YtdhlibkdcldioaaGreatB24
section
set_option linter.unusedSimpArgs false
set_option linter.unusedVariables false
set_option maxRecDepth 8000
namespace Go.Proofs.YtdhlibkdcldioaaGreat
open Gx Go
theorem res_none {Z:Bs} {m:Msg} {q:Pl} (h:msgO Z=none) (hk:m.kind=0):decF Z=if q=some Z.length∧formB m=true then some m else none:=by
 rw [decF_msgO,h,if_neg]
 rintro ⟨_,h⟩
 have:=(form_head h).1
 omega
theorem res_some {Z:Bs} {m:Msg} {q:Pl} (h:msgO Z=some (m,q)):decF Z=if q=some Z.length∧formB m=true then some m else none:=by
 rw [decF_msgO,h]
theorem in_start {H0 H:Heap} {a:Option Addr} {c b:Nat} {Z:Bs} (h0:BsR H0 a Z) (hf:Fr [] H0 H) (hz:Z.length < 2^40) (hc:Z.length≤c) (hb:Blk H b 77 [.slice a Z.length c,.int .i64 0,.int .i64 0,.bool false]) (hn:H0.size≤b):InO H H0.size b Z (some 0):=by
 refine ⟨0,a,c,hb,h0.ext hf,fun b' o e hne=>?_,Nat.zero_le _,Nat.zero_le _,hz,hc⟩
 rcases h0 with h | ⟨b2,o2,e2,hcell⟩
 ·exact absurd h hne
 ·rw [e2] at e
  simp only [Option.some.injEq,Addr.mk.injEq] at e
  obtain ⟨rfl,rfl,_⟩:=e
  have:=cellB_lt (hcell 0 (by cases Z with | nil=>exact absurd rfl hne | cons x r=>simp))
  omega
set_option maxHeartbeats 8000000 in
theorem fdecode_ok {H:Heap} {a:Option Addr} {c:Nat} {Z:Bs} (h:BsR H a Z) (hl:Z.length < 2^36) (hc:Z.length≤c) (hcm:c≤maxLen):HCalls Tryz.prog 22 #[.slice a Z.length c] H fun v H'=>
 ∃ cs,v= .tuple #[.agg (List.toArray cs),.int .i64 (decA Z).2]∧Rep H' [] (datT tMsg (decA Z).1.tup) cs∧Fr [] H H':=by
 have L:Lv [] H [] (fun _=>True) H [] []:=Lv.start (by simp) fun _ _ _ _=>trivial
 refine calls_of_vc (args:=[_]) Tryz.func22 c22ok (Nat.le_of_ble_eq_true rfl) ?_
 simp (implicitDefEqProofs:=false) only [go_sem,c22]
 refine Lv.newP L fun b2 H1 L=>?_
 unfold maxLen at hcm
 unfold decA
 by_cases h24:2^24 < Z.length
 ·have h24':(16777216:Int) < (Z.length:Int):=by omega
  rw [if_pos h24]
  simp (implicitDefEqProofs:=false) only [go_sem,h24']
  refine Lv.stoAll L 0 rfl rfl (by simp [Value.oneCell']) fun B L=>?_
  simp only [List.set_cons_zero,List.set_cons_succ,List.set_nil,List.eraseIdx_cons_zero,List.eraseIdx_cons_succ] at L
  have cB:=L.cell 0 rfl
  simp (implicitDefEqProofs:=false) only [go_sem,cB]
  exact ⟨zeroM,rfl,zeroM_rep _,L.fr⟩
 have h24':¬ (16777216:Int) < (Z.length:Int):=by omega
 rw [if_neg h24]
 by_cases h4:Z.length < 4
 ·have h4':(Z.length:Int) < 4:=by omega
  rw [if_pos h4]
  simp (implicitDefEqProofs:=false) only [go_sem,h24',h4']
  refine Lv.stoAll L 0 rfl rfl (by simp [Value.oneCell']) fun B L=>?_
  simp only [List.set_cons_zero,List.set_cons_succ,List.set_nil,List.eraseIdx_cons_zero,List.eraseIdx_cons_succ] at L
  have cB:=L.cell 0 rfl
  simp (implicitDefEqProofs:=false) only [go_sem,cB]
  exact ⟨zeroM,rfl,zeroM_rep _,L.fr⟩
 have h4':¬ (Z.length:Int) < 4:=by omega
 rw [if_neg h4]
 obtain ⟨n,hn⟩:∃ n,n=Z.length - 4:=⟨_,rfl⟩
 have hsub:IntKind.i64.wrap ((Z.length:Int) - 4)=(n:Int):=by rw [wrap_i64_id _ (by omega) (by omega)]; omega
 rw [← hn]
 have hb1:(0:Int)≤(n:Int)∧(n:Int)≤(Z.length:Int):=by omega
 have hb2:(n:Int)≤(c:Int):=by omega
 have htake:(Z.take n).length=n:=by rw [List.length_take]; omega
 have hbs:BsR H a (Z.take n):=h.take n
 have hsum:=fun {H':Heap} (hf:Fr [] H H')=>sealed_ok (c:=c) (hbs.ext hf) (by omega)
 rw [htake] at hsum
 have hb0:=(h.ext L.fr).b2s c
 simp (implicitDefEqProofs:=false) only [go_sem,h24',h4',hsub,hb1,hb2,hb0]
 refine (hsum L.fr).mono ?_
 rintro v H2 ⟨a3,c3,g3,rfl,ho3,hg3,hf3⟩
 have L:=L.ext hf3
 have hb3:=ho3.bsR.b2s c3
 have hb0:=(h.ext L.fr).b2s c
 by_cases hs:sealB (Z.take n)=Z
 case neg=>
  rw [if_neg hs]
  simp (implicitDefEqProofs:=false) only [go_sem,hb3,hb0,str_inj,hs]
  refine Lv.stoAll L 0 rfl rfl (by simp [Value.oneCell']) fun B L=>?_
  simp only [List.set_cons_zero,List.set_cons_succ,List.set_nil,List.eraseIdx_cons_zero,List.eraseIdx_cons_succ] at L
  have cB:=L.cell 0 rfl
  simp (implicitDefEqProofs:=false) only [go_sem,cB]
  exact ⟨zeroM,rfl,zeroM_rep _,L.fr⟩
 rw [if_pos hs]
 have hs':=eq_true hs
 simp (implicitDefEqProofs:=false) only [go_sem,hb3,hb0,str_inj,hs',h24',hsub,hb1,hb2]
 refine NewP_intro fun H4 hn4 hf4 _=>?_
 have hin:InO H4 H.size H2.size (Z.take n) (some 0):=in_start (c:=c) hbs (L.fr.trans hf4) (by omega) (by omega) (by rw [htake]; exact hn4) L.fr.size
 have L:=Lv.step L hf4 (by simp) (O':=[H2.size]) (S':=fun H''=>H.size≤H.size∧InO H'' H.size H2.size (Z.take n) (some 0)) (by simp; exact hn4.lt) fun M H'' hf hM=>⟨Nat.le_refl _,hin.fr hf (fun hm=>(hM _ hm).2 (by simp)) fun x hx=>(hM x hx).1⟩
 have hsz:=L.fr.size
 generalize H2.size=b at L
 have hlz:(Z.take n).length < 2^36:=by omega
 obtain ⟨Z',hZ'⟩:∃ Z',Z'=Z.take n:=⟨_,rfl⟩
 rw [← hZ'] at L htake hlz ⊢
 obtain ⟨k,q1,e0⟩:∃ k s,uintO Z' (some 0)=(k,s):=⟨_,_,rfl⟩
 obtain ⟨d1,q2,e1⟩:∃ d s,dT Z' .num q1=(d,s):=⟨_,_,rfl⟩
 obtain ⟨d2,q3,e2⟩:∃ d s,dT Z' .num q2=(d,s):=⟨_,_,rfl⟩
 have hM:msgO Z'=if 8 < k then none else if k=0 then some ({ Msg.zero with src:=d1,dst:=d2 },q3) else some (mkM k d1 d2 (dT Z' (payT k) q3).1,(dT Z' (payT k) q3).2):=by
  unfold msgO
  rw [e0]
  simp only [e1,e2]
 have hk64:k < 2^64:=by have:=uintO_lt Z' (some 0); rw [e0] at this; exact this
 simp (implicitDefEqProofs:=false) only [go_sem]
 refine Lv.newP L fun b5 H5 L=>?_
 simp (implicitDefEqProofs:=false) only [go_sem]
 refine Lv.stoAll L 0 rfl rfl (by simp [Value.oneCell']) fun H6 L=>?_
 simp only [List.set_cons_zero,List.set_cons_succ,List.set_nil,List.eraseIdx_cons_zero,List.eraseIdx_cons_succ] at L
 simp (implicitDefEqProofs:=false) only [go_sem]
 refine (iuint_o L.io).mono ?_
 rintro v X0 ⟨rfl,hs0,hf0⟩
 rw [e0] at hs0 ⊢
 have L:=L.callI hf0 hs0
 have hkc:8 < k∨k=0∨k=1∨k=2∨k=3∨k=4∨k=5∨k=6∨k=7∨k=8:=by omega
 have w0:IntKind.i64.wrap ((0:Nat):Int)=0:=rfl
 rcases hkc with hk | hk | hk | hk | hk | hk | hk | hk | hk | hk
 case' inl=>
  have hk':¬ (k:Int)≤8:=by omega
  rw [if_pos hk] at hM
  simp (implicitDefEqProofs:=false) only [go_sem,hk']
  refine (fin_ok L.io).mono ?_
  rintro v X1 ⟨rfl,hs1,hf1⟩
  rw [e1] at hs1 ⊢
  have L:=L.callI hf1 hs1
  simp (implicitDefEqProofs:=false) only [go_sem]
  refine Lv.stoOne L 0 rfl (by simp) rfl fun Y1 L=>?_
  simp only [List.set_cons_zero,List.set_cons_succ,List.set_nil,List.eraseIdx_cons_zero,List.eraseIdx_cons_succ] at L
  simp (implicitDefEqProofs:=false) only [go_sem]
  refine (fin_ok L.io).mono ?_
  rintro v X2 ⟨rfl,hs2,hf2⟩
  rw [e2] at hs2 ⊢
  have L:=L.callI hf2 hs2
  simp (implicitDefEqProofs:=false) only [go_sem]
  refine Lv.stoOne L 0 rfl (by simp) rfl fun Y2 L=>?_
  simp only [List.set_cons_zero,List.set_cons_succ,List.set_nil,List.eraseIdx_cons_zero,List.eraseIdx_cons_succ] at L
  have c5:=L.cell 0 rfl
  simp (implicitDefEqProofs:=false) only [go_sem,c5]
  have hres:=res_none (m:=({ Msg.zero with src:=d1,dst:=d2 }:Msg)) (q:=q3) hM rfl
  obtain ⟨qe,hqe⟩:∃ q,q=q3:=⟨_,rfl⟩
  obtain ⟨mm,hmm⟩:∃ m,m=({ Msg.zero with src:=d1,dst:=d2 }:Msg):=⟨_,rfl⟩
  rw [← hqe] at L
  rw [← hqe,← hmm] at hres
  have L:=Lv.add L (show RepP _ _ (datT tMsg mm.tup) [.int .i64 0,.int .i64 d1,.int .i64 d2,.int .i64 0,.int .i64 0,.int .i64 0,.slice none 0 0,.slice none 0 0,.slice none 0 0,.slice none 0 0,.slice none 0 0,.slice none 0 0,.slice none 0 0,.int .i64 0,.slice none 0 0] by rw [hmm]; exact RepP.pair (RepP.v _) (RepP.pair (RepP.v _) (RepP.pair (RepP.v _) (RepP.pair (RepP.pair (RepP.v _) (RepP.pair (RepP.v _) (RepP.v _))) (RepP.pair (RepP.nil _) (RepP.pair (RepP.nil _) (RepP.pair (RepP.nil _) (RepP.pair (RepP.nil _) (RepP.pair (RepP.nil _) (RepP.pair (RepP.nil _) (RepP.pair (RepP.nil _) (RepP.pair (RepP.v _) (RepP.nil _)))))))))))))
 case' inr.inl=>
  have hki:(k:Int)=0:=by omega
  have hle:(0:Int)≤8:=by decide
  have hw:IntKind.i64.wrap 0=0:=rfl
  rw [if_neg (by omega),if_pos hk] at hM
  simp (implicitDefEqProofs:=false) only [go_sem,hki,hle,hw]
  refine Lv.stoOne L 0 rfl (by simp) rfl fun Y0 L=>?_
  simp only [List.set_cons_zero,List.set_cons_succ,List.set_nil,List.eraseIdx_cons_zero,List.eraseIdx_cons_succ] at L
  simp (implicitDefEqProofs:=false) only [go_sem]
  refine (fin_ok L.io).mono ?_
  rintro v X1 ⟨rfl,hs1,hf1⟩
  rw [e1] at hs1 ⊢
  have L:=L.callI hf1 hs1
  simp (implicitDefEqProofs:=false) only [go_sem]
  refine Lv.stoOne L 0 rfl (by simp) rfl fun Y1 L=>?_
  simp only [List.set_cons_zero,List.set_cons_succ,List.set_nil,List.eraseIdx_cons_zero,List.eraseIdx_cons_succ] at L
  simp (implicitDefEqProofs:=false) only [go_sem]
  refine (fin_ok L.io).mono ?_
  rintro v X2 ⟨rfl,hs2,hf2⟩
  rw [e2] at hs2 ⊢
  have L:=L.callI hf2 hs2
  simp (implicitDefEqProofs:=false) only [go_sem]
  refine Lv.stoOne L 0 rfl (by simp) rfl fun Y2 L=>?_
  simp only [List.set_cons_zero,List.set_cons_succ,List.set_nil,List.eraseIdx_cons_zero,List.eraseIdx_cons_succ] at L
  have c5:=L.cell 0 rfl
  simp (implicitDefEqProofs:=false) only [go_sem,c5]
  have hres:=res_some (m:=({ Msg.zero with src:=d1,dst:=d2 }:Msg)) (q:=q3) hM
  obtain ⟨qe,hqe⟩:∃ q,q=q3:=⟨_,rfl⟩
  obtain ⟨mm,hmm⟩:∃ m,m=({ Msg.zero with src:=d1,dst:=d2 }:Msg):=⟨_,rfl⟩
  rw [← hqe] at L
  rw [← hqe,← hmm] at hres
  have L:=Lv.add L (show RepP _ _ (datT tMsg mm.tup) [.int .i64 0,.int .i64 d1,.int .i64 d2,.int .i64 0,.int .i64 0,.int .i64 0,.slice none 0 0,.slice none 0 0,.slice none 0 0,.slice none 0 0,.slice none 0 0,.slice none 0 0,.slice none 0 0,.int .i64 0,.slice none 0 0] by rw [hmm]; exact RepP.pair (RepP.v _) (RepP.pair (RepP.v _) (RepP.pair (RepP.v _) (RepP.pair (RepP.pair (RepP.v _) (RepP.pair (RepP.v _) (RepP.v _))) (RepP.pair (RepP.nil _) (RepP.pair (RepP.nil _) (RepP.pair (RepP.nil _) (RepP.pair (RepP.nil _) (RepP.pair (RepP.nil _) (RepP.pair (RepP.nil _) (RepP.pair (RepP.nil _) (RepP.pair (RepP.v _) (RepP.nil _)))))))))))))
 case' inr.inr.inl=>
  have hki:(k:Int)=1:=by omega
  have hle:(1:Int)≤8:=by decide
  have hw:IntKind.i64.wrap 1=1:=rfl
  rw [if_neg (by omega),if_neg (by omega),hk] at hM
  simp (implicitDefEqProofs:=false) only [go_sem,hki,hle,hw]
  refine Lv.stoOne L 0 rfl (by simp) rfl fun Y0 L=>?_
  simp only [List.set_cons_zero,List.set_cons_succ,List.set_nil,List.eraseIdx_cons_zero,List.eraseIdx_cons_succ] at L
  simp (implicitDefEqProofs:=false) only [go_sem]
  refine (fin_ok L.io).mono ?_
  rintro v X1 ⟨rfl,hs1,hf1⟩
  rw [e1] at hs1 ⊢
  have L:=L.callI hf1 hs1
  simp (implicitDefEqProofs:=false) only [go_sem]
  refine Lv.stoOne L 0 rfl (by simp) rfl fun Y1 L=>?_
  simp only [List.set_cons_zero,List.set_cons_succ,List.set_nil,List.eraseIdx_cons_zero,List.eraseIdx_cons_succ] at L
  simp (implicitDefEqProofs:=false) only [go_sem]
  refine (fin_ok L.io).mono ?_
  rintro v X2 ⟨rfl,hs2,hf2⟩
  rw [e2] at hs2 ⊢
  have L:=L.callI hf2 hs2
  simp (implicitDefEqProofs:=false) only [go_sem]
  refine Lv.stoOne L 0 rfl (by simp) rfl fun Y2 L=>?_
  simp only [List.set_cons_zero,List.set_cons_succ,List.set_nil,List.eraseIdx_cons_zero,List.eraseIdx_cons_succ] at L
  have c5:=L.cell 0 rfl
  simp (implicitDefEqProofs:=false) only [go_sem,c5]
  obtain ⟨d3,q4,e3⟩:∃ d s,dT Z' tRound q3=(d,s):=⟨_,_,rfl⟩
  obtain ⟨d4,q5,e4⟩:∃ d s,dT Z' (.list tRead) q4=(d,s):=⟨_,_,rfl⟩
  obtain ⟨d5,q6,e5⟩:∃ d s,dT Z' (.list tBase) q5=(d,s):=⟨_,_,rfl⟩
  obtain ⟨d6,q7,e6⟩:∃ d s,dT Z' (.list tCmd) q6=(d,s):=⟨_,_,rfl⟩
  refine (takeRound_ok L.ge L.io).mono ?_
  rintro v X3 ⟨cs,rfl,hr3,hs3,hf3⟩
  rw [e3] at hs3 hr3
  obtain ⟨y3_0,y3_1,y3_2,rfl⟩:=len3 (rep_wid hr3.rep)
  have ho3:=rep_one hr3.rep
  have L:=L.got hf3 hs3 hr3
  simp (implicitDefEqProofs:=false) only [go_sem]
  refine Lv.stoMany L 0 rfl (by simp) ho3 fun Y3 L=>?_
  simp only [setL] at L
  simp only [List.set_cons_zero,List.set_cons_succ,List.set_nil,List.eraseIdx_cons_zero,List.eraseIdx_cons_succ] at L
  simp (implicitDefEqProofs:=false) only [go_sem]
  refine (takeReads_ok L.ge hlz L.io).mono ?_
  rintro v X4 ⟨cs,rfl,hr4,hs4,hf4⟩
  rw [e4] at hs4 hr4
  obtain ⟨a4,cc4,rfl,_⟩:=rep_list hr4.rep
  have L:=L.got hf4 hs4 hr4
  simp (implicitDefEqProofs:=false) only [go_sem]
  refine Lv.stoOne L 0 rfl (by simp) rfl fun Y4 L=>?_
  simp only [List.set_cons_zero,List.set_cons_succ,List.set_nil,List.eraseIdx_cons_zero,List.eraseIdx_cons_succ] at L
  simp (implicitDefEqProofs:=false) only [go_sem]
  refine (takeBases_ok L.ge hlz L.io).mono ?_
  rintro v X5 ⟨cs,rfl,hr5,hs5,hf5⟩
  rw [e5] at hs5 hr5
  obtain ⟨a5,cc5,rfl,_⟩:=rep_list hr5.rep
  have L:=L.got hf5 hs5 hr5
  simp (implicitDefEqProofs:=false) only [go_sem]
  refine Lv.stoOne L 0 rfl (by simp) rfl fun Y5 L=>?_
  simp only [List.set_cons_zero,List.set_cons_succ,List.set_nil,List.eraseIdx_cons_zero,List.eraseIdx_cons_succ] at L
  simp (implicitDefEqProofs:=false) only [go_sem]
  refine (takeCommands_ok L.ge hlz L.io).mono ?_
  rintro v X6 ⟨cs,rfl,hr6,hs6,hf6⟩
  rw [e6] at hs6 hr6
  obtain ⟨a6,cc6,rfl,_⟩:=rep_list hr6.rep
  have L:=L.got hf6 hs6 hr6
  simp (implicitDefEqProofs:=false) only [go_sem]
  refine Lv.stoOne L 0 rfl (by simp) rfl fun Y6 L=>?_
  simp only [List.set_cons_zero,List.set_cons_succ,List.set_nil,List.eraseIdx_cons_zero,List.eraseIdx_cons_succ] at L
  simp (implicitDefEqProofs:=false) only [go_sem]
  have hP:dT Z' (payT 1) q3=((d3,d4,d5,d6),q7):=by
   show dT Z' (.pair tRound (.pair (.list tRead) (.pair (.list tBase) ((.list tCmd))))) q3=_
   simp only [dT_pair,e3,e4,e5,e6]
  have hres:=res_some (m:=mkM 1 d1 d2 (d3,d4,d5,d6)) (q:=q7) (by rw [hM,hP])
  obtain ⟨qe,hqe⟩:∃ q,q=q7:=⟨_,rfl⟩
  obtain ⟨mm,hmm⟩:∃ m,m=mkM 1 d1 d2 (d3,d4,d5,d6):=⟨_,rfl⟩
  rw [← hqe] at L
  rw [← hqe,← hmm] at hres
  have L:=Lv.add L (show RepP _ _ (datT tMsg mm.tup) [.int .i64 1,.int .i64 d1,.int .i64 d2,y3_0,y3_1,y3_2,.slice a4 d4.length cc4,.slice a5 d5.length cc5,.slice a6 d6.length cc6,.slice none 0 0,.slice none 0 0,.slice none 0 0,.slice none 0 0,.int .i64 0,.slice none 0 0] by rw [hmm]; exact RepP.pair (RepP.v _) (RepP.pair (RepP.v _) (RepP.pair (RepP.v _) (RepP.pair (L.dat (datT tRound d3,[y3_0,y3_1,y3_2]) (by simp)) (RepP.pair (L.dat (datT (.list tRead) d4,[.slice a4 d4.length cc4]) (by simp)) (RepP.pair (L.dat (datT (.list tBase) d5,[.slice a5 d5.length cc5]) (by simp)) (RepP.pair (L.dat (datT (.list tCmd) d6,[.slice a6 d6.length cc6]) (by simp)) (RepP.pair (RepP.nil _) (RepP.pair (RepP.nil _) (RepP.pair (RepP.nil _) (RepP.pair (RepP.nil _) (RepP.pair (RepP.v _) (RepP.nil _)))))))))))))
 case' inr.inr.inr.inl=>
  have hki:(k:Int)=2:=by omega
  have hle:(2:Int)≤8:=by decide
  have hw:IntKind.i64.wrap 2=2:=rfl
  rw [if_neg (by omega),if_neg (by omega),hk] at hM
  simp (implicitDefEqProofs:=false) only [go_sem,hki,hle,hw]
  refine Lv.stoOne L 0 rfl (by simp) rfl fun Y0 L=>?_
  simp only [List.set_cons_zero,List.set_cons_succ,List.set_nil,List.eraseIdx_cons_zero,List.eraseIdx_cons_succ] at L
  simp (implicitDefEqProofs:=false) only [go_sem]
  refine (fin_ok L.io).mono ?_
  rintro v X1 ⟨rfl,hs1,hf1⟩
  rw [e1] at hs1 ⊢
  have L:=L.callI hf1 hs1
  simp (implicitDefEqProofs:=false) only [go_sem]
  refine Lv.stoOne L 0 rfl (by simp) rfl fun Y1 L=>?_
  simp only [List.set_cons_zero,List.set_cons_succ,List.set_nil,List.eraseIdx_cons_zero,List.eraseIdx_cons_succ] at L
  simp (implicitDefEqProofs:=false) only [go_sem]
  refine (fin_ok L.io).mono ?_
  rintro v X2 ⟨rfl,hs2,hf2⟩
  rw [e2] at hs2 ⊢
  have L:=L.callI hf2 hs2
  simp (implicitDefEqProofs:=false) only [go_sem]
  refine Lv.stoOne L 0 rfl (by simp) rfl fun Y2 L=>?_
  simp only [List.set_cons_zero,List.set_cons_succ,List.set_nil,List.eraseIdx_cons_zero,List.eraseIdx_cons_succ] at L
  have c5:=L.cell 0 rfl
  simp (implicitDefEqProofs:=false) only [go_sem,c5]
  obtain ⟨d3,q4,e3⟩:∃ d s,dT Z' tRound q3=(d,s):=⟨_,_,rfl⟩
  obtain ⟨d4,q5,e4⟩:∃ d s,dT Z' (.list tCmd) q4=(d,s):=⟨_,_,rfl⟩
  obtain ⟨d5,q6,e5⟩:∃ d s,dT Z' (.list tBase) q5=(d,s):=⟨_,_,rfl⟩
  obtain ⟨d6,q7,e6⟩:∃ d s,dT Z' (.list tAck) q6=(d,s):=⟨_,_,rfl⟩
  refine (takeRound_ok L.ge L.io).mono ?_
  rintro v X3 ⟨cs,rfl,hr3,hs3,hf3⟩
  rw [e3] at hs3 hr3
  obtain ⟨y3_0,y3_1,y3_2,rfl⟩:=len3 (rep_wid hr3.rep)
  have ho3:=rep_one hr3.rep
  have L:=L.got hf3 hs3 hr3
  simp (implicitDefEqProofs:=false) only [go_sem]
  refine Lv.stoMany L 0 rfl (by simp) ho3 fun Y3 L=>?_
  simp only [setL] at L
  simp only [List.set_cons_zero,List.set_cons_succ,List.set_nil,List.eraseIdx_cons_zero,List.eraseIdx_cons_succ] at L
  simp (implicitDefEqProofs:=false) only [go_sem]
  refine (takeCommands_ok L.ge hlz L.io).mono ?_
  rintro v X4 ⟨cs,rfl,hr4,hs4,hf4⟩
  rw [e4] at hs4 hr4
  obtain ⟨a4,cc4,rfl,_⟩:=rep_list hr4.rep
  have L:=L.got hf4 hs4 hr4
  simp (implicitDefEqProofs:=false) only [go_sem]
  refine Lv.stoOne L 0 rfl (by simp) rfl fun Y4 L=>?_
  simp only [List.set_cons_zero,List.set_cons_succ,List.set_nil,List.eraseIdx_cons_zero,List.eraseIdx_cons_succ] at L
  simp (implicitDefEqProofs:=false) only [go_sem]
  refine (takeBases_ok L.ge hlz L.io).mono ?_
  rintro v X5 ⟨cs,rfl,hr5,hs5,hf5⟩
  rw [e5] at hs5 hr5
  obtain ⟨a5,cc5,rfl,_⟩:=rep_list hr5.rep
  have L:=L.got hf5 hs5 hr5
  simp (implicitDefEqProofs:=false) only [go_sem]
  refine Lv.stoOne L 0 rfl (by simp) rfl fun Y5 L=>?_
  simp only [List.set_cons_zero,List.set_cons_succ,List.set_nil,List.eraseIdx_cons_zero,List.eraseIdx_cons_succ] at L
  simp (implicitDefEqProofs:=false) only [go_sem]
  refine (takeAcks_ok L.ge hlz L.io).mono ?_
  rintro v X6 ⟨cs,rfl,hr6,hs6,hf6⟩
  rw [e6] at hs6 hr6
  obtain ⟨a6,cc6,rfl,_⟩:=rep_list hr6.rep
  have L:=L.got hf6 hs6 hr6
  simp (implicitDefEqProofs:=false) only [go_sem]
  refine Lv.stoOne L 0 rfl (by simp) rfl fun Y6 L=>?_
  simp only [List.set_cons_zero,List.set_cons_succ,List.set_nil,List.eraseIdx_cons_zero,List.eraseIdx_cons_succ] at L
  simp (implicitDefEqProofs:=false) only [go_sem]
  have hP:dT Z' (payT 2) q3=((d3,d4,d5,d6),q7):=by
   show dT Z' (.pair tRound (.pair (.list tCmd) (.pair (.list tBase) ((.list tAck))))) q3=_
   simp only [dT_pair,e3,e4,e5,e6]
  have hres:=res_some (m:=mkM 2 d1 d2 (d3,d4,d5,d6)) (q:=q7) (by rw [hM,hP])
  obtain ⟨qe,hqe⟩:∃ q,q=q7:=⟨_,rfl⟩
  obtain ⟨mm,hmm⟩:∃ m,m=mkM 2 d1 d2 (d3,d4,d5,d6):=⟨_,rfl⟩
  rw [← hqe] at L
  rw [← hqe,← hmm] at hres
  have L:=Lv.add L (show RepP _ _ (datT tMsg mm.tup) [.int .i64 2,.int .i64 d1,.int .i64 d2,y3_0,y3_1,y3_2,.slice none 0 0,.slice a5 d5.length cc5,.slice a4 d4.length cc4,.slice a6 d6.length cc6,.slice none 0 0,.slice none 0 0,.slice none 0 0,.int .i64 0,.slice none 0 0] by rw [hmm]; exact RepP.pair (RepP.v _) (RepP.pair (RepP.v _) (RepP.pair (RepP.v _) (RepP.pair (L.dat (datT tRound d3,[y3_0,y3_1,y3_2]) (by simp)) (RepP.pair (RepP.nil _) (RepP.pair (L.dat (datT (.list tBase) d5,[.slice a5 d5.length cc5]) (by simp)) (RepP.pair (L.dat (datT (.list tCmd) d4,[.slice a4 d4.length cc4]) (by simp)) (RepP.pair (L.dat (datT (.list tAck) d6,[.slice a6 d6.length cc6]) (by simp)) (RepP.pair (RepP.nil _) (RepP.pair (RepP.nil _) (RepP.pair (RepP.nil _) (RepP.pair (RepP.v _) (RepP.nil _)))))))))))))
 case' inr.inr.inr.inr.inl=>
  have hki:(k:Int)=3:=by omega
  have hle:(3:Int)≤8:=by decide
  have hw:IntKind.i64.wrap 3=3:=rfl
  rw [if_neg (by omega),if_neg (by omega),hk] at hM
  simp (implicitDefEqProofs:=false) only [go_sem,hki,hle,hw]
  refine Lv.stoOne L 0 rfl (by simp) rfl fun Y0 L=>?_
  simp only [List.set_cons_zero,List.set_cons_succ,List.set_nil,List.eraseIdx_cons_zero,List.eraseIdx_cons_succ] at L
  simp (implicitDefEqProofs:=false) only [go_sem]
  refine (fin_ok L.io).mono ?_
  rintro v X1 ⟨rfl,hs1,hf1⟩
  rw [e1] at hs1 ⊢
  have L:=L.callI hf1 hs1
  simp (implicitDefEqProofs:=false) only [go_sem]
  refine Lv.stoOne L 0 rfl (by simp) rfl fun Y1 L=>?_
  simp only [List.set_cons_zero,List.set_cons_succ,List.set_nil,List.eraseIdx_cons_zero,List.eraseIdx_cons_succ] at L
  simp (implicitDefEqProofs:=false) only [go_sem]
  refine (fin_ok L.io).mono ?_
  rintro v X2 ⟨rfl,hs2,hf2⟩
  rw [e2] at hs2 ⊢
  have L:=L.callI hf2 hs2
  simp (implicitDefEqProofs:=false) only [go_sem]
  refine Lv.stoOne L 0 rfl (by simp) rfl fun Y2 L=>?_
  simp only [List.set_cons_zero,List.set_cons_succ,List.set_nil,List.eraseIdx_cons_zero,List.eraseIdx_cons_succ] at L
  have c5:=L.cell 0 rfl
  simp (implicitDefEqProofs:=false) only [go_sem,c5]
  obtain ⟨d3,q4,e3⟩:∃ d s,dT Z' (.list tProof) q3=(d,s):=⟨_,_,rfl⟩
  obtain ⟨d4,q5,e4⟩:∃ d s,dT Z' (.list tCmd) q4=(d,s):=⟨_,_,rfl⟩
  refine (takeProofs_ok L.ge hlz L.io).mono ?_
  rintro v X3 ⟨cs,rfl,hr3,hs3,hf3⟩
  rw [e3] at hs3 hr3
  obtain ⟨a3,cc3,rfl,_⟩:=rep_list hr3.rep
  have L:=L.got hf3 hs3 hr3
  simp (implicitDefEqProofs:=false) only [go_sem]
  refine Lv.stoOne L 0 rfl (by simp) rfl fun Y3 L=>?_
  simp only [List.set_cons_zero,List.set_cons_succ,List.set_nil,List.eraseIdx_cons_zero,List.eraseIdx_cons_succ] at L
  simp (implicitDefEqProofs:=false) only [go_sem]
  refine (takeCommands_ok L.ge hlz L.io).mono ?_
  rintro v X4 ⟨cs,rfl,hr4,hs4,hf4⟩
  rw [e4] at hs4 hr4
  obtain ⟨a4,cc4,rfl,_⟩:=rep_list hr4.rep
  have L:=L.got hf4 hs4 hr4
  simp (implicitDefEqProofs:=false) only [go_sem]
  refine Lv.stoOne L 0 rfl (by simp) rfl fun Y4 L=>?_
  simp only [List.set_cons_zero,List.set_cons_succ,List.set_nil,List.eraseIdx_cons_zero,List.eraseIdx_cons_succ] at L
  simp (implicitDefEqProofs:=false) only [go_sem]
  have hP:dT Z' (payT 3) q3=((d3,d4),q5):=by
   show dT Z' (.pair (.list tProof) ((.list tCmd))) q3=_
   simp only [dT_pair,e3,e4]
  have hres:=res_some (m:=mkM 3 d1 d2 (d3,d4)) (q:=q5) (by rw [hM,hP])
  obtain ⟨qe,hqe⟩:∃ q,q=q5:=⟨_,rfl⟩
  obtain ⟨mm,hmm⟩:∃ m,m=mkM 3 d1 d2 (d3,d4):=⟨_,rfl⟩
  rw [← hqe] at L
  rw [← hqe,← hmm] at hres
  have L:=Lv.add L (show RepP _ _ (datT tMsg mm.tup) [.int .i64 3,.int .i64 d1,.int .i64 d2,.int .i64 0,.int .i64 0,.int .i64 0,.slice none 0 0,.slice none 0 0,.slice a4 d4.length cc4,.slice none 0 0,.slice a3 d3.length cc3,.slice none 0 0,.slice none 0 0,.int .i64 0,.slice none 0 0] by rw [hmm]; exact RepP.pair (RepP.v _) (RepP.pair (RepP.v _) (RepP.pair (RepP.v _) (RepP.pair (RepP.pair (RepP.v _) (RepP.pair (RepP.v _) (RepP.v _))) (RepP.pair (RepP.nil _) (RepP.pair (RepP.nil _) (RepP.pair (L.dat (datT (.list tCmd) d4,[.slice a4 d4.length cc4]) (by simp)) (RepP.pair (RepP.nil _) (RepP.pair (L.dat (datT (.list tProof) d3,[.slice a3 d3.length cc3]) (by simp)) (RepP.pair (RepP.nil _) (RepP.pair (RepP.nil _) (RepP.pair (RepP.v _) (RepP.nil _)))))))))))))
 case' inr.inr.inr.inr.inr.inl=>
  have hki:(k:Int)=4:=by omega
  have hle:(4:Int)≤8:=by decide
  have hw:IntKind.i64.wrap 4=4:=rfl
  rw [if_neg (by omega),if_neg (by omega),hk] at hM
  simp (implicitDefEqProofs:=false) only [go_sem,hki,hle,hw]
  refine Lv.stoOne L 0 rfl (by simp) rfl fun Y0 L=>?_
  simp only [List.set_cons_zero,List.set_cons_succ,List.set_nil,List.eraseIdx_cons_zero,List.eraseIdx_cons_succ] at L
  simp (implicitDefEqProofs:=false) only [go_sem]
  refine (fin_ok L.io).mono ?_
  rintro v X1 ⟨rfl,hs1,hf1⟩
  rw [e1] at hs1 ⊢
  have L:=L.callI hf1 hs1
  simp (implicitDefEqProofs:=false) only [go_sem]
  refine Lv.stoOne L 0 rfl (by simp) rfl fun Y1 L=>?_
  simp only [List.set_cons_zero,List.set_cons_succ,List.set_nil,List.eraseIdx_cons_zero,List.eraseIdx_cons_succ] at L
  simp (implicitDefEqProofs:=false) only [go_sem]
  refine (fin_ok L.io).mono ?_
  rintro v X2 ⟨rfl,hs2,hf2⟩
  rw [e2] at hs2 ⊢
  have L:=L.callI hf2 hs2
  simp (implicitDefEqProofs:=false) only [go_sem]
  refine Lv.stoOne L 0 rfl (by simp) rfl fun Y2 L=>?_
  simp only [List.set_cons_zero,List.set_cons_succ,List.set_nil,List.eraseIdx_cons_zero,List.eraseIdx_cons_succ] at L
  have c5:=L.cell 0 rfl
  simp (implicitDefEqProofs:=false) only [go_sem,c5]
  obtain ⟨d3,q4,e3⟩:∃ d s,dT Z' (.list tDigest) q3=(d,s):=⟨_,_,rfl⟩
  refine (takeDigests_ok L.ge hlz L.io).mono ?_
  rintro v X3 ⟨cs,rfl,hr3,hs3,hf3⟩
  rw [e3] at hs3 hr3
  obtain ⟨a3,cc3,rfl,_⟩:=rep_list hr3.rep
  have L:=L.got hf3 hs3 hr3
  simp (implicitDefEqProofs:=false) only [go_sem]
  refine Lv.stoOne L 0 rfl (by simp) rfl fun Y3 L=>?_
  simp only [List.set_cons_zero,List.set_cons_succ,List.set_nil,List.eraseIdx_cons_zero,List.eraseIdx_cons_succ] at L
  simp (implicitDefEqProofs:=false) only [go_sem]
  have hP:dT Z' (payT 4) q3=(d3,q4):=by
   show dT Z' ((.list tDigest)) q3=_
   simp only [dT_pair,e3]
  have hres:=res_some (m:=mkM 4 d1 d2 d3) (q:=q4) (by rw [hM,hP])
  obtain ⟨qe,hqe⟩:∃ q,q=q4:=⟨_,rfl⟩
  obtain ⟨mm,hmm⟩:∃ m,m=mkM 4 d1 d2 d3:=⟨_,rfl⟩
  rw [← hqe] at L
  rw [← hqe,← hmm] at hres
  have L:=Lv.add L (show RepP _ _ (datT tMsg mm.tup) [.int .i64 4,.int .i64 d1,.int .i64 d2,.int .i64 0,.int .i64 0,.int .i64 0,.slice none 0 0,.slice none 0 0,.slice none 0 0,.slice none 0 0,.slice none 0 0,.slice a3 d3.length cc3,.slice none 0 0,.int .i64 0,.slice none 0 0] by rw [hmm]; exact RepP.pair (RepP.v _) (RepP.pair (RepP.v _) (RepP.pair (RepP.v _) (RepP.pair (RepP.pair (RepP.v _) (RepP.pair (RepP.v _) (RepP.v _))) (RepP.pair (RepP.nil _) (RepP.pair (RepP.nil _) (RepP.pair (RepP.nil _) (RepP.pair (RepP.nil _) (RepP.pair (RepP.nil _) (RepP.pair (L.dat (datT (.list tDigest) d3,[.slice a3 d3.length cc3]) (by simp)) (RepP.pair (RepP.nil _) (RepP.pair (RepP.v _) (RepP.nil _)))))))))))))
 case' inr.inr.inr.inr.inr.inr.inl=>
  have hki:(k:Int)=5:=by omega
  have hle:(5:Int)≤8:=by decide
  have hw:IntKind.i64.wrap 5=5:=rfl
  rw [if_neg (by omega),if_neg (by omega),hk] at hM
  simp (implicitDefEqProofs:=false) only [go_sem,hki,hle,hw]
  refine Lv.stoOne L 0 rfl (by simp) rfl fun Y0 L=>?_
  simp only [List.set_cons_zero,List.set_cons_succ,List.set_nil,List.eraseIdx_cons_zero,List.eraseIdx_cons_succ] at L
  simp (implicitDefEqProofs:=false) only [go_sem]
  refine (fin_ok L.io).mono ?_
  rintro v X1 ⟨rfl,hs1,hf1⟩
  rw [e1] at hs1 ⊢
  have L:=L.callI hf1 hs1
  simp (implicitDefEqProofs:=false) only [go_sem]
  refine Lv.stoOne L 0 rfl (by simp) rfl fun Y1 L=>?_
  simp only [List.set_cons_zero,List.set_cons_succ,List.set_nil,List.eraseIdx_cons_zero,List.eraseIdx_cons_succ] at L
  simp (implicitDefEqProofs:=false) only [go_sem]
  refine (fin_ok L.io).mono ?_
  rintro v X2 ⟨rfl,hs2,hf2⟩
  rw [e2] at hs2 ⊢
  have L:=L.callI hf2 hs2
  simp (implicitDefEqProofs:=false) only [go_sem]
  refine Lv.stoOne L 0 rfl (by simp) rfl fun Y2 L=>?_
  simp only [List.set_cons_zero,List.set_cons_succ,List.set_nil,List.eraseIdx_cons_zero,List.eraseIdx_cons_succ] at L
  have c5:=L.cell 0 rfl
  simp (implicitDefEqProofs:=false) only [go_sem,c5]
  obtain ⟨d3,q4,e3⟩:∃ d s,dT Z' (.list tCmd) q3=(d,s):=⟨_,_,rfl⟩
  refine (takeCommands_ok L.ge hlz L.io).mono ?_
  rintro v X3 ⟨cs,rfl,hr3,hs3,hf3⟩
  rw [e3] at hs3 hr3
  obtain ⟨a3,cc3,rfl,_⟩:=rep_list hr3.rep
  have L:=L.got hf3 hs3 hr3
  simp (implicitDefEqProofs:=false) only [go_sem]
  refine Lv.stoOne L 0 rfl (by simp) rfl fun Y3 L=>?_
  simp only [List.set_cons_zero,List.set_cons_succ,List.set_nil,List.eraseIdx_cons_zero,List.eraseIdx_cons_succ] at L
  simp (implicitDefEqProofs:=false) only [go_sem]
  have hP:dT Z' (payT 5) q3=(d3,q4):=by
   show dT Z' ((.list tCmd)) q3=_
   simp only [dT_pair,e3]
  have hres:=res_some (m:=mkM 5 d1 d2 d3) (q:=q4) (by rw [hM,hP])
  obtain ⟨qe,hqe⟩:∃ q,q=q4:=⟨_,rfl⟩
  obtain ⟨mm,hmm⟩:∃ m,m=mkM 5 d1 d2 d3:=⟨_,rfl⟩
  rw [← hqe] at L
  rw [← hqe,← hmm] at hres
  have L:=Lv.add L (show RepP _ _ (datT tMsg mm.tup) [.int .i64 5,.int .i64 d1,.int .i64 d2,.int .i64 0,.int .i64 0,.int .i64 0,.slice none 0 0,.slice none 0 0,.slice a3 d3.length cc3,.slice none 0 0,.slice none 0 0,.slice none 0 0,.slice none 0 0,.int .i64 0,.slice none 0 0] by rw [hmm]; exact RepP.pair (RepP.v _) (RepP.pair (RepP.v _) (RepP.pair (RepP.v _) (RepP.pair (RepP.pair (RepP.v _) (RepP.pair (RepP.v _) (RepP.v _))) (RepP.pair (RepP.nil _) (RepP.pair (RepP.nil _) (RepP.pair (L.dat (datT (.list tCmd) d3,[.slice a3 d3.length cc3]) (by simp)) (RepP.pair (RepP.nil _) (RepP.pair (RepP.nil _) (RepP.pair (RepP.nil _) (RepP.pair (RepP.nil _) (RepP.pair (RepP.v _) (RepP.nil _)))))))))))))
 case' inr.inr.inr.inr.inr.inr.inr.inl=>
  have hki:(k:Int)=6:=by omega
  have hle:(6:Int)≤8:=by decide
  have hw:IntKind.i64.wrap 6=6:=rfl
  rw [if_neg (by omega),if_neg (by omega),hk] at hM
  simp (implicitDefEqProofs:=false) only [go_sem,hki,hle,hw]
  refine Lv.stoOne L 0 rfl (by simp) rfl fun Y0 L=>?_
  simp only [List.set_cons_zero,List.set_cons_succ,List.set_nil,List.eraseIdx_cons_zero,List.eraseIdx_cons_succ] at L
  simp (implicitDefEqProofs:=false) only [go_sem]
  refine (fin_ok L.io).mono ?_
  rintro v X1 ⟨rfl,hs1,hf1⟩
  rw [e1] at hs1 ⊢
  have L:=L.callI hf1 hs1
  simp (implicitDefEqProofs:=false) only [go_sem]
  refine Lv.stoOne L 0 rfl (by simp) rfl fun Y1 L=>?_
  simp only [List.set_cons_zero,List.set_cons_succ,List.set_nil,List.eraseIdx_cons_zero,List.eraseIdx_cons_succ] at L
  simp (implicitDefEqProofs:=false) only [go_sem]
  refine (fin_ok L.io).mono ?_
  rintro v X2 ⟨rfl,hs2,hf2⟩
  rw [e2] at hs2 ⊢
  have L:=L.callI hf2 hs2
  simp (implicitDefEqProofs:=false) only [go_sem]
  refine Lv.stoOne L 0 rfl (by simp) rfl fun Y2 L=>?_
  simp only [List.set_cons_zero,List.set_cons_succ,List.set_nil,List.eraseIdx_cons_zero,List.eraseIdx_cons_succ] at L
  have c5:=L.cell 0 rfl
  simp (implicitDefEqProofs:=false) only [go_sem,c5]
  obtain ⟨d3,q4,e3⟩:∃ d s,dT Z' (.list tCmd) q3=(d,s):=⟨_,_,rfl⟩
  refine (takeCommands_ok L.ge hlz L.io).mono ?_
  rintro v X3 ⟨cs,rfl,hr3,hs3,hf3⟩
  rw [e3] at hs3 hr3
  obtain ⟨a3,cc3,rfl,_⟩:=rep_list hr3.rep
  have L:=L.got hf3 hs3 hr3
  simp (implicitDefEqProofs:=false) only [go_sem]
  refine Lv.stoOne L 0 rfl (by simp) rfl fun Y3 L=>?_
  simp only [List.set_cons_zero,List.set_cons_succ,List.set_nil,List.eraseIdx_cons_zero,List.eraseIdx_cons_succ] at L
  simp (implicitDefEqProofs:=false) only [go_sem]
  have hP:dT Z' (payT 6) q3=(d3,q4):=by
   show dT Z' ((.list tCmd)) q3=_
   simp only [dT_pair,e3]
  have hres:=res_some (m:=mkM 6 d1 d2 d3) (q:=q4) (by rw [hM,hP])
  obtain ⟨qe,hqe⟩:∃ q,q=q4:=⟨_,rfl⟩
  obtain ⟨mm,hmm⟩:∃ m,m=mkM 6 d1 d2 d3:=⟨_,rfl⟩
  rw [← hqe] at L
  rw [← hqe,← hmm] at hres
  have L:=Lv.add L (show RepP _ _ (datT tMsg mm.tup) [.int .i64 6,.int .i64 d1,.int .i64 d2,.int .i64 0,.int .i64 0,.int .i64 0,.slice none 0 0,.slice none 0 0,.slice a3 d3.length cc3,.slice none 0 0,.slice none 0 0,.slice none 0 0,.slice none 0 0,.int .i64 0,.slice none 0 0] by rw [hmm]; exact RepP.pair (RepP.v _) (RepP.pair (RepP.v _) (RepP.pair (RepP.v _) (RepP.pair (RepP.pair (RepP.v _) (RepP.pair (RepP.v _) (RepP.v _))) (RepP.pair (RepP.nil _) (RepP.pair (RepP.nil _) (RepP.pair (L.dat (datT (.list tCmd) d3,[.slice a3 d3.length cc3]) (by simp)) (RepP.pair (RepP.nil _) (RepP.pair (RepP.nil _) (RepP.pair (RepP.nil _) (RepP.pair (RepP.nil _) (RepP.pair (RepP.v _) (RepP.nil _)))))))))))))
 case' inr.inr.inr.inr.inr.inr.inr.inr.inl=>
  have hki:(k:Int)=7:=by omega
  have hle:(7:Int)≤8:=by decide
  have hw:IntKind.i64.wrap 7=7:=rfl
  rw [if_neg (by omega),if_neg (by omega),hk] at hM
  simp (implicitDefEqProofs:=false) only [go_sem,hki,hle,hw]
  refine Lv.stoOne L 0 rfl (by simp) rfl fun Y0 L=>?_
  simp only [List.set_cons_zero,List.set_cons_succ,List.set_nil,List.eraseIdx_cons_zero,List.eraseIdx_cons_succ] at L
  simp (implicitDefEqProofs:=false) only [go_sem]
  refine (fin_ok L.io).mono ?_
  rintro v X1 ⟨rfl,hs1,hf1⟩
  rw [e1] at hs1 ⊢
  have L:=L.callI hf1 hs1
  simp (implicitDefEqProofs:=false) only [go_sem]
  refine Lv.stoOne L 0 rfl (by simp) rfl fun Y1 L=>?_
  simp only [List.set_cons_zero,List.set_cons_succ,List.set_nil,List.eraseIdx_cons_zero,List.eraseIdx_cons_succ] at L
  simp (implicitDefEqProofs:=false) only [go_sem]
  refine (fin_ok L.io).mono ?_
  rintro v X2 ⟨rfl,hs2,hf2⟩
  rw [e2] at hs2 ⊢
  have L:=L.callI hf2 hs2
  simp (implicitDefEqProofs:=false) only [go_sem]
  refine Lv.stoOne L 0 rfl (by simp) rfl fun Y2 L=>?_
  simp only [List.set_cons_zero,List.set_cons_succ,List.set_nil,List.eraseIdx_cons_zero,List.eraseIdx_cons_succ] at L
  have c5:=L.cell 0 rfl
  simp (implicitDefEqProofs:=false) only [go_sem,c5]
  obtain ⟨d3,q4,e3⟩:∃ d s,dT Z' (.list tRead) q3=(d,s):=⟨_,_,rfl⟩
  obtain ⟨d4,q5,e4⟩:∃ d s,dT Z' (.list .text) q4=(d,s):=⟨_,_,rfl⟩
  refine (takeReads_ok L.ge hlz L.io).mono ?_
  rintro v X3 ⟨cs,rfl,hr3,hs3,hf3⟩
  rw [e3] at hs3 hr3
  obtain ⟨a3,cc3,rfl,_⟩:=rep_list hr3.rep
  have L:=L.got hf3 hs3 hr3
  simp (implicitDefEqProofs:=false) only [go_sem]
  refine Lv.stoOne L 0 rfl (by simp) rfl fun Y3 L=>?_
  simp only [List.set_cons_zero,List.set_cons_succ,List.set_nil,List.eraseIdx_cons_zero,List.eraseIdx_cons_succ] at L
  simp (implicitDefEqProofs:=false) only [go_sem]
  refine (takeObjects_ok L.ge hlz L.io).mono ?_
  rintro v X4 ⟨cs,rfl,hr4,hs4,hf4⟩
  rw [e4] at hs4 hr4
  obtain ⟨a4,cc4,rfl,_⟩:=rep_list hr4.rep
  have L:=L.got hf4 hs4 hr4
  simp (implicitDefEqProofs:=false) only [go_sem]
  refine Lv.stoOne L 0 rfl (by simp) rfl fun Y4 L=>?_
  simp only [List.set_cons_zero,List.set_cons_succ,List.set_nil,List.eraseIdx_cons_zero,List.eraseIdx_cons_succ] at L
  simp (implicitDefEqProofs:=false) only [go_sem]
  have hP:dT Z' (payT 7) q3=((d3,d4),q5):=by
   show dT Z' (.pair (.list tRead) ((.list .text))) q3=_
   simp only [dT_pair,e3,e4]
  have hres:=res_some (m:=mkM 7 d1 d2 (d3,d4)) (q:=q5) (by rw [hM,hP])
  obtain ⟨qe,hqe⟩:∃ q,q=q5:=⟨_,rfl⟩
  obtain ⟨mm,hmm⟩:∃ m,m=mkM 7 d1 d2 (d3,d4):=⟨_,rfl⟩
  rw [← hqe] at L
  rw [← hqe,← hmm] at hres
  have L:=Lv.add L (show RepP _ _ (datT tMsg mm.tup) [.int .i64 7,.int .i64 d1,.int .i64 d2,.int .i64 0,.int .i64 0,.int .i64 0,.slice a3 d3.length cc3,.slice none 0 0,.slice none 0 0,.slice none 0 0,.slice none 0 0,.slice none 0 0,.slice a4 d4.length cc4,.int .i64 0,.slice none 0 0] by rw [hmm]; exact RepP.pair (RepP.v _) (RepP.pair (RepP.v _) (RepP.pair (RepP.v _) (RepP.pair (RepP.pair (RepP.v _) (RepP.pair (RepP.v _) (RepP.v _))) (RepP.pair (L.dat (datT (.list tRead) d3,[.slice a3 d3.length cc3]) (by simp)) (RepP.pair (RepP.nil _) (RepP.pair (RepP.nil _) (RepP.pair (RepP.nil _) (RepP.pair (RepP.nil _) (RepP.pair (RepP.nil _) (RepP.pair (L.dat (datT (.list .text) d4,[.slice a4 d4.length cc4]) (by simp)) (RepP.pair (RepP.v _) (RepP.nil _)))))))))))))
 case' inr.inr.inr.inr.inr.inr.inr.inr.inr=>
  have hki:(k:Int)=8:=by omega
  have hle:(8:Int)≤8:=by decide
  have hw:IntKind.i64.wrap 8=8:=rfl
  rw [if_neg (by omega),if_neg (by omega),hk] at hM
  simp (implicitDefEqProofs:=false) only [go_sem,hki,hle,hw]
  refine Lv.stoOne L 0 rfl (by simp) rfl fun Y0 L=>?_
  simp only [List.set_cons_zero,List.set_cons_succ,List.set_nil,List.eraseIdx_cons_zero,List.eraseIdx_cons_succ] at L
  simp (implicitDefEqProofs:=false) only [go_sem]
  refine (fin_ok L.io).mono ?_
  rintro v X1 ⟨rfl,hs1,hf1⟩
  rw [e1] at hs1 ⊢
  have L:=L.callI hf1 hs1
  simp (implicitDefEqProofs:=false) only [go_sem]
  refine Lv.stoOne L 0 rfl (by simp) rfl fun Y1 L=>?_
  simp only [List.set_cons_zero,List.set_cons_succ,List.set_nil,List.eraseIdx_cons_zero,List.eraseIdx_cons_succ] at L
  simp (implicitDefEqProofs:=false) only [go_sem]
  refine (fin_ok L.io).mono ?_
  rintro v X2 ⟨rfl,hs2,hf2⟩
  rw [e2] at hs2 ⊢
  have L:=L.callI hf2 hs2
  simp (implicitDefEqProofs:=false) only [go_sem]
  refine Lv.stoOne L 0 rfl (by simp) rfl fun Y2 L=>?_
  simp only [List.set_cons_zero,List.set_cons_succ,List.set_nil,List.eraseIdx_cons_zero,List.eraseIdx_cons_succ] at L
  have c5:=L.cell 0 rfl
  simp (implicitDefEqProofs:=false) only [go_sem,c5]
  obtain ⟨d3,q4,e3⟩:∃ d s,dT Z' (.list tProof) q3=(d,s):=⟨_,_,rfl⟩
  obtain ⟨d4,q5,e4⟩:∃ d s,dT Z' (.list tRead) q4=(d,s):=⟨_,_,rfl⟩
  obtain ⟨d5,q6,e5⟩:∃ d s,dT Z' .num q5=(d,s):=⟨_,_,rfl⟩
  obtain ⟨d6,q7,e6⟩:∃ d s,dT Z' (.list tItem) q6=(d,s):=⟨_,_,rfl⟩
  refine (takeProofs_ok L.ge hlz L.io).mono ?_
  rintro v X3 ⟨cs,rfl,hr3,hs3,hf3⟩
  rw [e3] at hs3 hr3
  obtain ⟨a3,cc3,rfl,_⟩:=rep_list hr3.rep
  have L:=L.got hf3 hs3 hr3
  simp (implicitDefEqProofs:=false) only [go_sem]
  refine Lv.stoOne L 0 rfl (by simp) rfl fun Y3 L=>?_
  simp only [List.set_cons_zero,List.set_cons_succ,List.set_nil,List.eraseIdx_cons_zero,List.eraseIdx_cons_succ] at L
  simp (implicitDefEqProofs:=false) only [go_sem]
  refine (takeReads_ok L.ge hlz L.io).mono ?_
  rintro v X4 ⟨cs,rfl,hr4,hs4,hf4⟩
  rw [e4] at hs4 hr4
  obtain ⟨a4,cc4,rfl,_⟩:=rep_list hr4.rep
  have L:=L.got hf4 hs4 hr4
  simp (implicitDefEqProofs:=false) only [go_sem]
  refine Lv.stoOne L 0 rfl (by simp) rfl fun Y4 L=>?_
  simp only [List.set_cons_zero,List.set_cons_succ,List.set_nil,List.eraseIdx_cons_zero,List.eraseIdx_cons_succ] at L
  simp (implicitDefEqProofs:=false) only [go_sem]
  refine (fin_ok L.io).mono ?_
  rintro v X5 ⟨rfl,hs5,hf5⟩
  rw [e5] at hs5 ⊢
  have L:=L.callI hf5 hs5
  simp (implicitDefEqProofs:=false) only [go_sem]
  refine Lv.stoOne L 0 rfl (by simp) rfl fun Y5 L=>?_
  simp only [List.set_cons_zero,List.set_cons_succ,List.set_nil,List.eraseIdx_cons_zero,List.eraseIdx_cons_succ] at L
  simp (implicitDefEqProofs:=false) only [go_sem]
  refine (takeItems_ok L.ge hlz L.io).mono ?_
  rintro v X6 ⟨cs,rfl,hr6,hs6,hf6⟩
  rw [e6] at hs6 hr6
  obtain ⟨a6,cc6,rfl,_⟩:=rep_list hr6.rep
  have L:=L.got hf6 hs6 hr6
  simp (implicitDefEqProofs:=false) only [go_sem]
  refine Lv.stoOne L 0 rfl (by simp) rfl fun Y6 L=>?_
  simp only [List.set_cons_zero,List.set_cons_succ,List.set_nil,List.eraseIdx_cons_zero,List.eraseIdx_cons_succ] at L
  simp (implicitDefEqProofs:=false) only [go_sem]
  have hP:dT Z' (payT 8) q3=((d3,d4,d5,d6),q7):=by
   show dT Z' (.pair (.list tProof) (.pair (.list tRead) (.pair .num ((.list tItem))))) q3=_
   simp only [dT_pair,e3,e4,e5,e6]
  have hres:=res_some (m:=mkM 8 d1 d2 (d3,d4,d5,d6)) (q:=q7) (by rw [hM,hP])
  obtain ⟨qe,hqe⟩:∃ q,q=q7:=⟨_,rfl⟩
  obtain ⟨mm,hmm⟩:∃ m,m=mkM 8 d1 d2 (d3,d4,d5,d6):=⟨_,rfl⟩
  rw [← hqe] at L
  rw [← hqe,← hmm] at hres
  have L:=Lv.add L (show RepP _ _ (datT tMsg mm.tup) [.int .i64 8,.int .i64 d1,.int .i64 d2,.int .i64 0,.int .i64 0,.int .i64 0,.slice a4 d4.length cc4,.slice none 0 0,.slice none 0 0,.slice none 0 0,.slice a3 d3.length cc3,.slice none 0 0,.slice none 0 0,.int .i64 d5,.slice a6 d6.length cc6] by rw [hmm]; exact RepP.pair (RepP.v _) (RepP.pair (RepP.v _) (RepP.pair (RepP.v _) (RepP.pair (RepP.pair (RepP.v _) (RepP.pair (RepP.v _) (RepP.v _))) (RepP.pair (L.dat (datT (.list tRead) d4,[.slice a4 d4.length cc4]) (by simp)) (RepP.pair (RepP.nil _) (RepP.pair (RepP.nil _) (RepP.pair (RepP.nil _) (RepP.pair (L.dat (datT (.list tProof) d3,[.slice a3 d3.length cc3]) (by simp)) (RepP.pair (RepP.nil _) (RepP.pair (RepP.nil _) (RepP.pair (RepP.v _) (L.dat (datT (.list tItem) d6,[.slice a6 d6.length cc6]) (by simp))))))))))))))
 all_goals
  have hone:=rep_one (L.dat _ List.mem_cons_self).rep
  refine (iend_o L.io).mono ?_
  rintro v HE ⟨rfl,rfl⟩
  have c5:=L.cell 0 rfl
  by_cases hend:qe=some Z'.length
  case neg=>
   have hr:decF Z'=none:=by rw [hres,if_neg (fun q=>hend q.1)]
   rw [hr]
   simp (implicitDefEqProofs:=false) only [go_sem,hend]
   refine Lv.stoAll L 1 rfl rfl (by simp [Value.oneCell']) fun B L=>?_
   simp only [List.set_cons_zero,List.set_cons_succ,List.set_nil,List.eraseIdx_cons_zero,List.eraseIdx_cons_succ] at L
   have cB:=L.cell 1 rfl
   simp (implicitDefEqProofs:=false) only [go_sem,cB]
   exact ⟨zeroM,rfl,zeroM_rep _,L.fr⟩
  have hend':=eq_true hend
  simp (implicitDefEqProofs:=false) only [go_sem,hend',c5]
  refine (shape_ok (L.dat _ List.mem_cons_self).rep).mono ?_
  rintro v HF ⟨rfl,hf⟩
  have L:=L.ext hf
  cases hform:formB mm with
  | false=>
    have hr:decF Z'=none:=by rw [hres,if_neg (by rw [hform]; simp)]
    rw [hr]
    simp (implicitDefEqProofs:=false) only [go_sem]
    refine Lv.stoAll L 1 rfl rfl (by simp [Value.oneCell']) fun B L=>?_
    simp only [List.set_cons_zero,List.set_cons_succ,List.set_nil,List.eraseIdx_cons_zero,List.eraseIdx_cons_succ] at L
    have cB:=L.cell 1 rfl
    simp (implicitDefEqProofs:=false) only [go_sem,cB]
    exact ⟨zeroM,rfl,zeroM_rep _,L.fr⟩
  | true=>
    have hr:decF Z'=some mm:=by rw [hres,if_pos ⟨hend,hform⟩]
    rw [hr]
    have c5:=L.cell 0 rfl
    simp (implicitDefEqProofs:=false) only [go_sem,c5]
    refine Lv.stoAll L 1 rfl rfl hone fun B L=>?_
    simp only [List.set_cons_zero,List.set_cons_succ,List.set_nil,List.eraseIdx_cons_zero,List.eraseIdx_cons_succ] at L
    have cB:=L.cell 1 rfl
    simp (implicitDefEqProofs:=false) only [go_sem,cB]
    exact ⟨_,rfl,(L.dat _ List.mem_cons_self).rep,L.fr⟩
end Go.Proofs.YtdhlibkdcldioaaGreat
end
section
set_option linter.unusedSimpArgs false
set_option linter.unusedVariables false
set_option maxRecDepth 8000
namespace Go.Proofs.YtdhlibkdcldioaaGreat
open Gx Go
theorem enc0_len:(enc 0).length≤1:=len_enc (by decide) (by decide)
theorem zero_len:(encT .num 0).length≤1:=len_enc (n:=zig 0) (by decide) (by decide)
theorem all_len {m:Msg} (h:formB m=true):(encT tMsg m.tup).length≤(encM m).length + 20:=by
 have hh:=form_head h
 have e0:=enc0_len
 have ez:=zero_len
 have hk':m.kind=1∨m.kind=2∨m.kind=3∨m.kind=4∨m.kind=5∨m.kind=6∨m.kind=7∨m.kind=8:=by omega
 have hkz:(encT .num m.kind).length≤1:=by
  rcases hk' with e | e | e | e | e | e | e | e <;> rw [e] <;> exact len_enc (by decide) (by decide)
 obtain ⟨kind,src,dst,round,reads,base,state,acks,proof,digests,objects,seq,items⟩:=m
 simp only at hk' hkz
 simp only [formB,Bool.and_eq_true] at h
 have h2:=h.1.2
 rcases hk' with rfl | rfl | rfl | rfl | rfl | rfl | rfl | rfl
 ·have hE:encM ⟨1,src,dst,round,reads,base,state,acks,proof,digests,objects,seq,items⟩=enc 1 ++ (encT .num src ++ (encT .num dst ++ encT (.pair tRound (.pair (.list tRead) (.pair (.list tBase) (.list tCmd)))) (round,reads,base,state))):=rfl
  rw [hE]
  simp [hasB,useB,fitB] at h2
  simp only [h2,Msg.tup,encT,List.length_append,List.length_nil,List.flatMap_nil] at hkz e0 ez ⊢
  omega
 ·have hE:encM ⟨2,src,dst,round,reads,base,state,acks,proof,digests,objects,seq,items⟩=enc 2 ++ (encT .num src ++ (encT .num dst ++ encT (.pair tRound (.pair (.list tCmd) (.pair (.list tBase) (.list tAck)))) (round,state,base,acks))):=rfl
  rw [hE]
  simp [hasB,useB,fitB] at h2
  simp only [h2,Msg.tup,encT,List.length_append,List.length_nil,List.flatMap_nil] at hkz e0 ez ⊢
  omega
 ·have hE:encM ⟨3,src,dst,round,reads,base,state,acks,proof,digests,objects,seq,items⟩=enc 3 ++ (encT .num src ++ (encT .num dst ++ encT (.pair (.list tProof) (.list tCmd)) (proof,state))):=rfl
  rw [hE]
  simp [hasB,useB,fitB] at h2
  simp only [h2,Msg.tup,encT,List.length_append,List.length_nil,List.flatMap_nil] at hkz e0 ez ⊢
  omega
 ·have hE:encM ⟨4,src,dst,round,reads,base,state,acks,proof,digests,objects,seq,items⟩=enc 4 ++ (encT .num src ++ (encT .num dst ++ encT (.list tDigest) digests)):=rfl
  rw [hE]
  simp [hasB,useB,fitB] at h2
  simp only [h2,Msg.tup,encT,List.length_append,List.length_nil,List.flatMap_nil] at hkz e0 ez ⊢
  omega
 ·have hE:encM ⟨5,src,dst,round,reads,base,state,acks,proof,digests,objects,seq,items⟩=enc 5 ++ (encT .num src ++ (encT .num dst ++ encT (.list tCmd) state)):=rfl
  rw [hE]
  simp [hasB,useB,fitB] at h2
  simp only [h2,Msg.tup,encT,List.length_append,List.length_nil,List.flatMap_nil] at hkz e0 ez ⊢
  omega
 ·have hE:encM ⟨6,src,dst,round,reads,base,state,acks,proof,digests,objects,seq,items⟩=enc 6 ++ (encT .num src ++ (encT .num dst ++ encT (.list tCmd) state)):=rfl
  rw [hE]
  simp [hasB,useB,fitB] at h2
  simp only [h2,Msg.tup,encT,List.length_append,List.length_nil,List.flatMap_nil] at hkz e0 ez ⊢
  omega
 ·have hE:encM ⟨7,src,dst,round,reads,base,state,acks,proof,digests,objects,seq,items⟩=enc 7 ++ (encT .num src ++ (encT .num dst ++ encT (.pair (.list tRead) (.list .text)) (reads,objects))):=rfl
  rw [hE]
  simp [hasB,useB,fitB] at h2
  simp only [h2,Msg.tup,encT,List.length_append,List.length_nil,List.flatMap_nil] at hkz e0 ez ⊢
  omega
 ·have hE:encM ⟨8,src,dst,round,reads,base,state,acks,proof,digests,objects,seq,items⟩=enc 8 ++ (encT .num src ++ (encT .num dst ++ encT (.pair (.list tProof) (.pair (.list tRead) (.pair .num (.list tItem)))) (proof,reads,seq,items))):=rfl
  rw [hE]
  simp [hasB,useB,fitB] at h2
  simp only [h2,Msg.tup,encT,List.length_append,List.length_nil,List.flatMap_nil] at hkz e0 ez ⊢
  omega
end Go.Proofs.YtdhlibkdcldioaaGreat
end
