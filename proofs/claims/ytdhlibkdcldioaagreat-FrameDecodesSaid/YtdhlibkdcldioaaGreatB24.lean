import Derived.Test.YtdhlibkdcldioaaGreatB22
import Derived.Test.YtdhlibkdcldioaaGreatB14
import Derived.Test.YtdhlibkdcldioaaGreatB18
import Derived.Test.YtdhlibkdcldioaaGreatB20
section
set_option linter.unusedSimpArgs false
set_option linter.unusedVariables false
set_option maxRecDepth 8000
namespace Go.Proofs.YtdhlibkdcldioaaGreat
open Gx Go
theorem rep_bytes_cs {H:Heap} {M:List Nat} {l:Bs} {a:Option Addr} {n c:Nat} (h:Rep H M (datT .bytes l) [.slice a n c]):CsR H a (l.map bv):=by
 obtain ⟨a',c',e,_,_,h6⟩:=rep_bytes.1 h
 simp only [List.cons.injEq,and_true,Value.slice.injEq] at e
 obtain ⟨rfl,rfl,rfl⟩:=e
 exact h6.csR
theorem fbytesT (x:den .bytes) {H:Heap} {a ax:Option Addr} {c cx:Nat} {l:List UInt8} (h:BsR H a l) (hx:BsR H ax x) (hl:l.length + List.length x < 2^38) :
 HCalls Tryz.prog 117 #[.slice a l.length c,.slice ax (List.length x) cx] H (Out H (l ++ encT .bytes x)):=fbytes_ok x h hx hl
theorem ftextT (x:den .text) {H:Heap} {a:Option Addr} {c:Nat} {l:List UInt8} (h:BsR H a l) (hl:l.length + List.length x < 2^38) :
 HCalls Tryz.prog 118 #[.slice a l.length c,.string ⟨⟨x⟩⟩] H (Out H (l ++ encT .text x)):=ftext_ok x h hl
theorem fboolT (x:den .bool) {H:Heap} {a:Option Addr} {c:Nat} {l:List UInt8} (h:BsR H a l) (hl:l.length < 2^38) :
 HCalls Tryz.prog 121 #[.slice a l.length c,.bool x] H (Out H (l ++ encT .bool x)):=fbool_ok x h hl
theorem Out.trans' {H H1 H':Heap} {L:Bs} {v:Value} (hf:Fr [] H H1) (h:Out H1 L v H'):Out H L v H':=by
 obtain ⟨a,c,g,rfl,h1,h2,h3⟩:=h
 exact ⟨a,c,g,rfl,h1,fun k hk=>Nat.le_trans hf.size (h2 k hk),hf.trans h3⟩
theorem fcount_ok (n:Nat) (hn:n < 2^63) {H:Heap} {a:Option Addr} {c:Nat} {l:Bs} (h:BsR H a l) (hl:l.length < 2^38):HCalls Tryz.prog 64 #[.slice a l.length c,.int .i64 n] H (Out H (l ++ enc n)):=by
 refine calls_of_vc (args:=[_,_]) Tryz.func64 c64ok (Nat.le_of_ble_eq_true rfl) ?_
 have hx:IntKind.u64.wrap (n:Int)=(n:Int):=wrap_u64_id _ (by omega) (by omega)
 simp (implicitDefEqProofs:=false) only [go_sem,c64,hx]
 refine (fuint_ok n (by omega) h hl).mono ?_
 intro v H1 hv
 simp (implicitDefEqProofs:=false) only [go_sem]
 exact hv
theorem finteger_ok (n:Int) (hn:okT .num n) {H:Heap} {a:Option Addr} {c:Nat} {l:Bs} (h:BsR H a l) (hl:l.length < 2^38):HCalls Tryz.prog 63 #[.slice a l.length c,.int .i64 n] H (Out H (l ++ encT .num n)):=by
 refine calls_of_vc (args:=[_,_]) Tryz.func63 c63ok (Nat.le_of_ble_eq_true rfl) ?_
 have hx:IntKind.i64.wrap n=n:=wrap_i64_id _ hn.1 hn.2
 simp (implicitDefEqProofs:=false) only [go_sem,c63,hx]
 refine (fint_ok n hn.1 hn.2 h hl).mono ?_
 intro v H1 hv
 simp (implicitDefEqProofs:=false) only [go_sem]
 exact hv
theorem fround_ok (d:den tRound) (hok:okT tRound d) {H:Heap} {a:Option Addr} {c:Nat} {l:Bs} {cs:List Value} (h:BsR H a l) (ha:Rep H [] (datT tRound d) cs) (hsz:l.length + (encT tRound d).length < 2^38):HCalls Tryz.prog 68 #[.slice a l.length c,.agg cs.toArray] H (Out H (l ++ encT tRound d)):=by
 obtain ⟨d0,d1,d2⟩:=d
 obtain ⟨o0,o1,o2⟩:=hok
 obtain ⟨c0,r0,rfl,u0,ha⟩:=rep_pair.1 ha
 obtain ⟨c1,r1,rfl,u1,u2⟩:=rep_pair.1 ha
 have:=rep_num u0; subst this
 have:=rep_num u1; subst this
 have:=rep_num u2; subst this
 have hE:encT tRound (d0,d1,d2)=encT .num d0 ++ (encT .num d1 ++ encT .num d2):=rfl
 rw [hE] at hsz ⊢
 simp only [List.length_append] at hsz
 refine calls_of_vc (args:=[_,_]) Tryz.func68 c68ok (Nat.le_of_ble_eq_true rfl) ?_
 simp (implicitDefEqProofs:=false) only [go_sem,c68]
 refine NewP_intro fun H1 hB hf0 hs0=>?_
 have cB:=hB.cell
 have hb0:=h.ext hf0
 simp (implicitDefEqProofs:=false) only [go_sem,cB]
 refine (finteger_ok d0 o0 hb0 (by (try simp only [List.length_append]); omega)).mono ?_
 rintro v K1 ⟨a1,c1,g1,rfl,ho1,hg1,hf1⟩
 have hb1:=ho1.bsR
 have hF1:=hf0.trans hf1
 replace hB:=hB.ext hf1
 replace cB:=hB.cell
 simp (implicitDefEqProofs:=false) only [go_sem,cB]
 refine (finteger_ok d1 o1 hb1 (by (try simp only [List.length_append]); omega)).mono ?_
 rintro v K2 ⟨a2,c2,g2,rfl,ho2,hg2,hf2⟩
 have hb2:=ho2.bsR
 have hF2:=hF1.trans hf2
 replace hB:=hB.ext hf2
 replace cB:=hB.cell
 simp (implicitDefEqProofs:=false) only [go_sem,cB]
 refine (finteger_ok d2 o2 hb2 (by (try simp only [List.length_append]); omega)).mono ?_
 rintro v K3 ⟨a3,c3,g3,rfl,ho3,hg3,hf3⟩
 have hb3:=ho3.bsR
 have hF3:=hF2.trans hf3
 replace hB:=hB.ext hf3
 replace cB:=hB.cell
 simp (implicitDefEqProofs:=false) only [go_sem,cB]
 have hv:l ++ encT .num d0 ++ encT .num d1 ++ encT .num d2=l ++ (encT .num d0 ++ (encT .num d1 ++ encT .num d2)):=by simp
 rw [← hv]
 exact Out.trans' (hf0.trans (hf1.trans hf2)) ⟨_,_,_,rfl,ho3,hg3,hf3⟩
set_option maxHeartbeats 4000000 in
theorem freads_ok (ls:List (den tRead)) (hok:okT (.list tRead) ls) {H:Heap} {a:Option Addr} {c:Nat} {l:Bs} {al:Option Addr} {cl:Nat} (h:BsR H a l) (ha:Rep H [] (datT (.list tRead) ls) [.slice al ls.length cl]) (hsz:l.length + (encT (.list tRead) ls).length < 2^38) :
 HCalls Tryz.prog 67 #[.slice a l.length c,.slice al ls.length cl] H (Out H (l ++ encT (.list tRead) ls)):=by
 have hlen:ls.length < 2^63:=hok.1
 have hE:encT (.list tRead) ls=enc ls.length ++ ls.flatMap (encT tRead):=rfl
 rw [hE] at hsz ⊢
 have hfl:=flat_len (encT_pos tRead) ls
 simp only [List.length_append] at hsz
 refine calls_of_vc (args:=[_,_]) Tryz.func67 c67ok (Nat.le_of_ble_eq_true rfl) ?_
 simp (implicitDefEqProofs:=false) only [go_sem,c67]
 refine (fcount_ok ls.length (by omega) h (by omega)).mono ?_
 rintro v H0 ⟨a0,c0,g0,rfl,ho0,hg0,hf0⟩
 simp (implicitDefEqProofs:=false) only [go_sem]
 refine vc_loop (fun (x:Nat × Option Addr × Nat × Option Nat) H'=>x.1≤ls.length∧Own H' 5 1 (.slice x.2.1 (l ++ (enc ls.length ++ (ls.take x.1).flatMap (encT tRead))).length x.2.2.1) (l ++ (enc ls.length ++ (ls.take x.1).flatMap (encT tRead))).length ((l ++ (enc ls.length ++ (ls.take x.1).flatMap (encT tRead))).map bv) x.2.2.2∧(∀ k,x.2.2.2=some k→H.size≤k)∧Fr [] H H')
  (fun x=>[(0,.slice x.2.1 (l ++ (enc ls.length ++ (ls.take x.1).flatMap (encT tRead))).length x.2.2.1),(1,.slice al ls.length cl),(5,.int .i64 x.1)]) (fun x=>ls.length - x.1) (0,a0,c0,g0) ?_ ?_ ?_
 ·refine ⟨Nat.zero_le _,?_,hg0,hf0⟩
  simpa using ho0
 ·simp (implicitDefEqProofs:=false) only [go_sem]
  simp
 ·rintro ⟨i,ai,ci,gi⟩ H' ⟨hi,ho,hg,hfr⟩
  simp only at hi ho hg hfr
  rcases Nat.lt_or_ge i ls.length with hlt | hge
  ·have hlt':(i:Int) < (ls.length:Int):=by omega
   have h0:(0:Int)≤(i:Int):=by omega
   obtain ⟨bb,oo,cc,x,e1,_,hxl,hp4,hx⟩:=rep_at (Rep.ext ha hfr) i hlt
   cases e1
   have hokx:=hok.2 _ (List.getElem_mem hlt)
   have hw1:=succ_i64 i ls.length hlt (by omega)
   have hbi:=ho.bsR
   have hsp:=flat_split (encT tRead) ls i hlt
   have hss:=flat_succ (encT tRead) ls i hlt
   rw [hsp] at hsz
   simp only [List.length_append] at hsz
   obtain ⟨L,hL⟩:∃ L,L=l ++ (enc ls.length ++ (ls.take i).flatMap (encT tRead)):=⟨_,rfl⟩
   have hLl:L.length=l.length + ((enc ls.length).length + ((ls.take i).flatMap (encT tRead)).length):=by rw [hL]; simp
   rw [← hL] at ho hbi
   simp only [← hL]
   generalize ls[i]=d at hx hokx hsp hss hsz
   obtain ⟨x0,x1,x2,rfl⟩:=len3 hxl
   have p0:=hp4 0 (by decide)
   have p1:=hp4 1 (by decide)
   have p2:=hp4 2 (by decide)
   simp only [wid,Nat.add_zero,Nat.reduceAdd,Nat.mul_one,List.getElem?_cons_zero,List.getElem?_cons_succ] at p0 p1 p2
   obtain ⟨d0,d1,d2⟩:=d
   obtain ⟨o0,o1,o2⟩:=hokx
   obtain ⟨zu0,zru0,ezu0,u0,hru0⟩:=rep_pair.1 hx
   obtain ⟨zu1,zru1,ezu1,u1,hru1⟩:=rep_pair.1 hru0
   have u2:=hru1
   have wu0:=rep_num u0
   have wu1:=rep_num u1
   obtain ⟨ba2,bc2,wu2,_,_,_⟩:=rep_bytes.1 u2
   subst wu0 wu1 wu2
   simp only [ezu1,List.cons_append,List.nil_append,List.cons.injEq,and_true] at ezu0
   obtain ⟨rfl,rfl,rfl⟩:=ezu0
   have hE2:encT tRead (d0,d1,d2)=encT .num d0 ++ (encT .num d1 ++ (encT .bytes d2)):=rfl
   rw [hE2] at hsz
   simp only [List.length_append] at hsz
   have hzb2:(encT .bytes d2).length=(enc (List.length d2)).length + List.length d2:=List.length_append
   simp (implicitDefEqProofs:=false) only [go_sem,hlt',h0,p0,p1,p2]
   refine (finteger_ok d0 o0 hbi (by (try simp only [List.length_append]); omega)).mono ?_
   rintro v K4 ⟨a4,c4,g4,rfl,ho4,hg4,hf4⟩
   have hb4:=ho4.bsR
   have hF4:=hfr.trans hf4
   replace p0:=cellB_fr p0 hf4 (by simp)
   replace p1:=cellB_fr p1 hf4 (by simp)
   replace p2:=cellB_fr p2 hf4 (by simp)
   replace u2:=Rep.ext u2 hf4
   simp (implicitDefEqProofs:=false) only [go_sem,p0,p1,p2]
   refine (finteger_ok d1 o1 hb4 (by (try simp only [List.length_append]); omega)).mono ?_
   rintro v K5 ⟨a5,c5,g5,rfl,ho5,hg5,hf5⟩
   have hb5:=ho5.bsR
   have hF5:=hF4.trans hf5
   replace p0:=cellB_fr p0 hf5 (by simp)
   replace p1:=cellB_fr p1 hf5 (by simp)
   replace p2:=cellB_fr p2 hf5 (by simp)
   replace u2:=Rep.ext u2 hf5
   simp (implicitDefEqProofs:=false) only [go_sem,p0,p1,p2]
   refine (fbytesT d2 hb5 (csR_bsR.1 (rep_bytes_cs u2)) (by (try simp only [List.length_append]); omega)).mono ?_
   rintro v K6 ⟨a6,c6,g6,rfl,ho6,hg6,hf6⟩
   have hb6:=ho6.bsR
   have hF6:=hF5.trans hf6
   replace p0:=cellB_fr p0 hf6 (by simp)
   replace p1:=cellB_fr p1 hf6 (by simp)
   replace p2:=cellB_fr p2 hf6 (by simp)
   replace u2:=Rep.ext u2 hf6
   simp (implicitDefEqProofs:=false) only [go_sem,p0,p1,p2]
   refine loopK_intro (i + 1,a6,c6,g6) (by show ls.length - (i + 1) < ls.length - i; omega) ?_ ?_
   ·have hv:l ++ (enc ls.length ++ (ls.take (i + 1)).flatMap (encT tRead))=(((L ++ encT .num d0) ++ encT .num d1) ++ encT .bytes d2):=by rw [hss,hL,hE2]; simp
    simp only [hv]
    simp (implicitDefEqProofs:=false) only [go_sem,hw1]
    all_goals rfl
   ·have hv:l ++ (enc ls.length ++ (ls.take (i + 1)).flatMap (encT tRead))=(((L ++ encT .num d0) ++ encT .num d1) ++ encT .bytes d2):=by rw [hss,hL,hE2]; simp
    refine ⟨hlt,?_,(fun k hk=>Nat.le_trans (hF5.size) (hg6 k hk)),hF6⟩
    simp only [hv]; exact ho6
  ·have hge':¬ (i:Int) < (ls.length:Int):=by omega
   simp (implicitDefEqProofs:=false) only [go_sem,hge']
   rw [List.take_of_length_le hge] at ho ⊢
   exact ⟨ai,ci,gi,rfl,ho,hg,hfr⟩
set_option maxHeartbeats 4000000 in
theorem facks_ok (ls:List (den tAck)) (hok:okT (.list tAck) ls) {H:Heap} {a:Option Addr} {c:Nat} {l:Bs} {al:Option Addr} {cl:Nat} (h:BsR H a l) (ha:Rep H [] (datT (.list tAck) ls) [.slice al ls.length cl]) (hsz:l.length + (encT (.list tAck) ls).length < 2^38) :
 HCalls Tryz.prog 69 #[.slice a l.length c,.slice al ls.length cl] H (Out H (l ++ encT (.list tAck) ls)):=by
 have hlen:ls.length < 2^63:=hok.1
 have hE:encT (.list tAck) ls=enc ls.length ++ ls.flatMap (encT tAck):=rfl
 rw [hE] at hsz ⊢
 have hfl:=flat_len (encT_pos tAck) ls
 simp only [List.length_append] at hsz
 refine calls_of_vc (args:=[_,_]) Tryz.func69 c69ok (Nat.le_of_ble_eq_true rfl) ?_
 simp (implicitDefEqProofs:=false) only [go_sem,c69]
 refine (fcount_ok ls.length (by omega) h (by omega)).mono ?_
 rintro v H0 ⟨a0,c0,g0,rfl,ho0,hg0,hf0⟩
 simp (implicitDefEqProofs:=false) only [go_sem]
 refine vc_loop (fun (x:Nat × Option Addr × Nat × Option Nat) H'=>x.1≤ls.length∧Own H' 5 1 (.slice x.2.1 (l ++ (enc ls.length ++ (ls.take x.1).flatMap (encT tAck))).length x.2.2.1) (l ++ (enc ls.length ++ (ls.take x.1).flatMap (encT tAck))).length ((l ++ (enc ls.length ++ (ls.take x.1).flatMap (encT tAck))).map bv) x.2.2.2∧(∀ k,x.2.2.2=some k→H.size≤k)∧Fr [] H H')
  (fun x=>[(0,.slice x.2.1 (l ++ (enc ls.length ++ (ls.take x.1).flatMap (encT tAck))).length x.2.2.1),(1,.slice al ls.length cl),(5,.int .i64 x.1)]) (fun x=>ls.length - x.1) (0,a0,c0,g0) ?_ ?_ ?_
 ·refine ⟨Nat.zero_le _,?_,hg0,hf0⟩
  simpa using ho0
 ·simp (implicitDefEqProofs:=false) only [go_sem]
  simp
 ·rintro ⟨i,ai,ci,gi⟩ H' ⟨hi,ho,hg,hfr⟩
  simp only at hi ho hg hfr
  rcases Nat.lt_or_ge i ls.length with hlt | hge
  ·have hlt':(i:Int) < (ls.length:Int):=by omega
   have h0:(0:Int)≤(i:Int):=by omega
   obtain ⟨bb,oo,cc,x,e1,_,hxl,hp4,hx⟩:=rep_at (Rep.ext ha hfr) i hlt
   cases e1
   have hokx:=hok.2 _ (List.getElem_mem hlt)
   have hw1:=succ_i64 i ls.length hlt (by omega)
   have hbi:=ho.bsR
   have hsp:=flat_split (encT tAck) ls i hlt
   have hss:=flat_succ (encT tAck) ls i hlt
   rw [hsp] at hsz
   simp only [List.length_append] at hsz
   obtain ⟨L,hL⟩:∃ L,L=l ++ (enc ls.length ++ (ls.take i).flatMap (encT tAck)):=⟨_,rfl⟩
   have hLl:L.length=l.length + ((enc ls.length).length + ((ls.take i).flatMap (encT tAck)).length):=by rw [hL]; simp
   rw [← hL] at ho hbi
   simp only [← hL]
   generalize ls[i]=d at hx hokx hsp hss hsz
   obtain ⟨x0,x1,rfl⟩:=len2 hxl
   have p0:=hp4 0 (by decide)
   have p1:=hp4 1 (by decide)
   simp only [wid,Nat.add_zero,Nat.reduceAdd,Nat.mul_one,List.getElem?_cons_zero,List.getElem?_cons_succ] at p0 p1
   obtain ⟨d0,d1⟩:=d
   obtain ⟨o0,o1⟩:=hokx
   obtain ⟨zu0,zru0,ezu0,u0,hru0⟩:=rep_pair.1 hx
   have u1:=hru0
   have wu0:=rep_num u0
   obtain ⟨ba1,bc1,wu1,_,_,_⟩:=rep_bytes.1 u1
   subst wu0 wu1
   simp only [List.append_nil,List.cons_append,List.nil_append,List.cons.injEq,and_true] at ezu0
   obtain ⟨rfl,rfl⟩:=ezu0
   have hE2:encT tAck (d0,d1)=encT .num d0 ++ (encT .bytes d1):=rfl
   rw [hE2] at hsz
   simp only [List.length_append] at hsz
   have hzb1:(encT .bytes d1).length=(enc (List.length d1)).length + List.length d1:=List.length_append
   simp (implicitDefEqProofs:=false) only [go_sem,hlt',h0,p0,p1]
   refine (finteger_ok d0 o0 hbi (by (try simp only [List.length_append]); omega)).mono ?_
   rintro v K7 ⟨a7,c7,g7,rfl,ho7,hg7,hf7⟩
   have hb7:=ho7.bsR
   have hF7:=hfr.trans hf7
   replace p0:=cellB_fr p0 hf7 (by simp)
   replace p1:=cellB_fr p1 hf7 (by simp)
   replace u1:=Rep.ext u1 hf7
   simp (implicitDefEqProofs:=false) only [go_sem,p0,p1]
   refine (fbytesT d1 hb7 (csR_bsR.1 (rep_bytes_cs u1)) (by (try simp only [List.length_append]); omega)).mono ?_
   rintro v K8 ⟨a8,c8,g8,rfl,ho8,hg8,hf8⟩
   have hb8:=ho8.bsR
   have hF8:=hF7.trans hf8
   replace p0:=cellB_fr p0 hf8 (by simp)
   replace p1:=cellB_fr p1 hf8 (by simp)
   replace u1:=Rep.ext u1 hf8
   simp (implicitDefEqProofs:=false) only [go_sem,p0,p1]
   refine loopK_intro (i + 1,a8,c8,g8) (by show ls.length - (i + 1) < ls.length - i; omega) ?_ ?_
   ·have hv:l ++ (enc ls.length ++ (ls.take (i + 1)).flatMap (encT tAck))=((L ++ encT .num d0) ++ encT .bytes d1):=by rw [hss,hL,hE2]; simp
    simp only [hv]
    simp (implicitDefEqProofs:=false) only [go_sem,hw1]
    all_goals rfl
   ·have hv:l ++ (enc ls.length ++ (ls.take (i + 1)).flatMap (encT tAck))=((L ++ encT .num d0) ++ encT .bytes d1):=by rw [hss,hL,hE2]; simp
    refine ⟨hlt,?_,(fun k hk=>Nat.le_trans (hF7.size) (hg8 k hk)),hF8⟩
    simp only [hv]; exact ho8
  ·have hge':¬ (i:Int) < (ls.length:Int):=by omega
   simp (implicitDefEqProofs:=false) only [go_sem,hge']
   rw [List.take_of_length_le hge] at ho ⊢
   exact ⟨ai,ci,gi,rfl,ho,hg,hfr⟩
set_option maxHeartbeats 4000000 in
theorem fdigests_ok (ls:List (den tDigest)) (hok:okT (.list tDigest) ls) {H:Heap} {a:Option Addr} {c:Nat} {l:Bs} {al:Option Addr} {cl:Nat} (h:BsR H a l) (ha:Rep H [] (datT (.list tDigest) ls) [.slice al ls.length cl]) (hsz:l.length + (encT (.list tDigest) ls).length < 2^38) :
 HCalls Tryz.prog 71 #[.slice a l.length c,.slice al ls.length cl] H (Out H (l ++ encT (.list tDigest) ls)):=by
 have hlen:ls.length < 2^63:=hok.1
 have hE:encT (.list tDigest) ls=enc ls.length ++ ls.flatMap (encT tDigest):=rfl
 rw [hE] at hsz ⊢
 have hfl:=flat_len (encT_pos tDigest) ls
 simp only [List.length_append] at hsz
 refine calls_of_vc (args:=[_,_]) Tryz.func71 c71ok (Nat.le_of_ble_eq_true rfl) ?_
 simp (implicitDefEqProofs:=false) only [go_sem,c71]
 refine (fcount_ok ls.length (by omega) h (by omega)).mono ?_
 rintro v H0 ⟨a0,c0,g0,rfl,ho0,hg0,hf0⟩
 simp (implicitDefEqProofs:=false) only [go_sem]
 refine vc_loop (fun (x:Nat × Option Addr × Nat × Option Nat) H'=>x.1≤ls.length∧Own H' 5 1 (.slice x.2.1 (l ++ (enc ls.length ++ (ls.take x.1).flatMap (encT tDigest))).length x.2.2.1) (l ++ (enc ls.length ++ (ls.take x.1).flatMap (encT tDigest))).length ((l ++ (enc ls.length ++ (ls.take x.1).flatMap (encT tDigest))).map bv) x.2.2.2∧(∀ k,x.2.2.2=some k→H.size≤k)∧Fr [] H H')
  (fun x=>[(0,.slice x.2.1 (l ++ (enc ls.length ++ (ls.take x.1).flatMap (encT tDigest))).length x.2.2.1),(1,.slice al ls.length cl),(5,.int .i64 x.1)]) (fun x=>ls.length - x.1) (0,a0,c0,g0) ?_ ?_ ?_
 ·refine ⟨Nat.zero_le _,?_,hg0,hf0⟩
  simpa using ho0
 ·simp (implicitDefEqProofs:=false) only [go_sem]
  simp
 ·rintro ⟨i,ai,ci,gi⟩ H' ⟨hi,ho,hg,hfr⟩
  simp only at hi ho hg hfr
  rcases Nat.lt_or_ge i ls.length with hlt | hge
  ·have hlt':(i:Int) < (ls.length:Int):=by omega
   have h0:(0:Int)≤(i:Int):=by omega
   obtain ⟨bb,oo,cc,x,e1,_,hxl,hp4,hx⟩:=rep_at (Rep.ext ha hfr) i hlt
   cases e1
   have hokx:=hok.2 _ (List.getElem_mem hlt)
   have hw1:=succ_i64 i ls.length hlt (by omega)
   have hbi:=ho.bsR
   have hsp:=flat_split (encT tDigest) ls i hlt
   have hss:=flat_succ (encT tDigest) ls i hlt
   rw [hsp] at hsz
   simp only [List.length_append] at hsz
   obtain ⟨L,hL⟩:∃ L,L=l ++ (enc ls.length ++ (ls.take i).flatMap (encT tDigest)):=⟨_,rfl⟩
   have hLl:L.length=l.length + ((enc ls.length).length + ((ls.take i).flatMap (encT tDigest)).length):=by rw [hL]; simp
   rw [← hL] at ho hbi
   simp only [← hL]
   generalize ls[i]=d at hx hokx hsp hss hsz
   obtain ⟨x0,x1,x2,rfl⟩:=len3 hxl
   have p0:=hp4 0 (by decide)
   have p1:=hp4 1 (by decide)
   have p2:=hp4 2 (by decide)
   simp only [wid,Nat.add_zero,Nat.reduceAdd,Nat.mul_one,List.getElem?_cons_zero,List.getElem?_cons_succ] at p0 p1 p2
   obtain ⟨d0,d1,d2⟩:=d
   obtain ⟨o0,o1,o2⟩:=hokx
   obtain ⟨zu0,zru0,ezu0,u0,hru0⟩:=rep_pair.1 hx
   obtain ⟨zu1,zru1,ezu1,u1,hru1⟩:=rep_pair.1 hru0
   have u2:=hru1
   obtain ⟨ba0,bc0,wu0,_,_,_⟩:=rep_bytes.1 u0
   obtain ⟨ba1,bc1,wu1,_,_,_⟩:=rep_bytes.1 u1
   have wu2:=rep_num u2
   subst wu0 wu1 wu2
   simp only [ezu1,List.cons_append,List.nil_append,List.cons.injEq,and_true] at ezu0
   obtain ⟨rfl,rfl,rfl⟩:=ezu0
   have hE2:encT tDigest (d0,d1,d2)=encT .bytes d0 ++ (encT .bytes d1 ++ (encT .num d2)):=rfl
   rw [hE2] at hsz
   simp only [List.length_append] at hsz
   have hzb0:(encT .bytes d0).length=(enc (List.length d0)).length + List.length d0:=List.length_append
   have hzb1:(encT .bytes d1).length=(enc (List.length d1)).length + List.length d1:=List.length_append
   simp (implicitDefEqProofs:=false) only [go_sem,hlt',h0,p0,p1,p2]
   refine (fbytesT d0 hbi (csR_bsR.1 (rep_bytes_cs u0)) (by (try simp only [List.length_append]); omega)).mono ?_
   rintro v K9 ⟨a9,c9,g9,rfl,ho9,hg9,hf9⟩
   have hb9:=ho9.bsR
   have hF9:=hfr.trans hf9
   replace p0:=cellB_fr p0 hf9 (by simp)
   replace p1:=cellB_fr p1 hf9 (by simp)
   replace p2:=cellB_fr p2 hf9 (by simp)
   replace u0:=Rep.ext u0 hf9
   replace u1:=Rep.ext u1 hf9
   simp (implicitDefEqProofs:=false) only [go_sem,p0,p1,p2]
   refine (fbytesT d1 hb9 (csR_bsR.1 (rep_bytes_cs u1)) (by (try simp only [List.length_append]); omega)).mono ?_
   rintro v K10 ⟨a10,c10,g10,rfl,ho10,hg10,hf10⟩
   have hb10:=ho10.bsR
   have hF10:=hF9.trans hf10
   replace p0:=cellB_fr p0 hf10 (by simp)
   replace p1:=cellB_fr p1 hf10 (by simp)
   replace p2:=cellB_fr p2 hf10 (by simp)
   replace u0:=Rep.ext u0 hf10
   replace u1:=Rep.ext u1 hf10
   simp (implicitDefEqProofs:=false) only [go_sem,p0,p1,p2]
   refine (finteger_ok d2 o2 hb10 (by (try simp only [List.length_append]); omega)).mono ?_
   rintro v K11 ⟨a11,c11,g11,rfl,ho11,hg11,hf11⟩
   have hb11:=ho11.bsR
   have hF11:=hF10.trans hf11
   replace p0:=cellB_fr p0 hf11 (by simp)
   replace p1:=cellB_fr p1 hf11 (by simp)
   replace p2:=cellB_fr p2 hf11 (by simp)
   replace u0:=Rep.ext u0 hf11
   replace u1:=Rep.ext u1 hf11
   simp (implicitDefEqProofs:=false) only [go_sem,p0,p1,p2]
   refine loopK_intro (i + 1,a11,c11,g11) (by show ls.length - (i + 1) < ls.length - i; omega) ?_ ?_
   ·have hv:l ++ (enc ls.length ++ (ls.take (i + 1)).flatMap (encT tDigest))=(((L ++ encT .bytes d0) ++ encT .bytes d1) ++ encT .num d2):=by rw [hss,hL,hE2]; simp
    simp only [hv]
    simp (implicitDefEqProofs:=false) only [go_sem,hw1]
    all_goals rfl
   ·have hv:l ++ (enc ls.length ++ (ls.take (i + 1)).flatMap (encT tDigest))=(((L ++ encT .bytes d0) ++ encT .bytes d1) ++ encT .num d2):=by rw [hss,hL,hE2]; simp
    refine ⟨hlt,?_,(fun k hk=>Nat.le_trans (hF10.size) (hg11 k hk)),hF11⟩
    simp only [hv]; exact ho11
  ·have hge':¬ (i:Int) < (ls.length:Int):=by omega
   simp (implicitDefEqProofs:=false) only [go_sem,hge']
   rw [List.take_of_length_le hge] at ho ⊢
   exact ⟨ai,ci,gi,rfl,ho,hg,hfr⟩
set_option maxHeartbeats 4000000 in
theorem fobjects_ok (ls:List (den .text)) (hok:okT (.list .text) ls) {H:Heap} {a:Option Addr} {c:Nat} {l:Bs} {al:Option Addr} {cl:Nat} (h:BsR H a l) (ha:Rep H [] (datT (.list .text) ls) [.slice al ls.length cl]) (hsz:l.length + (encT (.list .text) ls).length < 2^38) :
 HCalls Tryz.prog 72 #[.slice a l.length c,.slice al ls.length cl] H (Out H (l ++ encT (.list .text) ls)):=by
 have hlen:ls.length < 2^63:=hok.1
 have hE:encT (.list .text) ls=enc ls.length ++ ls.flatMap (encT .text):=rfl
 rw [hE] at hsz ⊢
 have hfl:=flat_len (encT_pos .text) ls
 simp only [List.length_append] at hsz
 refine calls_of_vc (args:=[_,_]) Tryz.func72 c72ok (Nat.le_of_ble_eq_true rfl) ?_
 simp (implicitDefEqProofs:=false) only [go_sem,c72]
 refine (fcount_ok ls.length (by omega) h (by omega)).mono ?_
 rintro v H0 ⟨a0,c0,g0,rfl,ho0,hg0,hf0⟩
 simp (implicitDefEqProofs:=false) only [go_sem]
 refine vc_loop (fun (x:Nat × Option Addr × Nat × Option Nat) H'=>x.1≤ls.length∧Own H' 5 1 (.slice x.2.1 (l ++ (enc ls.length ++ (ls.take x.1).flatMap (encT .text))).length x.2.2.1) (l ++ (enc ls.length ++ (ls.take x.1).flatMap (encT .text))).length ((l ++ (enc ls.length ++ (ls.take x.1).flatMap (encT .text))).map bv) x.2.2.2∧(∀ k,x.2.2.2=some k→H.size≤k)∧Fr [] H H')
  (fun x=>[(0,.slice x.2.1 (l ++ (enc ls.length ++ (ls.take x.1).flatMap (encT .text))).length x.2.2.1),(1,.slice al ls.length cl),(5,.int .i64 x.1)]) (fun x=>ls.length - x.1) (0,a0,c0,g0) ?_ ?_ ?_
 ·refine ⟨Nat.zero_le _,?_,hg0,hf0⟩
  simpa using ho0
 ·simp (implicitDefEqProofs:=false) only [go_sem]
  simp
 ·rintro ⟨i,ai,ci,gi⟩ H' ⟨hi,ho,hg,hfr⟩
  simp only at hi ho hg hfr
  rcases Nat.lt_or_ge i ls.length with hlt | hge
  ·have hlt':(i:Int) < (ls.length:Int):=by omega
   have h0:(0:Int)≤(i:Int):=by omega
   obtain ⟨bb,oo,cc,x,e1,_,hxl,hp4,hx⟩:=rep_at (Rep.ext ha hfr) i hlt
   cases e1
   have hokx:=hok.2 _ (List.getElem_mem hlt)
   have hw1:=succ_i64 i ls.length hlt (by omega)
   have hbi:=ho.bsR
   have hsp:=flat_split (encT .text) ls i hlt
   have hss:=flat_succ (encT .text) ls i hlt
   rw [hsp] at hsz
   simp only [List.length_append] at hsz
   obtain ⟨L,hL⟩:∃ L,L=l ++ (enc ls.length ++ (ls.take i).flatMap (encT .text)):=⟨_,rfl⟩
   have hLl:L.length=l.length + ((enc ls.length).length + ((ls.take i).flatMap (encT .text)).length):=by rw [hL]; simp
   rw [← hL] at ho hbi
   simp only [← hL]
   generalize ls[i]=d at hx hokx hsp hss hsz
   obtain ⟨x0,rfl⟩:=len1 hxl
   have p0:=hp4 0 (by decide)
   simp only [wid,Nat.add_zero,Nat.reduceAdd,Nat.mul_one,List.getElem?_cons_zero,List.getElem?_cons_succ] at p0
   have:=rep_text hx
   simp only [List.cons.injEq,and_true] at this
   subst this
   have hzb:(encT .text d).length=(enc (List.length d)).length + List.length d:=List.length_append
   simp (implicitDefEqProofs:=false) only [go_sem,hlt',h0,p0]
   refine (ftextT d hbi (by (try simp only [List.length_append]); omega)).mono ?_
   rintro v K12 ⟨a12,c12,g12,rfl,ho12,hg12,hf12⟩
   have hb12:=ho12.bsR
   have hF12:=hfr.trans hf12
   replace p0:=cellB_fr p0 hf12 (by simp)
   simp (implicitDefEqProofs:=false) only [go_sem,p0]
   refine loopK_intro (i + 1,a12,c12,g12) (by show ls.length - (i + 1) < ls.length - i; omega) ?_ ?_
   ·have hv:l ++ (enc ls.length ++ (ls.take (i + 1)).flatMap (encT .text))=(L ++ encT .text d):=by rw [hss,hL]; simp
    simp only [hv]
    simp (implicitDefEqProofs:=false) only [go_sem,hw1]
    all_goals rfl
   ·have hv:l ++ (enc ls.length ++ (ls.take (i + 1)).flatMap (encT .text))=(L ++ encT .text d):=by rw [hss,hL]; simp
    refine ⟨hlt,?_,(fun k hk=>Nat.le_trans (hfr.size) (hg12 k hk)),hF12⟩
    simp only [hv]; exact ho12
  ·have hge':¬ (i:Int) < (ls.length:Int):=by omega
   simp (implicitDefEqProofs:=false) only [go_sem,hge']
   rw [List.take_of_length_le hge] at ho ⊢
   exact ⟨ai,ci,gi,rfl,ho,hg,hfr⟩
set_option maxHeartbeats 4000000 in
theorem fcommands_ok (ls:List (den tCmd)) (hok:okT (.list tCmd) ls) {H:Heap} {a:Option Addr} {c:Nat} {l:Bs} {al:Option Addr} {cl:Nat} (h:BsR H a l) (ha:Rep H [] (datT (.list tCmd) ls) [.slice al ls.length cl]) (hsz:l.length + (encT (.list tCmd) ls).length < 2^38) :
 HCalls Tryz.prog 65 #[.slice a l.length c,.slice al ls.length cl] H (Out H (l ++ encT (.list tCmd) ls)):=by
 have hlen:ls.length < 2^63:=hok.1
 have hE:encT (.list tCmd) ls=enc ls.length ++ ls.flatMap (encT tCmd):=rfl
 rw [hE] at hsz ⊢
 have hfl:=flat_len (encT_pos tCmd) ls
 simp only [List.length_append] at hsz
 refine calls_of_vc (args:=[_,_]) Tryz.func65 c65ok (Nat.le_of_ble_eq_true rfl) ?_
 simp (implicitDefEqProofs:=false) only [go_sem,c65]
 refine (fcount_ok ls.length (by omega) h (by omega)).mono ?_
 rintro v H0 ⟨a0,c0,g0,rfl,ho0,hg0,hf0⟩
 simp (implicitDefEqProofs:=false) only [go_sem]
 refine vc_loop (fun (x:Nat × Option Addr × Nat × Option Nat) H'=>x.1≤ls.length∧Own H' 5 1 (.slice x.2.1 (l ++ (enc ls.length ++ (ls.take x.1).flatMap (encT tCmd))).length x.2.2.1) (l ++ (enc ls.length ++ (ls.take x.1).flatMap (encT tCmd))).length ((l ++ (enc ls.length ++ (ls.take x.1).flatMap (encT tCmd))).map bv) x.2.2.2∧(∀ k,x.2.2.2=some k→H.size≤k)∧Fr [] H H')
  (fun x=>[(0,.slice x.2.1 (l ++ (enc ls.length ++ (ls.take x.1).flatMap (encT tCmd))).length x.2.2.1),(1,.slice al ls.length cl),(5,.int .i64 x.1)]) (fun x=>ls.length - x.1) (0,a0,c0,g0) ?_ ?_ ?_
 ·refine ⟨Nat.zero_le _,?_,hg0,hf0⟩
  simpa using ho0
 ·simp (implicitDefEqProofs:=false) only [go_sem]
  simp
 ·rintro ⟨i,ai,ci,gi⟩ H' ⟨hi,ho,hg,hfr⟩
  simp only at hi ho hg hfr
  rcases Nat.lt_or_ge i ls.length with hlt | hge
  ·have hlt':(i:Int) < (ls.length:Int):=by omega
   have h0:(0:Int)≤(i:Int):=by omega
   obtain ⟨bb,oo,cc,x,e1,_,hxl,hp4,hx⟩:=rep_at (Rep.ext ha hfr) i hlt
   cases e1
   have hokx:=hok.2 _ (List.getElem_mem hlt)
   have hw1:=succ_i64 i ls.length hlt (by omega)
   have hbi:=ho.bsR
   have hsp:=flat_split (encT tCmd) ls i hlt
   have hss:=flat_succ (encT tCmd) ls i hlt
   rw [hsp] at hsz
   simp only [List.length_append] at hsz
   obtain ⟨L,hL⟩:∃ L,L=l ++ (enc ls.length ++ (ls.take i).flatMap (encT tCmd)):=⟨_,rfl⟩
   have hLl:L.length=l.length + ((enc ls.length).length + ((ls.take i).flatMap (encT tCmd)).length):=by rw [hL]; simp
   rw [← hL] at ho hbi
   simp only [← hL]
   generalize ls[i]=d at hx hokx hsp hss hsz
   obtain ⟨x0,x1,x2,x3,x4,x5,rfl⟩:=len6 hxl
   have p0:=hp4 0 (by decide)
   have p1:=hp4 1 (by decide)
   have p2:=hp4 2 (by decide)
   have p3:=hp4 3 (by decide)
   have p4:=hp4 4 (by decide)
   have p5:=hp4 5 (by decide)
   simp only [wid,Nat.add_zero,Nat.reduceAdd,Nat.mul_one,List.getElem?_cons_zero,List.getElem?_cons_succ] at p0 p1 p2 p3 p4 p5
   obtain ⟨d0,d1,d2,d3,d4,d5⟩:=d
   obtain ⟨o0,o1,o2,o3,o4,o5⟩:=hokx
   obtain ⟨zu0,zru0,ezu0,u0,hru0⟩:=rep_pair.1 hx
   obtain ⟨zu1,zru1,ezu1,u1,hru1⟩:=rep_pair.1 hru0
   obtain ⟨zu2,zru2,ezu2,u2,hru2⟩:=rep_pair.1 hru1
   obtain ⟨zu3,zru3,ezu3,u3,hru3⟩:=rep_pair.1 hru2
   obtain ⟨zu4,zru4,ezu4,u4,hru4⟩:=rep_pair.1 hru3
   have u5:=hru4
   have wu0:=rep_num u0
   have wu1:=rep_num u1
   have wu2:=rep_num u2
   obtain ⟨ba3,bc3,wu3,hl3,hm3⟩:=rep_list u3
   have wu4:=rep_num u4
   obtain ⟨ba5,bc5,wu5,_,_,_⟩:=rep_bytes.1 u5
   subst wu0 wu1 wu2 wu3 wu4 wu5
   simp only [ezu1,ezu2,ezu3,ezu4,List.cons_append,List.nil_append,List.cons.injEq,and_true] at ezu0
   obtain ⟨rfl,rfl,rfl,rfl,rfl,rfl⟩:=ezu0
   have hE2:encT tCmd (d0,d1,d2,d3,d4,d5)=encT .num d0 ++ (encT .num d1 ++ (encT .num d2 ++ (encT (.list tWrite) d3 ++ (encT .num d4 ++ (encT .bytes d5))))):=rfl
   have hE3:encT (.list tWrite) d3=enc (List.length d3) ++ List.flatMap (encT tWrite) d3:=rfl
   rw [hE2,hE3] at hsz
   simp only [List.length_append] at hsz
   have hll:List.length d3 < 2^63:=o3.1
   have hzb5:(encT .bytes d5).length=(enc (List.length d5)).length + List.length d5:=List.length_append
   simp (implicitDefEqProofs:=false) only [go_sem,hlt',h0,p0,p1,p2,p3,p4,p5]
   refine NewP_intro fun A hA hfA hsA=>?_
   simp (implicitDefEqProofs:=false) only [go_sem]
   refine Sto_all hA rfl (by simp [Value.oneCell']) fun A2 hA2 hfA2 hsA2=>?_
   have hfn:=new_fr hfA hfA2
   have cA:=hA2.cell
   have hbA:=hbi.ext hfn
   have hFA:=hfr.trans hfn
   replace u3:=Rep.ext u3 hfn
   replace u5:=Rep.ext u5 hfn
   simp (implicitDefEqProofs:=false) only [go_sem,cA]
   refine (finteger_ok d0 o0 hbA (by (try simp only [List.length_append]); omega)).mono ?_
   rintro v K13 ⟨a13,c13,g13,rfl,ho13,hg13,hf13⟩
   have hb13:=ho13.bsR
   have hF13:=hFA.trans hf13
   replace u3:=Rep.ext u3 hf13
   replace u5:=Rep.ext u5 hf13
   replace hA2:=hA2.ext hf13
   replace cA:=hA2.cell
   simp (implicitDefEqProofs:=false) only [go_sem,cA]
   refine (finteger_ok d1 o1 hb13 (by (try simp only [List.length_append]); omega)).mono ?_
   rintro v K14 ⟨a14,c14,g14,rfl,ho14,hg14,hf14⟩
   have hb14:=ho14.bsR
   have hF14:=hF13.trans hf14
   replace u3:=Rep.ext u3 hf14
   replace u5:=Rep.ext u5 hf14
   replace hA2:=hA2.ext hf14
   replace cA:=hA2.cell
   simp (implicitDefEqProofs:=false) only [go_sem,cA]
   refine (finteger_ok d2 o2 hb14 (by (try simp only [List.length_append]); omega)).mono ?_
   rintro v K15 ⟨a15,c15,g15,rfl,ho15,hg15,hf15⟩
   have hb15:=ho15.bsR
   have hF15:=hF14.trans hf15
   replace u3:=Rep.ext u3 hf15
   replace u5:=Rep.ext u5 hf15
   replace hA2:=hA2.ext hf15
   replace cA:=hA2.cell
   simp (implicitDefEqProofs:=false) only [go_sem,cA]
   refine (fcount_ok (List.length d3) (by omega) hb15 (by (try simp only [List.length_append]); omega)).mono ?_
   have hFpre:=hF15
   rintro v K16 ⟨a16,c16,g16,rfl,ho16,hg16,hf16⟩
   have hb16:=ho16.bsR
   have hF16:=hF15.trans hf16
   replace u3:=Rep.ext u3 hf16
   replace u5:=Rep.ext u5 hf16
   replace hA2:=hA2.ext hf16
   replace cA:=hA2.cell
   simp (implicitDefEqProofs:=false) only [go_sem,cA]
   obtain ⟨M,hM⟩:∃ M,M=((((L ++ encT .num d0) ++ encT .num d1) ++ encT .num d2) ++ enc (List.length d3)):=⟨_,rfl⟩
   have hMl:M.length=L.length + (encT .num d0).length + (encT .num d1).length + (encT .num d2).length + (enc (List.length d3)).length:=by rw [hM]; simp only [List.length_append]
   have ho9:=ho16
   rw [← hM] at ho9
   have hMsz:M.length + ((List.flatMap (encT tWrite) d3).length) < 2^38:=by omega
   refine vc_loop (fun (x:Nat × Option Addr × Nat × Option Nat) H''=>x.1≤List.length d3∧Own H'' 5 1 (.slice x.2.1 (M ++ (d3.take x.1).flatMap (encT tWrite)).length x.2.2.1) (M ++ (d3.take x.1).flatMap (encT tWrite)).length ((M ++ (d3.take x.1).flatMap (encT tWrite)).map bv) x.2.2.2∧(∀ k,x.2.2.2=some k→H.size≤k)∧Fr [] K16 H'')
    (fun x=>[(0,.slice x.2.1 (M ++ (d3.take x.1).flatMap (encT tWrite)).length x.2.2.1),(1,.slice (some ⟨bb,oo,none⟩) ls.length cl),(5,.int .i64 i),(6,.pointer (some ⟨H'.size,0,none⟩)),(7,.int .i64 x.1)]) (fun x=>List.length d3 - x.1) (0,a16,c16,g16) ?_ ?_ ?_
   ·refine ⟨Nat.zero_le _,?_,fun k hk=>Nat.le_trans (hFpre.size) (Nat.le_trans (by have:=hf16.size; omega) (hg16 k hk)),Fr.refl _ _⟩
    simpa using ho9
   ·simp (implicitDefEqProofs:=false) only [go_sem]
    simp [hM]
   ·rintro ⟨k,ak,ck,gk⟩ H'' ⟨hk,hok2,hgk,hfk⟩
    simp only at hk hok2 hgk hfk
    have hA3:=hA2.ext hfk
    have cA3:=hA3.cell
    have hFk:=hF16.trans hfk
    replace u3:=Rep.ext u3 hfk
    replace u5:=Rep.ext u5 hfk
    rcases Nat.lt_or_ge k (List.length d3) with hlt2 | hge2
    ·have hk1:(k:Int) < (List.length d3:Int):=by omega
     have hk0:(0:Int)≤(k:Int):=by omega
     obtain ⟨b2,o2x,c2,x2,e2,_,hxl2,hp2,hx2⟩:=rep_at u3 k hlt2
     cases e2
     have hok3:=o3.2 _ (List.getElem_mem hlt2)
     have hw2:=succ_i64 k (List.length d3) hlt2 (by omega)
     have hbk:=hok2.bsR
     have hsp2:=flat_split (encT tWrite) d3 k hlt2
     have hss2:=flat_succ (encT tWrite) d3 k hlt2
     have hsz2:=hMsz
     rw [hsp2] at hsz2
     simp only [List.length_append] at hsz2
     obtain ⟨L2,hL2⟩:∃ L2,L2=M ++ (d3.take k).flatMap (encT tWrite):=⟨_,rfl⟩
     have hL2l:L2.length=M.length + ((d3.take k).flatMap (encT tWrite)).length:=by rw [hL2]; simp
     rw [← hL2] at hok2 hbk
     simp only [← hL2]
     generalize d3[k]=dd at hx2 hok3 hsp2 hss2 hsz2
     obtain ⟨y0,y1,rfl⟩:=len2 hxl2
     have r0:=hp2 0 (by decide)
     have r1:=hp2 1 (by decide)
     simp only [wid,Nat.add_zero,Nat.reduceAdd,Nat.mul_one,List.getElem?_cons_zero,List.getElem?_cons_succ] at r0 r1
     obtain ⟨b0,b1⟩:=dd
     obtain ⟨_,_⟩:=hok3
     obtain ⟨zz,zr,ezz,w0,w1⟩:=rep_pair.1 hx2
     have e3:=rep_text w0
     obtain ⟨bx,bcx,e4,_,_,_⟩:=rep_bytes.1 w1
     subst e3 e4
     simp only [List.cons_append,List.nil_append,List.cons.injEq,and_true] at ezz
     obtain ⟨rfl,rfl⟩:=ezz
     have hE4:encT tWrite (b0,b1)=encT .text b0 ++ encT .bytes b1:=rfl
     rw [hE4] at hsz2
     simp only [List.length_append] at hsz2
     have hy0:(encT .text b0).length=(enc (List.length b0)).length + List.length b0:=List.length_append
     have hy1:(encT .bytes b1).length=(enc (List.length b1)).length + List.length b1:=List.length_append
     simp (implicitDefEqProofs:=false) only [go_sem,hk1,hk0,cA3,r0,r1]
     refine (ftextT b0 hbk (by (try simp only [List.length_append]); omega)).mono ?_
     rintro v K17 ⟨a17,c17,g17,rfl,ho17,hg17,hf17⟩
     have hb17:=ho17.bsR
     have hF17:=hFk.trans hf17
     replace r0:=cellB_fr r0 hf17 (by simp)
     replace r1:=cellB_fr r1 hf17 (by simp)
     replace w1:=Rep.ext w1 hf17
     replace hA3:=hA3.ext hf17
     replace cA3:=hA3.cell
     simp (implicitDefEqProofs:=false) only [go_sem,r0,r1,cA3]
     refine (fbytesT b1 hb17 (csR_bsR.1 (rep_bytes_cs w1)) (by (try simp only [List.length_append]); omega)).mono ?_
     rintro v K18 ⟨a18,c18,g18,rfl,ho18,hg18,hf18⟩
     have hb18:=ho18.bsR
     have hF18:=hF17.trans hf18
     replace r0:=cellB_fr r0 hf18 (by simp)
     replace r1:=cellB_fr r1 hf18 (by simp)
     replace w1:=Rep.ext w1 hf18
     replace hA3:=hA3.ext hf18
     replace cA3:=hA3.cell
     simp (implicitDefEqProofs:=false) only [go_sem,r0,r1,cA3]
     refine loopK_intro (k + 1,a18,c18,g18) (by show List.length d3 - (k + 1) < List.length d3 - k; omega) ?_ ?_
     ·have hv:M ++ (d3.take (k + 1)).flatMap (encT tWrite)=((L2 ++ encT .text b0) ++ encT .bytes b1):=by rw [hss2,hL2,hE4]; simp
      simp only [hv]
      simp (implicitDefEqProofs:=false) only [go_sem,hw2]
      all_goals rfl
     ·have hv:M ++ (d3.take (k + 1)).flatMap (encT tWrite)=((L2 ++ encT .text b0) ++ encT .bytes b1):=by rw [hss2,hL2,hE4]; simp
      refine ⟨hlt2,?_,fun x hx=>Nat.le_trans (hF17.size) (hg18 x hx),hfk.trans (hf17.trans hf18)⟩
      simp only [hv]; exact ho18
    ·have hge3:¬ (k:Int) < (List.length d3:Int):=by omega
     rw [List.take_of_length_le hge2] at hok2
     simp only [List.take_of_length_le hge2]
     have hbz:=hok2.bsR
     simp (implicitDefEqProofs:=false) only [go_sem,hge3,cA3]
     refine (finteger_ok d4 o4 hbz (by simp only [List.length_append]; omega)).mono ?_
     rintro v K19 ⟨a19,c19,g19,rfl,ho19,hg19,hf19⟩
     have hb19:=ho19.bsR
     have hF19:=hFk.trans hf19
     replace u5:=Rep.ext u5 hf19
     replace hA3:=hA3.ext hf19
     replace cA3:=hA3.cell
     simp (implicitDefEqProofs:=false) only [go_sem,cA3]
     refine (fbytesT d5 hb19 (csR_bsR.1 (rep_bytes_cs u5)) (by (try simp only [List.length_append]); omega)).mono ?_
     rintro v K20 ⟨a20,c20,g20,rfl,ho20,hg20,hf20⟩
     have hb20:=ho20.bsR
     have hF20:=hF19.trans hf20
     replace u5:=Rep.ext u5 hf20
     replace hA3:=hA3.ext hf20
     replace cA3:=hA3.cell
     simp (implicitDefEqProofs:=false) only [go_sem,cA3]
     refine loopK_intro (i + 1,a20,c20,g20) (by show ls.length - (i + 1) < ls.length - i; omega) ?_ ?_
     ·have hv:l ++ (enc ls.length ++ (ls.take (i + 1)).flatMap (encT tCmd))=(((M ++ d3.flatMap (encT tWrite)) ++ encT .num d4) ++ encT .bytes d5):=by rw [hss,hE2,hE3,hM,hL]; simp
      simp only [hv]
      simp (implicitDefEqProofs:=false) only [go_sem,hw1]
      all_goals rfl
     ·have hv:l ++ (enc ls.length ++ (ls.take (i + 1)).flatMap (encT tCmd))=(((M ++ d3.flatMap (encT tWrite)) ++ encT .num d4) ++ encT .bytes d5):=by rw [hss,hE2,hE3,hM,hL]; simp
      refine ⟨hlt,?_,(fun k hk=>Nat.le_trans (hF19.size) (hg20 k hk)),hF20⟩
      simp only [hv]; exact ho20
  ·have hge':¬ (i:Int) < (ls.length:Int):=by omega
   simp (implicitDefEqProofs:=false) only [go_sem,hge']
   rw [List.take_of_length_le hge] at ho ⊢
   exact ⟨ai,ci,gi,rfl,ho,hg,hfr⟩
set_option maxHeartbeats 4000000 in
theorem fitems_ok (ls:List (den tItem)) (hok:okT (.list tItem) ls) {H:Heap} {a:Option Addr} {c:Nat} {l:Bs} {al:Option Addr} {cl:Nat} (h:BsR H a l) (ha:Rep H [] (datT (.list tItem) ls) [.slice al ls.length cl]) (hsz:l.length + (encT (.list tItem) ls).length < 2^38) :
 HCalls Tryz.prog 73 #[.slice a l.length c,.slice al ls.length cl] H (Out H (l ++ encT (.list tItem) ls)):=by
 have hlen:ls.length < 2^63:=hok.1
 have hE:encT (.list tItem) ls=enc ls.length ++ ls.flatMap (encT tItem):=rfl
 rw [hE] at hsz ⊢
 have hfl:=flat_len (encT_pos tItem) ls
 simp only [List.length_append] at hsz
 refine calls_of_vc (args:=[_,_]) Tryz.func73 c73ok (Nat.le_of_ble_eq_true rfl) ?_
 simp (implicitDefEqProofs:=false) only [go_sem,c73]
 refine (fcount_ok ls.length (by omega) h (by omega)).mono ?_
 rintro v H0 ⟨a0,c0,g0,rfl,ho0,hg0,hf0⟩
 simp (implicitDefEqProofs:=false) only [go_sem]
 refine vc_loop (fun (x:Nat × Option Addr × Nat × Option Nat) H'=>x.1≤ls.length∧Own H' 5 1 (.slice x.2.1 (l ++ (enc ls.length ++ (ls.take x.1).flatMap (encT tItem))).length x.2.2.1) (l ++ (enc ls.length ++ (ls.take x.1).flatMap (encT tItem))).length ((l ++ (enc ls.length ++ (ls.take x.1).flatMap (encT tItem))).map bv) x.2.2.2∧(∀ k,x.2.2.2=some k→H.size≤k)∧Fr [] H H')
  (fun x=>[(0,.slice x.2.1 (l ++ (enc ls.length ++ (ls.take x.1).flatMap (encT tItem))).length x.2.2.1),(1,.slice al ls.length cl),(5,.int .i64 x.1)]) (fun x=>ls.length - x.1) (0,a0,c0,g0) ?_ ?_ ?_
 ·refine ⟨Nat.zero_le _,?_,hg0,hf0⟩
  simpa using ho0
 ·simp (implicitDefEqProofs:=false) only [go_sem]
  simp
 ·rintro ⟨i,ai,ci,gi⟩ H' ⟨hi,ho,hg,hfr⟩
  simp only at hi ho hg hfr
  rcases Nat.lt_or_ge i ls.length with hlt | hge
  ·have hlt':(i:Int) < (ls.length:Int):=by omega
   have h0:(0:Int)≤(i:Int):=by omega
   obtain ⟨bb,oo,cc,x,e1,_,hxl,hp4,hx⟩:=rep_at (Rep.ext ha hfr) i hlt
   cases e1
   have hokx:=hok.2 _ (List.getElem_mem hlt)
   have hw1:=succ_i64 i ls.length hlt (by omega)
   have hbi:=ho.bsR
   have hsp:=flat_split (encT tItem) ls i hlt
   have hss:=flat_succ (encT tItem) ls i hlt
   rw [hsp] at hsz
   simp only [List.length_append] at hsz
   obtain ⟨L,hL⟩:∃ L,L=l ++ (enc ls.length ++ (ls.take i).flatMap (encT tItem)):=⟨_,rfl⟩
   have hLl:L.length=l.length + ((enc ls.length).length + ((ls.take i).flatMap (encT tItem)).length):=by rw [hL]; simp
   rw [← hL] at ho hbi
   simp only [← hL]
   generalize ls[i]=d at hx hokx hsp hss hsz
   obtain ⟨x0,x1,x2,x3,rfl⟩:=len4 hxl
   have p0:=hp4 0 (by decide)
   have p1:=hp4 1 (by decide)
   have p2:=hp4 2 (by decide)
   have p3:=hp4 3 (by decide)
   simp only [wid,Nat.add_zero,Nat.reduceAdd,Nat.mul_one,List.getElem?_cons_zero,List.getElem?_cons_succ] at p0 p1 p2 p3
   obtain ⟨d0,d1,d2,d3⟩:=d
   obtain ⟨o0,o1,o2,o3⟩:=hokx
   obtain ⟨zu0,zru0,ezu0,u0,hru0⟩:=rep_pair.1 hx
   obtain ⟨zu1,zru1,ezu1,u1,hru1⟩:=rep_pair.1 hru0
   obtain ⟨zu2,zru2,ezu2,u2,hru2⟩:=rep_pair.1 hru1
   have u3:=hru2
   have wu0:=rep_text u0
   have wu1:=rep_bool u1
   obtain ⟨ba2,bc2,wu2,_,_,_⟩:=rep_bytes.1 u2
   obtain ⟨ba3,bc3,wu3,hl3,hm3⟩:=rep_list u3
   subst wu0 wu1 wu2 wu3
   simp only [ezu1,ezu2,List.cons_append,List.nil_append,List.cons.injEq,and_true] at ezu0
   obtain ⟨rfl,rfl,rfl,rfl⟩:=ezu0
   have hE2:encT tItem (d0,d1,d2,d3)=encT .text d0 ++ (encT .bool d1 ++ (encT .bytes d2 ++ (encT (.list .bytes) d3))):=rfl
   have hE3:encT (.list .bytes) d3=enc (List.length d3) ++ List.flatMap (encT .bytes) d3:=rfl
   rw [hE2,hE3] at hsz
   simp only [List.length_append] at hsz
   have hll:List.length d3 < 2^63:=o3.1
   have hzb0:(encT .text d0).length=(enc (List.length d0)).length + List.length d0:=List.length_append
   have hzb2:(encT .bytes d2).length=(enc (List.length d2)).length + List.length d2:=List.length_append
   simp (implicitDefEqProofs:=false) only [go_sem,hlt',h0,p0,p1,p2,p3]
   refine NewP_intro fun A hA hfA hsA=>?_
   simp (implicitDefEqProofs:=false) only [go_sem]
   refine Sto_all hA rfl (by simp [Value.oneCell']) fun A2 hA2 hfA2 hsA2=>?_
   have hfn:=new_fr hfA hfA2
   have cA:=hA2.cell
   have hbA:=hbi.ext hfn
   have hFA:=hfr.trans hfn
   replace u2:=Rep.ext u2 hfn
   replace u3:=Rep.ext u3 hfn
   simp (implicitDefEqProofs:=false) only [go_sem,cA]
   refine (ftextT d0 hbA (by (try simp only [List.length_append]); omega)).mono ?_
   rintro v K21 ⟨a21,c21,g21,rfl,ho21,hg21,hf21⟩
   have hb21:=ho21.bsR
   have hF21:=hFA.trans hf21
   replace u2:=Rep.ext u2 hf21
   replace u3:=Rep.ext u3 hf21
   replace hA2:=hA2.ext hf21
   replace cA:=hA2.cell
   simp (implicitDefEqProofs:=false) only [go_sem,cA]
   refine (fboolT d1 hb21 (by (try simp only [List.length_append]); omega)).mono ?_
   rintro v K22 ⟨a22,c22,g22,rfl,ho22,hg22,hf22⟩
   have hb22:=ho22.bsR
   have hF22:=hF21.trans hf22
   replace u2:=Rep.ext u2 hf22
   replace u3:=Rep.ext u3 hf22
   replace hA2:=hA2.ext hf22
   replace cA:=hA2.cell
   simp (implicitDefEqProofs:=false) only [go_sem,cA]
   refine (fbytesT d2 hb22 (csR_bsR.1 (rep_bytes_cs u2)) (by (try simp only [List.length_append]); omega)).mono ?_
   rintro v K23 ⟨a23,c23,g23,rfl,ho23,hg23,hf23⟩
   have hb23:=ho23.bsR
   have hF23:=hF22.trans hf23
   replace u2:=Rep.ext u2 hf23
   replace u3:=Rep.ext u3 hf23
   replace hA2:=hA2.ext hf23
   replace cA:=hA2.cell
   simp (implicitDefEqProofs:=false) only [go_sem,cA]
   refine (fcount_ok (List.length d3) (by omega) hb23 (by (try simp only [List.length_append]); omega)).mono ?_
   have hFpre:=hF23
   rintro v K24 ⟨a24,c24,g24,rfl,ho24,hg24,hf24⟩
   have hb24:=ho24.bsR
   have hF24:=hF23.trans hf24
   replace u2:=Rep.ext u2 hf24
   replace u3:=Rep.ext u3 hf24
   replace hA2:=hA2.ext hf24
   replace cA:=hA2.cell
   simp (implicitDefEqProofs:=false) only [go_sem,cA]
   obtain ⟨M,hM⟩:∃ M,M=((((L ++ encT .text d0) ++ encT .bool d1) ++ encT .bytes d2) ++ enc (List.length d3)):=⟨_,rfl⟩
   have hMl:M.length=L.length + (encT .text d0).length + (encT .bool d1).length + (encT .bytes d2).length + (enc (List.length d3)).length:=by rw [hM]; simp only [List.length_append]
   have ho9:=ho24
   rw [← hM] at ho9
   have hMsz:M.length + ((List.flatMap (encT .bytes) d3).length) < 2^38:=by omega
   refine vc_loop (fun (x:Nat × Option Addr × Nat × Option Nat) H''=>x.1≤List.length d3∧Own H'' 5 1 (.slice x.2.1 (M ++ (d3.take x.1).flatMap (encT .bytes)).length x.2.2.1) (M ++ (d3.take x.1).flatMap (encT .bytes)).length ((M ++ (d3.take x.1).flatMap (encT .bytes)).map bv) x.2.2.2∧(∀ k,x.2.2.2=some k→H.size≤k)∧Fr [] K24 H'')
    (fun x=>[(0,.slice x.2.1 (M ++ (d3.take x.1).flatMap (encT .bytes)).length x.2.2.1),(1,.slice (some ⟨bb,oo,none⟩) ls.length cl),(5,.int .i64 i),(6,.pointer (some ⟨H'.size,0,none⟩)),(7,.int .i64 x.1)]) (fun x=>List.length d3 - x.1) (0,a24,c24,g24) ?_ ?_ ?_
   ·refine ⟨Nat.zero_le _,?_,fun k hk=>Nat.le_trans (hFpre.size) (Nat.le_trans (by have:=hf24.size; omega) (hg24 k hk)),Fr.refl _ _⟩
    simpa using ho9
   ·simp (implicitDefEqProofs:=false) only [go_sem]
    simp [hM]
   ·rintro ⟨k,ak,ck,gk⟩ H'' ⟨hk,hok2,hgk,hfk⟩
    simp only at hk hok2 hgk hfk
    have hA3:=hA2.ext hfk
    have cA3:=hA3.cell
    have hFk:=hF24.trans hfk
    replace u2:=Rep.ext u2 hfk
    replace u3:=Rep.ext u3 hfk
    rcases Nat.lt_or_ge k (List.length d3) with hlt2 | hge2
    ·have hk1:(k:Int) < (List.length d3:Int):=by omega
     have hk0:(0:Int)≤(k:Int):=by omega
     obtain ⟨b2,o2x,c2,x2,e2,_,hxl2,hp2,hx2⟩:=rep_at u3 k hlt2
     cases e2
     have hok3:=o3.2 _ (List.getElem_mem hlt2)
     have hw2:=succ_i64 k (List.length d3) hlt2 (by omega)
     have hbk:=hok2.bsR
     have hsp2:=flat_split (encT .bytes) d3 k hlt2
     have hss2:=flat_succ (encT .bytes) d3 k hlt2
     have hsz2:=hMsz
     rw [hsp2] at hsz2
     simp only [List.length_append] at hsz2
     obtain ⟨L2,hL2⟩:∃ L2,L2=M ++ (d3.take k).flatMap (encT .bytes):=⟨_,rfl⟩
     have hL2l:L2.length=M.length + ((d3.take k).flatMap (encT .bytes)).length:=by rw [hL2]; simp
     rw [← hL2] at hok2 hbk
     simp only [← hL2]
     generalize d3[k]=dd at hx2 hok3 hsp2 hss2 hsz2
     obtain ⟨y0,rfl⟩:=len1 hxl2
     have r0:=hp2 0 (by decide)
     simp only [wid,Nat.add_zero,Nat.reduceAdd,Nat.mul_one,List.getElem?_cons_zero,List.getElem?_cons_succ] at r0
     obtain ⟨bx,bcx,e4,_,_,_⟩:=rep_bytes.1 hx2
     simp only [List.cons.injEq,and_true] at e4
     subst e4
     have hy1:(encT .bytes dd).length=(enc (List.length dd)).length + List.length dd:=List.length_append
     simp (implicitDefEqProofs:=false) only [go_sem,hk1,hk0,cA3,r0]
     refine (fbytesT dd hbk (csR_bsR.1 (rep_bytes_cs hx2)) (by (try simp only [List.length_append]); omega)).mono ?_
     rintro v K25 ⟨a25,c25,g25,rfl,ho25,hg25,hf25⟩
     have hb25:=ho25.bsR
     have hF25:=hFk.trans hf25
     replace r0:=cellB_fr r0 hf25 (by simp)
     replace hA3:=hA3.ext hf25
     replace cA3:=hA3.cell
     simp (implicitDefEqProofs:=false) only [go_sem,r0,cA3]
     refine loopK_intro (k + 1,a25,c25,g25) (by show List.length d3 - (k + 1) < List.length d3 - k; omega) ?_ ?_
     ·have hv:M ++ (d3.take (k + 1)).flatMap (encT .bytes)=(L2 ++ encT .bytes dd):=by rw [hss2,hL2]; simp
      simp only [hv]
      simp (implicitDefEqProofs:=false) only [go_sem,hw2]
      all_goals rfl
     ·have hv:M ++ (d3.take (k + 1)).flatMap (encT .bytes)=(L2 ++ encT .bytes dd):=by rw [hss2,hL2]; simp
      refine ⟨hlt2,?_,fun x hx=>Nat.le_trans (hFk.size) (hg25 x hx),hfk.trans hf25⟩
      simp only [hv]; exact ho25
    ·have hge3:¬ (k:Int) < (List.length d3:Int):=by omega
     rw [List.take_of_length_le hge2] at hok2
     simp only [List.take_of_length_le hge2]
     have hbz:=hok2.bsR
     simp (implicitDefEqProofs:=false) only [go_sem,hge3,cA3]
     refine loopK_intro (i + 1,ak,ck,gk) (by show ls.length - (i + 1) < ls.length - i; omega) ?_ ?_
     ·have hv:l ++ (enc ls.length ++ (ls.take (i + 1)).flatMap (encT tItem))=(M ++ d3.flatMap (encT .bytes)):=by rw [hss,hE2,hE3,hM,hL]; simp
      simp only [hv]
      simp (implicitDefEqProofs:=false) only [go_sem,hw1]
      all_goals rfl
     ·have hv:l ++ (enc ls.length ++ (ls.take (i + 1)).flatMap (encT tItem))=(M ++ d3.flatMap (encT .bytes)):=by rw [hss,hE2,hE3,hM,hL]; simp
      refine ⟨hlt,?_,hgk,hFk⟩
      simp only [hv]; exact hok2
  ·have hge':¬ (i:Int) < (ls.length:Int):=by omega
   simp (implicitDefEqProofs:=false) only [go_sem,hge']
   rw [List.take_of_length_le hge] at ho ⊢
   exact ⟨ai,ci,gi,rfl,ho,hg,hfr⟩
set_option maxHeartbeats 4000000 in
theorem fcertificate_ok (d:den tCert) (hok:okT tCert d) {H:Heap} {a:Option Addr} {c:Nat} {l:Bs} {cs:List Value} (h:BsR H a l) (ha:Rep H [] (datT tCert d) cs) (hsz:l.length + (encT tCert d).length < 2^38):HCalls Tryz.prog 120 #[.slice a l.length c,.agg cs.toArray] H (Out H (l ++ encT tCert d)):=by
 obtain ⟨d0,d1,d2,d3,d4,d5,d6⟩:=d
 obtain ⟨o0,o1,o2,o3,o4,o5,o6⟩:=hok
 obtain ⟨c0,r0,rfl,u0,ha⟩:=rep_pair.1 ha
 obtain ⟨c1,r1,rfl,u1,ha⟩:=rep_pair.1 ha
 obtain ⟨c2,r2,rfl,u2,ha⟩:=rep_pair.1 ha
 obtain ⟨c3,r3,rfl,u3,ha⟩:=rep_pair.1 ha
 obtain ⟨c4,r4,rfl,u4,ha⟩:=rep_pair.1 ha
 obtain ⟨c5,r5,rfl,u5,ha⟩:=rep_pair.1 ha
 have u6:=ha
 obtain ⟨y0,y1,y2,rfl⟩:=len3 (rep_wid u0)
 obtain ⟨ba1,bc1,rfl,hl1,hm1⟩:=rep_list u1
 obtain ⟨ba2,bc2,rfl,hl2,hm2⟩:=rep_list u2
 obtain ⟨ba3,bc3,rfl,hl3,hm3⟩:=rep_list u3
 obtain ⟨ba6,bc6,rfl,hl6,hm6⟩:=rep_list u6
 have:=rep_num u4; subst this
 obtain ⟨ba5,bc5,rfl,_,_,_⟩:=rep_bytes.1 u5
 have hE:encT tCert (d0,d1,d2,d3,d4,d5,d6)=encT tRound d0 ++ (encT (.list tRead) d1 ++ (encT (.list tCmd) d2 ++ (encT (.list tCmd) d3 ++ (encT .num d4 ++ (encT .bytes d5 ++ (encT (.list tAck) d6)))))):=rfl
 rw [hE] at hsz ⊢
 simp only [List.length_append] at hsz
 have hz5:(encT .bytes d5).length=(enc (List.length d5)).length + List.length d5:=List.length_append
 refine calls_of_vc (args:=[_,_]) Tryz.func120 c120ok (Nat.le_of_ble_eq_true rfl) ?_
 simp (implicitDefEqProofs:=false) only [go_sem,c120]
 refine NewP_intro fun H1 hB hf1 hs1=>?_
 have cB:=hB.cell
 simp (implicitDefEqProofs:=false) only [go_sem,cB]
 refine NewP_intro fun H2 hC hf2 hs2=>?_
 simp (implicitDefEqProofs:=false) only [go_sem]
 refine Sto_all hC rfl ?_ fun H3 hC3 hf3 hs3=>?_
 ·intro v hv
  simp only [List.mem_cons,List.not_mem_nil,or_false] at hv
  rcases hv with rfl | rfl | rfl | rfl | rfl | rfl | rfl | rfl
  all_goals first | rfl | exact rep_one u0 _ (by simp)
 have hf0:=hf1.trans (new_fr hf2 hf3)
 have hB3:=(hB.ext hf2).fr hf3 (by simp; omega)
 have cB3:=hB3.cell
 have cC:=hC3.cell
 have hb0:=h.ext hf0
 replace u0:=Rep.ext u0 hf0
 replace u1:=Rep.ext u1 hf0
 replace u2:=Rep.ext u2 hf0
 replace u3:=Rep.ext u3 hf0
 replace u5:=Rep.ext u5 hf0
 replace u6:=Rep.ext u6 hf0
 simp (implicitDefEqProofs:=false) only [go_sem,cB3,cC]
 refine (fround_ok d0 o0 hb0 u0 (by (try simp only [List.length_append]); omega)).mono ?_
 rintro v K26 ⟨a26,c26,g26,rfl,ho26,hg26,hf26⟩
 have hb26:=ho26.bsR
 have hF26:=hf0.trans hf26
 replace u0:=Rep.ext u0 hf26
 replace u1:=Rep.ext u1 hf26
 replace u2:=Rep.ext u2 hf26
 replace u3:=Rep.ext u3 hf26
 replace u5:=Rep.ext u5 hf26
 replace u6:=Rep.ext u6 hf26
 replace hB3:=hB3.ext hf26
 replace cB3:=hB3.cell
 replace hC3:=hC3.ext hf26
 replace cC:=hC3.cell
 simp (implicitDefEqProofs:=false) only [go_sem,cB3,cC]
 refine (freads_ok d1 o1 hb26 u1 (by (try simp only [List.length_append]); omega)).mono ?_
 rintro v K27 ⟨a27,c27,g27,rfl,ho27,hg27,hf27⟩
 have hb27:=ho27.bsR
 have hF27:=hF26.trans hf27
 replace u0:=Rep.ext u0 hf27
 replace u1:=Rep.ext u1 hf27
 replace u2:=Rep.ext u2 hf27
 replace u3:=Rep.ext u3 hf27
 replace u5:=Rep.ext u5 hf27
 replace u6:=Rep.ext u6 hf27
 replace hB3:=hB3.ext hf27
 replace cB3:=hB3.cell
 replace hC3:=hC3.ext hf27
 replace cC:=hC3.cell
 simp (implicitDefEqProofs:=false) only [go_sem,cB3,cC]
 refine (fcommands_ok d2 o2 hb27 u2 (by (try simp only [List.length_append]); omega)).mono ?_
 rintro v K28 ⟨a28,c28,g28,rfl,ho28,hg28,hf28⟩
 have hb28:=ho28.bsR
 have hF28:=hF27.trans hf28
 replace u0:=Rep.ext u0 hf28
 replace u1:=Rep.ext u1 hf28
 replace u2:=Rep.ext u2 hf28
 replace u3:=Rep.ext u3 hf28
 replace u5:=Rep.ext u5 hf28
 replace u6:=Rep.ext u6 hf28
 replace hB3:=hB3.ext hf28
 replace cB3:=hB3.cell
 replace hC3:=hC3.ext hf28
 replace cC:=hC3.cell
 simp (implicitDefEqProofs:=false) only [go_sem,cB3,cC]
 refine (fcommands_ok d3 o3 hb28 u3 (by (try simp only [List.length_append]); omega)).mono ?_
 rintro v K29 ⟨a29,c29,g29,rfl,ho29,hg29,hf29⟩
 have hb29:=ho29.bsR
 have hF29:=hF28.trans hf29
 replace u0:=Rep.ext u0 hf29
 replace u1:=Rep.ext u1 hf29
 replace u2:=Rep.ext u2 hf29
 replace u3:=Rep.ext u3 hf29
 replace u5:=Rep.ext u5 hf29
 replace u6:=Rep.ext u6 hf29
 replace hB3:=hB3.ext hf29
 replace cB3:=hB3.cell
 replace hC3:=hC3.ext hf29
 replace cC:=hC3.cell
 simp (implicitDefEqProofs:=false) only [go_sem,cB3,cC]
 refine (finteger_ok d4 o4 hb29 (by (try simp only [List.length_append]); omega)).mono ?_
 rintro v K30 ⟨a30,c30,g30,rfl,ho30,hg30,hf30⟩
 have hb30:=ho30.bsR
 have hF30:=hF29.trans hf30
 replace u0:=Rep.ext u0 hf30
 replace u1:=Rep.ext u1 hf30
 replace u2:=Rep.ext u2 hf30
 replace u3:=Rep.ext u3 hf30
 replace u5:=Rep.ext u5 hf30
 replace u6:=Rep.ext u6 hf30
 replace hB3:=hB3.ext hf30
 replace cB3:=hB3.cell
 replace hC3:=hC3.ext hf30
 replace cC:=hC3.cell
 simp (implicitDefEqProofs:=false) only [go_sem,cB3,cC]
 refine (fbytesT d5 hb30 (csR_bsR.1 (rep_bytes_cs u5)) (by (try simp only [List.length_append]); omega)).mono ?_
 rintro v K31 ⟨a31,c31,g31,rfl,ho31,hg31,hf31⟩
 have hb31:=ho31.bsR
 have hF31:=hF30.trans hf31
 replace u0:=Rep.ext u0 hf31
 replace u1:=Rep.ext u1 hf31
 replace u2:=Rep.ext u2 hf31
 replace u3:=Rep.ext u3 hf31
 replace u5:=Rep.ext u5 hf31
 replace u6:=Rep.ext u6 hf31
 replace hB3:=hB3.ext hf31
 replace cB3:=hB3.cell
 replace hC3:=hC3.ext hf31
 replace cC:=hC3.cell
 simp (implicitDefEqProofs:=false) only [go_sem,cB3,cC]
 refine (facks_ok d6 o6 hb31 u6 (by (try simp only [List.length_append]); omega)).mono ?_
 rintro v K32 ⟨a32,c32,g32,rfl,ho32,hg32,hf32⟩
 have hb32:=ho32.bsR
 have hF32:=hF31.trans hf32
 replace u0:=Rep.ext u0 hf32
 replace u1:=Rep.ext u1 hf32
 replace u2:=Rep.ext u2 hf32
 replace u3:=Rep.ext u3 hf32
 replace u5:=Rep.ext u5 hf32
 replace u6:=Rep.ext u6 hf32
 replace hB3:=hB3.ext hf32
 replace cB3:=hB3.cell
 replace hC3:=hC3.ext hf32
 replace cC:=hC3.cell
 simp (implicitDefEqProofs:=false) only [go_sem,cB3,cC]
 have hv:(((((((l ++ encT tRound d0) ++ encT (.list tRead) d1) ++ encT (.list tCmd) d2) ++ encT (.list tCmd) d3) ++ encT .num d4) ++ encT .bytes d5) ++ encT (.list tAck) d6)=l ++ (encT tRound d0 ++ (encT (.list tRead) d1 ++ (encT (.list tCmd) d2 ++ (encT (.list tCmd) d3 ++ (encT .num d4 ++ (encT .bytes d5 ++ (encT (.list tAck) d6))))))):=by simp
 rw [← hv]
 exact Out.trans' hF31 ⟨_,_,_,rfl,ho32,hg32,hf32⟩
set_option maxHeartbeats 4000000 in
theorem fsteps_ok (ls:List (den tCert)) (hok:okT (.list tCert) ls) {H:Heap} {a:Option Addr} {c:Nat} {l:Bs} {al:Option Addr} {cl:Nat} (h:BsR H a l) (ha:Rep H [] (datT (.list tCert) ls) [.slice al ls.length cl]) (hsz:l.length + (encT (.list tCert) ls).length < 2^38) :
 HCalls Tryz.prog 119 #[.slice a l.length c,.slice al ls.length cl] H (Out H (l ++ encT (.list tCert) ls)):=by
 have hlen:ls.length < 2^63:=hok.1
 have hE:encT (.list tCert) ls=enc ls.length ++ ls.flatMap (encT tCert):=rfl
 rw [hE] at hsz ⊢
 have hfl:=flat_len (encT_pos tCert) ls
 simp only [List.length_append] at hsz
 refine calls_of_vc (args:=[_,_]) Tryz.func119 c119ok (Nat.le_of_ble_eq_true rfl) ?_
 simp (implicitDefEqProofs:=false) only [go_sem,c119]
 refine (fcount_ok ls.length (by omega) h (by omega)).mono ?_
 rintro v H0 ⟨a0,c0,g0,rfl,ho0,hg0,hf0⟩
 simp (implicitDefEqProofs:=false) only [go_sem]
 refine vc_loop (fun (x:Nat × Option Addr × Nat × Option Nat) H'=>x.1≤ls.length∧Own H' 5 1 (.slice x.2.1 (l ++ (enc ls.length ++ (ls.take x.1).flatMap (encT tCert))).length x.2.2.1) (l ++ (enc ls.length ++ (ls.take x.1).flatMap (encT tCert))).length ((l ++ (enc ls.length ++ (ls.take x.1).flatMap (encT tCert))).map bv) x.2.2.2∧(∀ k,x.2.2.2=some k→H.size≤k)∧Fr [] H H')
  (fun x=>[(0,.slice x.2.1 (l ++ (enc ls.length ++ (ls.take x.1).flatMap (encT tCert))).length x.2.2.1),(1,.slice al ls.length cl),(5,.int .i64 x.1)]) (fun x=>ls.length - x.1) (0,a0,c0,g0) ?_ ?_ ?_
 ·refine ⟨Nat.zero_le _,?_,hg0,hf0⟩
  simpa using ho0
 ·simp (implicitDefEqProofs:=false) only [go_sem]
  simp
 ·rintro ⟨i,ai,ci,gi⟩ H' ⟨hi,ho,hg,hfr⟩
  simp only at hi ho hg hfr
  rcases Nat.lt_or_ge i ls.length with hlt | hge
  ·have hlt':(i:Int) < (ls.length:Int):=by omega
   have h0:(0:Int)≤(i:Int):=by omega
   obtain ⟨bb,oo,cc,x,e1,_,hxl,hp4,hx⟩:=rep_at (Rep.ext ha hfr) i hlt
   cases e1
   have hokx:=hok.2 _ (List.getElem_mem hlt)
   have hw1:=succ_i64 i ls.length hlt (by omega)
   have hbi:=ho.bsR
   have hsp:=flat_split (encT tCert) ls i hlt
   have hss:=flat_succ (encT tCert) ls i hlt
   rw [hsp] at hsz
   simp only [List.length_append] at hsz
   obtain ⟨L,hL⟩:∃ L,L=l ++ (enc ls.length ++ (ls.take i).flatMap (encT tCert)):=⟨_,rfl⟩
   have hLl:L.length=l.length + ((enc ls.length).length + ((ls.take i).flatMap (encT tCert)).length):=by rw [hL]; simp
   rw [← hL] at ho hbi
   simp only [← hL]
   generalize ls[i]=d at hx hokx hsp hss hsz
   obtain ⟨x0,x1,x2,x3,x4,x5,x6,x7,x8,rfl⟩:=len9 hxl
   have p0:=hp4 0 (by decide)
   have p1:=hp4 1 (by decide)
   have p2:=hp4 2 (by decide)
   have p3:=hp4 3 (by decide)
   have p4:=hp4 4 (by decide)
   have p5:=hp4 5 (by decide)
   have p6:=hp4 6 (by decide)
   have p7:=hp4 7 (by decide)
   have p8:=hp4 8 (by decide)
   simp only [wid,Nat.add_zero,Nat.reduceAdd,Nat.mul_one,List.getElem?_cons_zero,List.getElem?_cons_succ] at p0 p1 p2 p3 p4 p5 p6 p7 p8
   simp (implicitDefEqProofs:=false) only [go_sem,hlt',h0,p0,p1,p2,p3,p4,p5,p6,p7,p8]
   refine (fcertificate_ok d hokx hbi hx (by (try simp only [List.length_append]); omega)).mono ?_
   rintro v K33 ⟨a33,c33,g33,rfl,ho33,hg33,hf33⟩
   have hb33:=ho33.bsR
   have hF33:=hfr.trans hf33
   replace p0:=cellB_fr p0 hf33 (by simp)
   replace p1:=cellB_fr p1 hf33 (by simp)
   replace p2:=cellB_fr p2 hf33 (by simp)
   replace p3:=cellB_fr p3 hf33 (by simp)
   replace p4:=cellB_fr p4 hf33 (by simp)
   replace p5:=cellB_fr p5 hf33 (by simp)
   replace p6:=cellB_fr p6 hf33 (by simp)
   replace p7:=cellB_fr p7 hf33 (by simp)
   replace p8:=cellB_fr p8 hf33 (by simp)
   replace hx:=Rep.ext hx hf33
   simp (implicitDefEqProofs:=false) only [go_sem,p0,p1,p2,p3,p4,p5,p6,p7,p8]
   refine loopK_intro (i + 1,a33,c33,g33) (by show ls.length - (i + 1) < ls.length - i; omega) ?_ ?_
   ·have hv:l ++ (enc ls.length ++ (ls.take (i + 1)).flatMap (encT tCert))=(L ++ encT tCert d):=by rw [hss,hL]; simp
    simp only [hv]
    simp (implicitDefEqProofs:=false) only [go_sem,hw1]
    all_goals rfl
   ·have hv:l ++ (enc ls.length ++ (ls.take (i + 1)).flatMap (encT tCert))=(L ++ encT tCert d):=by rw [hss,hL]; simp
    refine ⟨hlt,?_,(fun k hk=>Nat.le_trans (hfr.size) (hg33 k hk)),hF33⟩
    simp only [hv]; exact ho33
  ·have hge':¬ (i:Int) < (ls.length:Int):=by omega
   simp (implicitDefEqProofs:=false) only [go_sem,hge']
   rw [List.take_of_length_le hge] at ho ⊢
   exact ⟨ai,ci,gi,rfl,ho,hg,hfr⟩
set_option maxHeartbeats 4000000 in
theorem fbases_ok (ls:List (den tBase)) (hok:okT (.list tBase) ls) {H:Heap} {a:Option Addr} {c:Nat} {l:Bs} {al:Option Addr} {cl:Nat} (h:BsR H a l) (ha:Rep H [] (datT (.list tBase) ls) [.slice al ls.length cl]) (hsz:l.length + (encT (.list tBase) ls).length < 2^38) :
 HCalls Tryz.prog 66 #[.slice a l.length c,.slice al ls.length cl] H (Out H (l ++ encT (.list tBase) ls)):=by
 have hlen:ls.length < 2^63:=hok.1
 have hE:encT (.list tBase) ls=enc ls.length ++ ls.flatMap (encT tBase):=rfl
 rw [hE] at hsz ⊢
 have hfl:=flat_len (encT_pos tBase) ls
 simp only [List.length_append] at hsz
 refine calls_of_vc (args:=[_,_]) Tryz.func66 c66ok (Nat.le_of_ble_eq_true rfl) ?_
 simp (implicitDefEqProofs:=false) only [go_sem,c66]
 refine (fcount_ok ls.length (by omega) h (by omega)).mono ?_
 rintro v H0 ⟨a0,c0,g0,rfl,ho0,hg0,hf0⟩
 simp (implicitDefEqProofs:=false) only [go_sem]
 refine vc_loop (fun (x:Nat × Option Addr × Nat × Option Nat) H'=>x.1≤ls.length∧Own H' 5 1 (.slice x.2.1 (l ++ (enc ls.length ++ (ls.take x.1).flatMap (encT tBase))).length x.2.2.1) (l ++ (enc ls.length ++ (ls.take x.1).flatMap (encT tBase))).length ((l ++ (enc ls.length ++ (ls.take x.1).flatMap (encT tBase))).map bv) x.2.2.2∧(∀ k,x.2.2.2=some k→H.size≤k)∧Fr [] H H')
  (fun x=>[(0,.slice x.2.1 (l ++ (enc ls.length ++ (ls.take x.1).flatMap (encT tBase))).length x.2.2.1),(1,.slice al ls.length cl),(5,.int .i64 x.1)]) (fun x=>ls.length - x.1) (0,a0,c0,g0) ?_ ?_ ?_
 ·refine ⟨Nat.zero_le _,?_,hg0,hf0⟩
  simpa using ho0
 ·simp (implicitDefEqProofs:=false) only [go_sem]
  simp
 ·rintro ⟨i,ai,ci,gi⟩ H' ⟨hi,ho,hg,hfr⟩
  simp only at hi ho hg hfr
  rcases Nat.lt_or_ge i ls.length with hlt | hge
  ·have hlt':(i:Int) < (ls.length:Int):=by omega
   have h0:(0:Int)≤(i:Int):=by omega
   obtain ⟨bb,oo,cc,x,e1,_,hxl,hp4,hx⟩:=rep_at (Rep.ext ha hfr) i hlt
   cases e1
   have hokx:=hok.2 _ (List.getElem_mem hlt)
   have hw1:=succ_i64 i ls.length hlt (by omega)
   have hbi:=ho.bsR
   have hsp:=flat_split (encT tBase) ls i hlt
   have hss:=flat_succ (encT tBase) ls i hlt
   rw [hsp] at hsz
   simp only [List.length_append] at hsz
   obtain ⟨L,hL⟩:∃ L,L=l ++ (enc ls.length ++ (ls.take i).flatMap (encT tBase)):=⟨_,rfl⟩
   have hLl:L.length=l.length + ((enc ls.length).length + ((ls.take i).flatMap (encT tBase)).length):=by rw [hL]; simp
   rw [← hL] at ho hbi
   simp only [← hL]
   generalize ls[i]=d at hx hokx hsp hss hsz
   obtain ⟨x0,x1,rfl⟩:=len2 hxl
   have p0:=hp4 0 (by decide)
   have p1:=hp4 1 (by decide)
   simp only [wid,Nat.add_zero,Nat.reduceAdd,Nat.mul_one,List.getElem?_cons_zero,List.getElem?_cons_succ] at p0 p1
   obtain ⟨d0,d1⟩:=d
   obtain ⟨o0,o1⟩:=hokx
   obtain ⟨zu0,zru0,ezu0,u0,hru0⟩:=rep_pair.1 hx
   have u1:=hru0
   obtain ⟨ba0,bc0,wu0,hl0,hm0⟩:=rep_list u0
   obtain ⟨ba1,bc1,wu1,hl1,hm1⟩:=rep_list u1
   subst wu0 wu1
   simp only [List.append_nil,List.cons_append,List.nil_append,List.cons.injEq,and_true] at ezu0
   obtain ⟨rfl,rfl⟩:=ezu0
   have hE2:encT tBase (d0,d1)=encT (.list tCert) d0 ++ (encT (.list tCmd) d1):=rfl
   rw [hE2] at hsz
   simp only [List.length_append] at hsz
   simp (implicitDefEqProofs:=false) only [go_sem,hlt',h0,p0,p1]
   refine (fsteps_ok d0 o0 hbi u0 (by (try simp only [List.length_append]); omega)).mono ?_
   rintro v K34 ⟨a34,c34,g34,rfl,ho34,hg34,hf34⟩
   have hb34:=ho34.bsR
   have hF34:=hfr.trans hf34
   replace p0:=cellB_fr p0 hf34 (by simp)
   replace p1:=cellB_fr p1 hf34 (by simp)
   replace u0:=Rep.ext u0 hf34
   replace u1:=Rep.ext u1 hf34
   simp (implicitDefEqProofs:=false) only [go_sem,p0,p1]
   refine (fcommands_ok d1 o1 hb34 u1 (by (try simp only [List.length_append]); omega)).mono ?_
   rintro v K35 ⟨a35,c35,g35,rfl,ho35,hg35,hf35⟩
   have hb35:=ho35.bsR
   have hF35:=hF34.trans hf35
   replace p0:=cellB_fr p0 hf35 (by simp)
   replace p1:=cellB_fr p1 hf35 (by simp)
   replace u0:=Rep.ext u0 hf35
   replace u1:=Rep.ext u1 hf35
   simp (implicitDefEqProofs:=false) only [go_sem,p0,p1]
   refine loopK_intro (i + 1,a35,c35,g35) (by show ls.length - (i + 1) < ls.length - i; omega) ?_ ?_
   ·have hv:l ++ (enc ls.length ++ (ls.take (i + 1)).flatMap (encT tBase))=((L ++ encT (.list tCert) d0) ++ encT (.list tCmd) d1):=by rw [hss,hL,hE2]; simp
    simp only [hv]
    simp (implicitDefEqProofs:=false) only [go_sem,hw1]
    all_goals rfl
   ·have hv:l ++ (enc ls.length ++ (ls.take (i + 1)).flatMap (encT tBase))=((L ++ encT (.list tCert) d0) ++ encT (.list tCmd) d1):=by rw [hss,hL,hE2]; simp
    refine ⟨hlt,?_,(fun k hk=>Nat.le_trans (hF34.size) (hg35 k hk)),hF35⟩
    simp only [hv]; exact ho35
  ·have hge':¬ (i:Int) < (ls.length:Int):=by omega
   simp (implicitDefEqProofs:=false) only [go_sem,hge']
   rw [List.take_of_length_le hge] at ho ⊢
   exact ⟨ai,ci,gi,rfl,ho,hg,hfr⟩
set_option maxHeartbeats 4000000 in
theorem fproofs_ok (ls:List (den tProof)) (hok:okT (.list tProof) ls) {H:Heap} {a:Option Addr} {c:Nat} {l:Bs} {al:Option Addr} {cl:Nat} (h:BsR H a l) (ha:Rep H [] (datT (.list tProof) ls) [.slice al ls.length cl]) (hsz:l.length + (encT (.list tProof) ls).length < 2^38) :
 HCalls Tryz.prog 70 #[.slice a l.length c,.slice al ls.length cl] H (Out H (l ++ encT (.list tProof) ls)):=by
 have hlen:ls.length < 2^63:=hok.1
 have hE:encT (.list tProof) ls=enc ls.length ++ ls.flatMap (encT tProof):=rfl
 rw [hE] at hsz ⊢
 have hfl:=flat_len (encT_pos tProof) ls
 simp only [List.length_append] at hsz
 refine calls_of_vc (args:=[_,_]) Tryz.func70 c70ok (Nat.le_of_ble_eq_true rfl) ?_
 simp (implicitDefEqProofs:=false) only [go_sem,c70]
 refine (fcount_ok ls.length (by omega) h (by omega)).mono ?_
 rintro v H0 ⟨a0,c0,g0,rfl,ho0,hg0,hf0⟩
 simp (implicitDefEqProofs:=false) only [go_sem]
 refine vc_loop (fun (x:Nat × Option Addr × Nat × Option Nat) H'=>x.1≤ls.length∧Own H' 5 1 (.slice x.2.1 (l ++ (enc ls.length ++ (ls.take x.1).flatMap (encT tProof))).length x.2.2.1) (l ++ (enc ls.length ++ (ls.take x.1).flatMap (encT tProof))).length ((l ++ (enc ls.length ++ (ls.take x.1).flatMap (encT tProof))).map bv) x.2.2.2∧(∀ k,x.2.2.2=some k→H.size≤k)∧Fr [] H H')
  (fun x=>[(0,.slice x.2.1 (l ++ (enc ls.length ++ (ls.take x.1).flatMap (encT tProof))).length x.2.2.1),(1,.slice al ls.length cl),(5,.int .i64 x.1)]) (fun x=>ls.length - x.1) (0,a0,c0,g0) ?_ ?_ ?_
 ·refine ⟨Nat.zero_le _,?_,hg0,hf0⟩
  simpa using ho0
 ·simp (implicitDefEqProofs:=false) only [go_sem]
  simp
 ·rintro ⟨i,ai,ci,gi⟩ H' ⟨hi,ho,hg,hfr⟩
  simp only at hi ho hg hfr
  rcases Nat.lt_or_ge i ls.length with hlt | hge
  ·have hlt':(i:Int) < (ls.length:Int):=by omega
   have h0:(0:Int)≤(i:Int):=by omega
   obtain ⟨bb,oo,cc,x,e1,_,hxl,hp4,hx⟩:=rep_at (Rep.ext ha hfr) i hlt
   cases e1
   have hokx:=hok.2 _ (List.getElem_mem hlt)
   have hw1:=succ_i64 i ls.length hlt (by omega)
   have hbi:=ho.bsR
   have hsp:=flat_split (encT tProof) ls i hlt
   have hss:=flat_succ (encT tProof) ls i hlt
   rw [hsp] at hsz
   simp only [List.length_append] at hsz
   obtain ⟨L,hL⟩:∃ L,L=l ++ (enc ls.length ++ (ls.take i).flatMap (encT tProof)):=⟨_,rfl⟩
   have hLl:L.length=l.length + ((enc ls.length).length + ((ls.take i).flatMap (encT tProof)).length):=by rw [hL]; simp
   rw [← hL] at ho hbi
   simp only [← hL]
   generalize ls[i]=d at hx hokx hsp hss hsz
   obtain ⟨x0,x1,x2,x3,x4,x5,x6,x7,x8,x9,rfl⟩:=len10 hxl
   have p0:=hp4 0 (by decide)
   have p1:=hp4 1 (by decide)
   have p2:=hp4 2 (by decide)
   have p3:=hp4 3 (by decide)
   have p4:=hp4 4 (by decide)
   have p5:=hp4 5 (by decide)
   have p6:=hp4 6 (by decide)
   have p7:=hp4 7 (by decide)
   have p8:=hp4 8 (by decide)
   have p9:=hp4 9 (by decide)
   simp only [wid,Nat.add_zero,Nat.reduceAdd,Nat.mul_one,List.getElem?_cons_zero,List.getElem?_cons_succ] at p0 p1 p2 p3 p4 p5 p6 p7 p8 p9
   obtain ⟨d0,d1⟩:=d
   obtain ⟨o0,o1⟩:=hokx
   obtain ⟨zu0,zru0,ezu0,u0,hru0⟩:=rep_pair.1 hx
   have u1:=hru0
   obtain ⟨ba0,bc0,wu0,hl0,hm0⟩:=rep_list u0
   obtain ⟨y0,y1,y2,y3,y4,y5,y6,y7,y8,wu1⟩:=len9 (rep_wid u1)
   subst wu0 wu1
   simp only [List.append_nil,List.cons_append,List.nil_append,List.cons.injEq,and_true] at ezu0
   obtain ⟨rfl,rfl,rfl,rfl,rfl,rfl,rfl,rfl,rfl,rfl⟩:=ezu0
   have hE2:encT tProof (d0,d1)=encT (.list tCert) d0 ++ (encT tCert d1):=rfl
   rw [hE2] at hsz
   simp only [List.length_append] at hsz
   simp (implicitDefEqProofs:=false) only [go_sem,hlt',h0,p0,p1,p2,p3,p4,p5,p6,p7,p8,p9]
   refine (fsteps_ok d0 o0 hbi u0 (by (try simp only [List.length_append]); omega)).mono ?_
   rintro v K36 ⟨a36,c36,g36,rfl,ho36,hg36,hf36⟩
   have hb36:=ho36.bsR
   have hF36:=hfr.trans hf36
   replace p0:=cellB_fr p0 hf36 (by simp)
   replace p1:=cellB_fr p1 hf36 (by simp)
   replace p2:=cellB_fr p2 hf36 (by simp)
   replace p3:=cellB_fr p3 hf36 (by simp)
   replace p4:=cellB_fr p4 hf36 (by simp)
   replace p5:=cellB_fr p5 hf36 (by simp)
   replace p6:=cellB_fr p6 hf36 (by simp)
   replace p7:=cellB_fr p7 hf36 (by simp)
   replace p8:=cellB_fr p8 hf36 (by simp)
   replace p9:=cellB_fr p9 hf36 (by simp)
   replace u0:=Rep.ext u0 hf36
   replace u1:=Rep.ext u1 hf36
   simp (implicitDefEqProofs:=false) only [go_sem,p0,p1,p2,p3,p4,p5,p6,p7,p8,p9]
   refine (fcertificate_ok d1 o1 hb36 u1 (by (try simp only [List.length_append]); omega)).mono ?_
   rintro v K37 ⟨a37,c37,g37,rfl,ho37,hg37,hf37⟩
   have hb37:=ho37.bsR
   have hF37:=hF36.trans hf37
   replace p0:=cellB_fr p0 hf37 (by simp)
   replace p1:=cellB_fr p1 hf37 (by simp)
   replace p2:=cellB_fr p2 hf37 (by simp)
   replace p3:=cellB_fr p3 hf37 (by simp)
   replace p4:=cellB_fr p4 hf37 (by simp)
   replace p5:=cellB_fr p5 hf37 (by simp)
   replace p6:=cellB_fr p6 hf37 (by simp)
   replace p7:=cellB_fr p7 hf37 (by simp)
   replace p8:=cellB_fr p8 hf37 (by simp)
   replace p9:=cellB_fr p9 hf37 (by simp)
   replace u0:=Rep.ext u0 hf37
   replace u1:=Rep.ext u1 hf37
   simp (implicitDefEqProofs:=false) only [go_sem,p0,p1,p2,p3,p4,p5,p6,p7,p8,p9]
   refine loopK_intro (i + 1,a37,c37,g37) (by show ls.length - (i + 1) < ls.length - i; omega) ?_ ?_
   ·have hv:l ++ (enc ls.length ++ (ls.take (i + 1)).flatMap (encT tProof))=((L ++ encT (.list tCert) d0) ++ encT tCert d1):=by rw [hss,hL,hE2]; simp
    simp only [hv]
    simp (implicitDefEqProofs:=false) only [go_sem,hw1]
    all_goals rfl
   ·have hv:l ++ (enc ls.length ++ (ls.take (i + 1)).flatMap (encT tProof))=((L ++ encT (.list tCert) d0) ++ encT tCert d1):=by rw [hss,hL,hE2]; simp
    refine ⟨hlt,?_,(fun k hk=>Nat.le_trans (hF36.size) (hg37 k hk)),hF37⟩
    simp only [hv]; exact ho37
  ·have hge':¬ (i:Int) < (ls.length:Int):=by omega
   simp (implicitDefEqProofs:=false) only [go_sem,hge']
   rw [List.take_of_length_le hge] at ho ⊢
   exact ⟨ai,ci,gi,rfl,ho,hg,hfr⟩
end Go.Proofs.YtdhlibkdcldioaaGreat
end
section
set_option linter.unusedSimpArgs false
set_option linter.unusedVariables false
set_option maxRecDepth 8000
namespace Go.Proofs.YtdhlibkdcldioaaGreat
open Gx Go
theorem listReadID_ok {f:Nat} {t:Ty} (hw:wid t=3) (hp:∀ cs,argOf t cs= .agg cs.toArray) (hf:WOk f t) (ls:List (den t)) (hok:okT (.list t) ls) {H:Heap} {b:Nat} {l:Bs} {g:Option Nat} {a:Option Addr} {c:Nat} (hwr:Wr H b l g)
 (ha:Rep H (b :: g.toList) (datT (.list t) ls) [.slice a ls.length c]) (hsz:l.length + (encT (.list t) ls).length < 2^38) :
 HCalls Tryz.prog 80 #[.pointer (some ⟨b,0,none⟩),.slice a ls.length c,.func (.func f) #[.pointer (some ⟨b,0,none⟩)] #[]] H fun r H'=>r= .tuple #[]∧∃ g',WrStep H b g H' (l ++ encT (.list t) ls) g':=by
 have hlen:ls.length < 2^63:=hok.1
 have hE:encT (.list t) ls=enc ls.length ++ ls.flatMap (encT t):=rfl
 rw [hE] at hsz ⊢
 have hfl:=flat_len (encT_pos t) ls
 simp only [List.length_append] at hsz
 refine calls_of_vc (args:=[_,_,_]) Tryz.func80 c80ok (Nat.le_of_ble_eq_true rfl) ?_
 have hx:IntKind.u64.wrap (ls.length:Int)=((ls.length:Nat):Int):=wrap_u64_id _ (by omega) (by omega)
 simp (implicitDefEqProofs:=false) only [go_sem,c80,hx]
 refine (uint_ok ls.length (by omega) hwr (by omega)).mono ?_
 rintro r H0 ⟨rfl,g0,w0⟩
 simp (implicitDefEqProofs:=false) only [go_sem]
 refine vc_loop (fun (i:Nat) H'=>i≤ls.length∧∃ g',WrStep H b g H' (l ++ (enc ls.length ++ (ls.take i).flatMap (encT t))) g')
  (fun i=>[(0,.pointer (some ⟨b,0,none⟩)),(2,.func (.func f) #[.pointer (some ⟨b,0,none⟩)] #[]),(15,.slice a ls.length c),(16,.int .i64 ls.length),(17,.int .i64 i)]) (fun i=>ls.length - i) 0 ?_ ?_ ?_
 ·refine ⟨Nat.zero_le _,g0,?_⟩
  simpa using w0
 ·simp (implicitDefEqProofs:=false) only [go_sem]
 ·rintro i H' ⟨hi,g',ws'⟩
  rcases Nat.lt_or_ge i ls.length with hlt | hge
  ·have hlt':(i:Int) < (ls.length:Int):=by omega
   have h0:(0:Int)≤(i:Int):=by omega
   obtain ⟨bb,o,cc,x,e1,_,hxl,hp4,hp5⟩:=rep_at (Rep.wr ha ws') i hlt
   cases e1
   rw [hw] at hxl hp4
   obtain ⟨x0,x1,x2,rfl⟩:=len3 hxl
   have p0:=hp4 0 (by omega)
   have p1:=hp4 1 (by omega)
   have p2:=hp4 2 (by omega)
   simp only [Nat.add_zero,List.getElem?_cons_zero,List.getElem?_cons_succ] at p0 p1 p2
   have hw1:=succ_i64 i ls.length hlt (by omega)
   have hsz2:l.length + ((enc ls.length).length + (((ls.take i).flatMap (encT t)).length + (encT t ls[i]).length)) < 2^38:=by
    have e:=flat_split (encT t) ls i hlt
    rw [e] at hsz
    simp only [List.length_append] at hsz
    omega
   simp (implicitDefEqProofs:=false) only [go_sem,hlt',h0,p0,p1,p2]
   refine NewP_intro fun H2 hn2 hf2 hs2=>?_
   simp (implicitDefEqProofs:=false) only [go_sem]
   refine Sto_all hn2 rfl (rep_one hp5) fun H3 hn3 hf3 hs3=>?_
   have hfn:=new_fr hf2 hf3
   have hc3:=hn3.cell
   have ws3:=ws'.post hfn
   simp (implicitDefEqProofs:=false) only [go_sem,hc3]
   have hcall:=hf.2 _ (hok.2 _ (List.getElem_mem hlt)) ws3.1 (Rep.ext hp5 hfn) (by (try simp only [List.length_append]); omega)
   rw [hp] at hcall
   refine ⟨hf.1,hcall.mono ?_⟩
   rintro r H5 ⟨rfl,g5,w5⟩
   have w6:=ws3.trans w5
   simp (implicitDefEqProofs:=false) only [go_sem]
   refine loopK_intro (i + 1) (by show ls.length - (i + 1) < ls.length - i; omega) ?_ ⟨hlt,g5,?_⟩
   ·simp (implicitDefEqProofs:=false) only [go_sem,hw1]
   ·have e:l ++ (enc ls.length ++ (ls.take (i + 1)).flatMap (encT t))=l ++ (enc ls.length ++ (ls.take i).flatMap (encT t)) ++ encT t ls[i]:=by
     rw [flat_succ (encT t) ls i hlt]; simp
    rw [e]; exact w6
  ·have hge':¬ (i:Int) < (ls.length:Int):=by omega
   simp (implicitDefEqProofs:=false) only [go_sem,hge']
   rw [List.take_of_length_le hge] at ws'
   exact ⟨g',ws'⟩
theorem listBase_ok {f:Nat} {t:Ty} (hw:wid t=2) (hp:∀ cs,argOf t cs= .agg cs.toArray) (hf:WOk f t) (ls:List (den t)) (hok:okT (.list t) ls) {H:Heap} {b:Nat} {l:Bs} {g:Option Nat} {a:Option Addr} {c:Nat} (hwr:Wr H b l g)
 (ha:Rep H (b :: g.toList) (datT (.list t) ls) [.slice a ls.length c]) (hsz:l.length + (encT (.list t) ls).length < 2^38) :
 HCalls Tryz.prog 82 #[.pointer (some ⟨b,0,none⟩),.slice a ls.length c,.func (.func f) #[.pointer (some ⟨b,0,none⟩)] #[]] H fun r H'=>r= .tuple #[]∧∃ g',WrStep H b g H' (l ++ encT (.list t) ls) g':=by
 have hlen:ls.length < 2^63:=hok.1
 have hE:encT (.list t) ls=enc ls.length ++ ls.flatMap (encT t):=rfl
 rw [hE] at hsz ⊢
 have hfl:=flat_len (encT_pos t) ls
 simp only [List.length_append] at hsz
 refine calls_of_vc (args:=[_,_,_]) Tryz.func82 c82ok (Nat.le_of_ble_eq_true rfl) ?_
 have hx:IntKind.u64.wrap (ls.length:Int)=((ls.length:Nat):Int):=wrap_u64_id _ (by omega) (by omega)
 simp (implicitDefEqProofs:=false) only [go_sem,c82,hx]
 refine (uint_ok ls.length (by omega) hwr (by omega)).mono ?_
 rintro r H0 ⟨rfl,g0,w0⟩
 simp (implicitDefEqProofs:=false) only [go_sem]
 refine vc_loop (fun (i:Nat) H'=>i≤ls.length∧∃ g',WrStep H b g H' (l ++ (enc ls.length ++ (ls.take i).flatMap (encT t))) g')
  (fun i=>[(0,.pointer (some ⟨b,0,none⟩)),(2,.func (.func f) #[.pointer (some ⟨b,0,none⟩)] #[]),(15,.slice a ls.length c),(16,.int .i64 ls.length),(17,.int .i64 i)]) (fun i=>ls.length - i) 0 ?_ ?_ ?_
 ·refine ⟨Nat.zero_le _,g0,?_⟩
  simpa using w0
 ·simp (implicitDefEqProofs:=false) only [go_sem]
 ·rintro i H' ⟨hi,g',ws'⟩
  rcases Nat.lt_or_ge i ls.length with hlt | hge
  ·have hlt':(i:Int) < (ls.length:Int):=by omega
   have h0:(0:Int)≤(i:Int):=by omega
   obtain ⟨bb,o,cc,x,e1,_,hxl,hp4,hp5⟩:=rep_at (Rep.wr ha ws') i hlt
   cases e1
   rw [hw] at hxl hp4
   obtain ⟨x0,x1,rfl⟩:=len2 hxl
   have p0:=hp4 0 (by omega)
   have p1:=hp4 1 (by omega)
   simp only [Nat.add_zero,List.getElem?_cons_zero,List.getElem?_cons_succ] at p0 p1
   have hw1:=succ_i64 i ls.length hlt (by omega)
   have hsz2:l.length + ((enc ls.length).length + (((ls.take i).flatMap (encT t)).length + (encT t ls[i]).length)) < 2^38:=by
    have e:=flat_split (encT t) ls i hlt
    rw [e] at hsz
    simp only [List.length_append] at hsz
    omega
   simp (implicitDefEqProofs:=false) only [go_sem,hlt',h0,p0,p1]
   refine NewP_intro fun H2 hn2 hf2 hs2=>?_
   simp (implicitDefEqProofs:=false) only [go_sem]
   refine Sto_all hn2 rfl (rep_one hp5) fun H3 hn3 hf3 hs3=>?_
   have hfn:=new_fr hf2 hf3
   have hc3:=hn3.cell
   have ws3:=ws'.post hfn
   simp (implicitDefEqProofs:=false) only [go_sem,hc3]
   have hcall:=hf.2 _ (hok.2 _ (List.getElem_mem hlt)) ws3.1 (Rep.ext hp5 hfn) (by (try simp only [List.length_append]); omega)
   rw [hp] at hcall
   refine ⟨hf.1,hcall.mono ?_⟩
   rintro r H5 ⟨rfl,g5,w5⟩
   have w6:=ws3.trans w5
   simp (implicitDefEqProofs:=false) only [go_sem]
   refine loopK_intro (i + 1) (by show ls.length - (i + 1) < ls.length - i; omega) ?_ ⟨hlt,g5,?_⟩
   ·simp (implicitDefEqProofs:=false) only [go_sem,hw1]
   ·have e:l ++ (enc ls.length ++ (ls.take (i + 1)).flatMap (encT t))=l ++ (enc ls.length ++ (ls.take i).flatMap (encT t)) ++ encT t ls[i]:=by
     rw [flat_succ (encT t) ls i hlt]; simp
    rw [e]; exact w6
  ·have hge':¬ (i:Int) < (ls.length:Int):=by omega
   simp (implicitDefEqProofs:=false) only [go_sem,hge']
   rw [List.take_of_length_le hge] at ws'
   exact ⟨g',ws'⟩
theorem listCommand_ok {f:Nat} {t:Ty} (hw:wid t=6) (hp:∀ cs,argOf t cs= .agg cs.toArray) (hf:WOk f t) (ls:List (den t)) (hok:okT (.list t) ls) {H:Heap} {b:Nat} {l:Bs} {g:Option Nat} {a:Option Addr} {c:Nat} (hwr:Wr H b l g)
 (ha:Rep H (b :: g.toList) (datT (.list t) ls) [.slice a ls.length c]) (hsz:l.length + (encT (.list t) ls).length < 2^38) :
 HCalls Tryz.prog 84 #[.pointer (some ⟨b,0,none⟩),.slice a ls.length c,.func (.func f) #[.pointer (some ⟨b,0,none⟩)] #[]] H fun r H'=>r= .tuple #[]∧∃ g',WrStep H b g H' (l ++ encT (.list t) ls) g':=by
 have hlen:ls.length < 2^63:=hok.1
 have hE:encT (.list t) ls=enc ls.length ++ ls.flatMap (encT t):=rfl
 rw [hE] at hsz ⊢
 have hfl:=flat_len (encT_pos t) ls
 simp only [List.length_append] at hsz
 refine calls_of_vc (args:=[_,_,_]) Tryz.func84 c84ok (Nat.le_of_ble_eq_true rfl) ?_
 have hx:IntKind.u64.wrap (ls.length:Int)=((ls.length:Nat):Int):=wrap_u64_id _ (by omega) (by omega)
 simp (implicitDefEqProofs:=false) only [go_sem,c84,hx]
 refine (uint_ok ls.length (by omega) hwr (by omega)).mono ?_
 rintro r H0 ⟨rfl,g0,w0⟩
 simp (implicitDefEqProofs:=false) only [go_sem]
 refine vc_loop (fun (i:Nat) H'=>i≤ls.length∧∃ g',WrStep H b g H' (l ++ (enc ls.length ++ (ls.take i).flatMap (encT t))) g')
  (fun i=>[(0,.pointer (some ⟨b,0,none⟩)),(2,.func (.func f) #[.pointer (some ⟨b,0,none⟩)] #[]),(15,.slice a ls.length c),(16,.int .i64 ls.length),(17,.int .i64 i)]) (fun i=>ls.length - i) 0 ?_ ?_ ?_
 ·refine ⟨Nat.zero_le _,g0,?_⟩
  simpa using w0
 ·simp (implicitDefEqProofs:=false) only [go_sem]
 ·rintro i H' ⟨hi,g',ws'⟩
  rcases Nat.lt_or_ge i ls.length with hlt | hge
  ·have hlt':(i:Int) < (ls.length:Int):=by omega
   have h0:(0:Int)≤(i:Int):=by omega
   obtain ⟨bb,o,cc,x,e1,_,hxl,hp4,hp5⟩:=rep_at (Rep.wr ha ws') i hlt
   cases e1
   rw [hw] at hxl hp4
   obtain ⟨x0,x1,x2,x3,x4,x5,rfl⟩:=len6 hxl
   have p0:=hp4 0 (by omega)
   have p1:=hp4 1 (by omega)
   have p2:=hp4 2 (by omega)
   have p3:=hp4 3 (by omega)
   have p4:=hp4 4 (by omega)
   have p5:=hp4 5 (by omega)
   simp only [Nat.add_zero,List.getElem?_cons_zero,List.getElem?_cons_succ] at p0 p1 p2 p3 p4 p5
   have hw1:=succ_i64 i ls.length hlt (by omega)
   have hsz2:l.length + ((enc ls.length).length + (((ls.take i).flatMap (encT t)).length + (encT t ls[i]).length)) < 2^38:=by
    have e:=flat_split (encT t) ls i hlt
    rw [e] at hsz
    simp only [List.length_append] at hsz
    omega
   simp (implicitDefEqProofs:=false) only [go_sem,hlt',h0,p0,p1,p2,p3,p4,p5]
   refine NewP_intro fun H2 hn2 hf2 hs2=>?_
   simp (implicitDefEqProofs:=false) only [go_sem]
   refine Sto_all hn2 rfl (rep_one hp5) fun H3 hn3 hf3 hs3=>?_
   have hfn:=new_fr hf2 hf3
   have hc3:=hn3.cell
   have ws3:=ws'.post hfn
   simp (implicitDefEqProofs:=false) only [go_sem,hc3]
   have hcall:=hf.2 _ (hok.2 _ (List.getElem_mem hlt)) ws3.1 (Rep.ext hp5 hfn) (by (try simp only [List.length_append]); omega)
   rw [hp] at hcall
   refine ⟨hf.1,hcall.mono ?_⟩
   rintro r H5 ⟨rfl,g5,w5⟩
   have w6:=ws3.trans w5
   simp (implicitDefEqProofs:=false) only [go_sem]
   refine loopK_intro (i + 1) (by show ls.length - (i + 1) < ls.length - i; omega) ?_ ⟨hlt,g5,?_⟩
   ·simp (implicitDefEqProofs:=false) only [go_sem,hw1]
   ·have e:l ++ (enc ls.length ++ (ls.take (i + 1)).flatMap (encT t))=l ++ (enc ls.length ++ (ls.take i).flatMap (encT t)) ++ encT t ls[i]:=by
     rw [flat_succ (encT t) ls i hlt]; simp
    rw [e]; exact w6
  ·have hge':¬ (i:Int) < (ls.length:Int):=by omega
   simp (implicitDefEqProofs:=false) only [go_sem,hge']
   rw [List.take_of_length_le hge] at ws'
   exact ⟨g',ws'⟩
theorem listAck_ok {f:Nat} {t:Ty} (hw:wid t=2) (hp:∀ cs,argOf t cs= .agg cs.toArray) (hf:WOk f t) (ls:List (den t)) (hok:okT (.list t) ls) {H:Heap} {b:Nat} {l:Bs} {g:Option Nat} {a:Option Addr} {c:Nat} (hwr:Wr H b l g)
 (ha:Rep H (b :: g.toList) (datT (.list t) ls) [.slice a ls.length c]) (hsz:l.length + (encT (.list t) ls).length < 2^38) :
 HCalls Tryz.prog 86 #[.pointer (some ⟨b,0,none⟩),.slice a ls.length c,.func (.func f) #[.pointer (some ⟨b,0,none⟩)] #[]] H fun r H'=>r= .tuple #[]∧∃ g',WrStep H b g H' (l ++ encT (.list t) ls) g':=by
 have hlen:ls.length < 2^63:=hok.1
 have hE:encT (.list t) ls=enc ls.length ++ ls.flatMap (encT t):=rfl
 rw [hE] at hsz ⊢
 have hfl:=flat_len (encT_pos t) ls
 simp only [List.length_append] at hsz
 refine calls_of_vc (args:=[_,_,_]) Tryz.func86 c86ok (Nat.le_of_ble_eq_true rfl) ?_
 have hx:IntKind.u64.wrap (ls.length:Int)=((ls.length:Nat):Int):=wrap_u64_id _ (by omega) (by omega)
 simp (implicitDefEqProofs:=false) only [go_sem,c86,hx]
 refine (uint_ok ls.length (by omega) hwr (by omega)).mono ?_
 rintro r H0 ⟨rfl,g0,w0⟩
 simp (implicitDefEqProofs:=false) only [go_sem]
 refine vc_loop (fun (i:Nat) H'=>i≤ls.length∧∃ g',WrStep H b g H' (l ++ (enc ls.length ++ (ls.take i).flatMap (encT t))) g')
  (fun i=>[(0,.pointer (some ⟨b,0,none⟩)),(2,.func (.func f) #[.pointer (some ⟨b,0,none⟩)] #[]),(15,.slice a ls.length c),(16,.int .i64 ls.length),(17,.int .i64 i)]) (fun i=>ls.length - i) 0 ?_ ?_ ?_
 ·refine ⟨Nat.zero_le _,g0,?_⟩
  simpa using w0
 ·simp (implicitDefEqProofs:=false) only [go_sem]
 ·rintro i H' ⟨hi,g',ws'⟩
  rcases Nat.lt_or_ge i ls.length with hlt | hge
  ·have hlt':(i:Int) < (ls.length:Int):=by omega
   have h0:(0:Int)≤(i:Int):=by omega
   obtain ⟨bb,o,cc,x,e1,_,hxl,hp4,hp5⟩:=rep_at (Rep.wr ha ws') i hlt
   cases e1
   rw [hw] at hxl hp4
   obtain ⟨x0,x1,rfl⟩:=len2 hxl
   have p0:=hp4 0 (by omega)
   have p1:=hp4 1 (by omega)
   simp only [Nat.add_zero,List.getElem?_cons_zero,List.getElem?_cons_succ] at p0 p1
   have hw1:=succ_i64 i ls.length hlt (by omega)
   have hsz2:l.length + ((enc ls.length).length + (((ls.take i).flatMap (encT t)).length + (encT t ls[i]).length)) < 2^38:=by
    have e:=flat_split (encT t) ls i hlt
    rw [e] at hsz
    simp only [List.length_append] at hsz
    omega
   simp (implicitDefEqProofs:=false) only [go_sem,hlt',h0,p0,p1]
   refine NewP_intro fun H2 hn2 hf2 hs2=>?_
   simp (implicitDefEqProofs:=false) only [go_sem]
   refine Sto_all hn2 rfl (rep_one hp5) fun H3 hn3 hf3 hs3=>?_
   have hfn:=new_fr hf2 hf3
   have hc3:=hn3.cell
   have ws3:=ws'.post hfn
   simp (implicitDefEqProofs:=false) only [go_sem,hc3]
   have hcall:=hf.2 _ (hok.2 _ (List.getElem_mem hlt)) ws3.1 (Rep.ext hp5 hfn) (by (try simp only [List.length_append]); omega)
   rw [hp] at hcall
   refine ⟨hf.1,hcall.mono ?_⟩
   rintro r H5 ⟨rfl,g5,w5⟩
   have w6:=ws3.trans w5
   simp (implicitDefEqProofs:=false) only [go_sem]
   refine loopK_intro (i + 1) (by show ls.length - (i + 1) < ls.length - i; omega) ?_ ⟨hlt,g5,?_⟩
   ·simp (implicitDefEqProofs:=false) only [go_sem,hw1]
   ·have e:l ++ (enc ls.length ++ (ls.take (i + 1)).flatMap (encT t))=l ++ (enc ls.length ++ (ls.take i).flatMap (encT t)) ++ encT t ls[i]:=by
     rw [flat_succ (encT t) ls i hlt]; simp
    rw [e]; exact w6
  ·have hge':¬ (i:Int) < (ls.length:Int):=by omega
   simp (implicitDefEqProofs:=false) only [go_sem,hge']
   rw [List.take_of_length_le hge] at ws'
   exact ⟨g',ws'⟩
theorem listProof_ok {f:Nat} {t:Ty} (hw:wid t=10) (hp:∀ cs,argOf t cs= .agg cs.toArray) (hf:WOk f t) (ls:List (den t)) (hok:okT (.list t) ls) {H:Heap} {b:Nat} {l:Bs} {g:Option Nat} {a:Option Addr} {c:Nat} (hwr:Wr H b l g)
 (ha:Rep H (b :: g.toList) (datT (.list t) ls) [.slice a ls.length c]) (hsz:l.length + (encT (.list t) ls).length < 2^38) :
 HCalls Tryz.prog 88 #[.pointer (some ⟨b,0,none⟩),.slice a ls.length c,.func (.func f) #[.pointer (some ⟨b,0,none⟩)] #[]] H fun r H'=>r= .tuple #[]∧∃ g',WrStep H b g H' (l ++ encT (.list t) ls) g':=by
 have hlen:ls.length < 2^63:=hok.1
 have hE:encT (.list t) ls=enc ls.length ++ ls.flatMap (encT t):=rfl
 rw [hE] at hsz ⊢
 have hfl:=flat_len (encT_pos t) ls
 simp only [List.length_append] at hsz
 refine calls_of_vc (args:=[_,_,_]) Tryz.func88 c88ok (Nat.le_of_ble_eq_true rfl) ?_
 have hx:IntKind.u64.wrap (ls.length:Int)=((ls.length:Nat):Int):=wrap_u64_id _ (by omega) (by omega)
 simp (implicitDefEqProofs:=false) only [go_sem,c88,hx]
 refine (uint_ok ls.length (by omega) hwr (by omega)).mono ?_
 rintro r H0 ⟨rfl,g0,w0⟩
 simp (implicitDefEqProofs:=false) only [go_sem]
 refine vc_loop (fun (i:Nat) H'=>i≤ls.length∧∃ g',WrStep H b g H' (l ++ (enc ls.length ++ (ls.take i).flatMap (encT t))) g')
  (fun i=>[(0,.pointer (some ⟨b,0,none⟩)),(2,.func (.func f) #[.pointer (some ⟨b,0,none⟩)] #[]),(15,.slice a ls.length c),(16,.int .i64 ls.length),(17,.int .i64 i)]) (fun i=>ls.length - i) 0 ?_ ?_ ?_
 ·refine ⟨Nat.zero_le _,g0,?_⟩
  simpa using w0
 ·simp (implicitDefEqProofs:=false) only [go_sem]
 ·rintro i H' ⟨hi,g',ws'⟩
  rcases Nat.lt_or_ge i ls.length with hlt | hge
  ·have hlt':(i:Int) < (ls.length:Int):=by omega
   have h0:(0:Int)≤(i:Int):=by omega
   obtain ⟨bb,o,cc,x,e1,_,hxl,hp4,hp5⟩:=rep_at (Rep.wr ha ws') i hlt
   cases e1
   rw [hw] at hxl hp4
   obtain ⟨x0,x1,x2,x3,x4,x5,x6,x7,x8,x9,rfl⟩:=len10 hxl
   have p0:=hp4 0 (by omega)
   have p1:=hp4 1 (by omega)
   have p2:=hp4 2 (by omega)
   have p3:=hp4 3 (by omega)
   have p4:=hp4 4 (by omega)
   have p5:=hp4 5 (by omega)
   have p6:=hp4 6 (by omega)
   have p7:=hp4 7 (by omega)
   have p8:=hp4 8 (by omega)
   have p9:=hp4 9 (by omega)
   simp only [Nat.add_zero,List.getElem?_cons_zero,List.getElem?_cons_succ] at p0 p1 p2 p3 p4 p5 p6 p7 p8 p9
   have hw1:=succ_i64 i ls.length hlt (by omega)
   have hsz2:l.length + ((enc ls.length).length + (((ls.take i).flatMap (encT t)).length + (encT t ls[i]).length)) < 2^38:=by
    have e:=flat_split (encT t) ls i hlt
    rw [e] at hsz
    simp only [List.length_append] at hsz
    omega
   simp (implicitDefEqProofs:=false) only [go_sem,hlt',h0,p0,p1,p2,p3,p4,p5,p6,p7,p8,p9]
   refine NewP_intro fun H2 hn2 hf2 hs2=>?_
   simp (implicitDefEqProofs:=false) only [go_sem]
   refine Sto_all hn2 rfl (rep_one hp5) fun H3 hn3 hf3 hs3=>?_
   have hfn:=new_fr hf2 hf3
   have hc3:=hn3.cell
   have ws3:=ws'.post hfn
   simp (implicitDefEqProofs:=false) only [go_sem,hc3]
   have hcall:=hf.2 _ (hok.2 _ (List.getElem_mem hlt)) ws3.1 (Rep.ext hp5 hfn) (by (try simp only [List.length_append]); omega)
   rw [hp] at hcall
   refine ⟨hf.1,hcall.mono ?_⟩
   rintro r H5 ⟨rfl,g5,w5⟩
   have w6:=ws3.trans w5
   simp (implicitDefEqProofs:=false) only [go_sem]
   refine loopK_intro (i + 1) (by show ls.length - (i + 1) < ls.length - i; omega) ?_ ⟨hlt,g5,?_⟩
   ·simp (implicitDefEqProofs:=false) only [go_sem,hw1]
   ·have e:l ++ (enc ls.length ++ (ls.take (i + 1)).flatMap (encT t))=l ++ (enc ls.length ++ (ls.take i).flatMap (encT t)) ++ encT t ls[i]:=by
     rw [flat_succ (encT t) ls i hlt]; simp
    rw [e]; exact w6
  ·have hge':¬ (i:Int) < (ls.length:Int):=by omega
   simp (implicitDefEqProofs:=false) only [go_sem,hge']
   rw [List.take_of_length_le hge] at ws'
   exact ⟨g',ws'⟩
theorem listDigest_ok {f:Nat} {t:Ty} (hw:wid t=3) (hp:∀ cs,argOf t cs= .agg cs.toArray) (hf:WOk f t) (ls:List (den t)) (hok:okT (.list t) ls) {H:Heap} {b:Nat} {l:Bs} {g:Option Nat} {a:Option Addr} {c:Nat} (hwr:Wr H b l g)
 (ha:Rep H (b :: g.toList) (datT (.list t) ls) [.slice a ls.length c]) (hsz:l.length + (encT (.list t) ls).length < 2^38) :
 HCalls Tryz.prog 90 #[.pointer (some ⟨b,0,none⟩),.slice a ls.length c,.func (.func f) #[.pointer (some ⟨b,0,none⟩)] #[]] H fun r H'=>r= .tuple #[]∧∃ g',WrStep H b g H' (l ++ encT (.list t) ls) g':=by
 have hlen:ls.length < 2^63:=hok.1
 have hE:encT (.list t) ls=enc ls.length ++ ls.flatMap (encT t):=rfl
 rw [hE] at hsz ⊢
 have hfl:=flat_len (encT_pos t) ls
 simp only [List.length_append] at hsz
 refine calls_of_vc (args:=[_,_,_]) Tryz.func90 c90ok (Nat.le_of_ble_eq_true rfl) ?_
 have hx:IntKind.u64.wrap (ls.length:Int)=((ls.length:Nat):Int):=wrap_u64_id _ (by omega) (by omega)
 simp (implicitDefEqProofs:=false) only [go_sem,c90,hx]
 refine (uint_ok ls.length (by omega) hwr (by omega)).mono ?_
 rintro r H0 ⟨rfl,g0,w0⟩
 simp (implicitDefEqProofs:=false) only [go_sem]
 refine vc_loop (fun (i:Nat) H'=>i≤ls.length∧∃ g',WrStep H b g H' (l ++ (enc ls.length ++ (ls.take i).flatMap (encT t))) g')
  (fun i=>[(0,.pointer (some ⟨b,0,none⟩)),(2,.func (.func f) #[.pointer (some ⟨b,0,none⟩)] #[]),(15,.slice a ls.length c),(16,.int .i64 ls.length),(17,.int .i64 i)]) (fun i=>ls.length - i) 0 ?_ ?_ ?_
 ·refine ⟨Nat.zero_le _,g0,?_⟩
  simpa using w0
 ·simp (implicitDefEqProofs:=false) only [go_sem]
 ·rintro i H' ⟨hi,g',ws'⟩
  rcases Nat.lt_or_ge i ls.length with hlt | hge
  ·have hlt':(i:Int) < (ls.length:Int):=by omega
   have h0:(0:Int)≤(i:Int):=by omega
   obtain ⟨bb,o,cc,x,e1,_,hxl,hp4,hp5⟩:=rep_at (Rep.wr ha ws') i hlt
   cases e1
   rw [hw] at hxl hp4
   obtain ⟨x0,x1,x2,rfl⟩:=len3 hxl
   have p0:=hp4 0 (by omega)
   have p1:=hp4 1 (by omega)
   have p2:=hp4 2 (by omega)
   simp only [Nat.add_zero,List.getElem?_cons_zero,List.getElem?_cons_succ] at p0 p1 p2
   have hw1:=succ_i64 i ls.length hlt (by omega)
   have hsz2:l.length + ((enc ls.length).length + (((ls.take i).flatMap (encT t)).length + (encT t ls[i]).length)) < 2^38:=by
    have e:=flat_split (encT t) ls i hlt
    rw [e] at hsz
    simp only [List.length_append] at hsz
    omega
   simp (implicitDefEqProofs:=false) only [go_sem,hlt',h0,p0,p1,p2]
   refine NewP_intro fun H2 hn2 hf2 hs2=>?_
   simp (implicitDefEqProofs:=false) only [go_sem]
   refine Sto_all hn2 rfl (rep_one hp5) fun H3 hn3 hf3 hs3=>?_
   have hfn:=new_fr hf2 hf3
   have hc3:=hn3.cell
   have ws3:=ws'.post hfn
   simp (implicitDefEqProofs:=false) only [go_sem,hc3]
   have hcall:=hf.2 _ (hok.2 _ (List.getElem_mem hlt)) ws3.1 (Rep.ext hp5 hfn) (by (try simp only [List.length_append]); omega)
   rw [hp] at hcall
   refine ⟨hf.1,hcall.mono ?_⟩
   rintro r H5 ⟨rfl,g5,w5⟩
   have w6:=ws3.trans w5
   simp (implicitDefEqProofs:=false) only [go_sem]
   refine loopK_intro (i + 1) (by show ls.length - (i + 1) < ls.length - i; omega) ?_ ⟨hlt,g5,?_⟩
   ·simp (implicitDefEqProofs:=false) only [go_sem,hw1]
   ·have e:l ++ (enc ls.length ++ (ls.take (i + 1)).flatMap (encT t))=l ++ (enc ls.length ++ (ls.take i).flatMap (encT t)) ++ encT t ls[i]:=by
     rw [flat_succ (encT t) ls i hlt]; simp
    rw [e]; exact w6
  ·have hge':¬ (i:Int) < (ls.length:Int):=by omega
   simp (implicitDefEqProofs:=false) only [go_sem,hge']
   rw [List.take_of_length_le hge] at ws'
   exact ⟨g',ws'⟩
theorem listStr_ok {f:Nat} {t:Ty} (hw:wid t=1) (hp:∀ v,argOf t [v]=v) (hf:WOk f t) (ls:List (den t)) (hok:okT (.list t) ls) {H:Heap} {b:Nat} {l:Bs} {g:Option Nat} {a:Option Addr} {c:Nat} (hwr:Wr H b l g)
 (ha:Rep H (b :: g.toList) (datT (.list t) ls) [.slice a ls.length c]) (hsz:l.length + (encT (.list t) ls).length < 2^38) :
 HCalls Tryz.prog 92 #[.pointer (some ⟨b,0,none⟩),.slice a ls.length c,.func (.func f) #[.pointer (some ⟨b,0,none⟩)] #[]] H fun r H'=>r= .tuple #[]∧∃ g',WrStep H b g H' (l ++ encT (.list t) ls) g':=by
 have hlen:ls.length < 2^63:=hok.1
 have hE:encT (.list t) ls=enc ls.length ++ ls.flatMap (encT t):=rfl
 rw [hE] at hsz ⊢
 have hfl:=flat_len (encT_pos t) ls
 simp only [List.length_append] at hsz
 refine calls_of_vc (args:=[_,_,_]) Tryz.func92 c92ok (Nat.le_of_ble_eq_true rfl) ?_
 have hx:IntKind.u64.wrap (ls.length:Int)=((ls.length:Nat):Int):=wrap_u64_id _ (by omega) (by omega)
 simp (implicitDefEqProofs:=false) only [go_sem,c92,hx]
 refine (uint_ok ls.length (by omega) hwr (by omega)).mono ?_
 rintro r H0 ⟨rfl,g0,w0⟩
 simp (implicitDefEqProofs:=false) only [go_sem]
 refine vc_loop (fun (i:Nat) H'=>i≤ls.length∧∃ g',WrStep H b g H' (l ++ (enc ls.length ++ (ls.take i).flatMap (encT t))) g')
  (fun i=>[(0,.pointer (some ⟨b,0,none⟩)),(2,.func (.func f) #[.pointer (some ⟨b,0,none⟩)] #[]),(15,.slice a ls.length c),(16,.int .i64 ls.length),(17,.int .i64 i)]) (fun i=>ls.length - i) 0 ?_ ?_ ?_
 ·refine ⟨Nat.zero_le _,g0,?_⟩
  simpa using w0
 ·simp (implicitDefEqProofs:=false) only [go_sem]
 ·rintro i H' ⟨hi,g',ws'⟩
  rcases Nat.lt_or_ge i ls.length with hlt | hge
  ·have hlt':(i:Int) < (ls.length:Int):=by omega
   have h0:(0:Int)≤(i:Int):=by omega
   obtain ⟨bb,o,cc,x,e1,_,hxl,hp4,hp5⟩:=rep_at (Rep.wr ha ws') i hlt
   cases e1
   rw [hw] at hxl hp4
   obtain ⟨x0,rfl⟩:=len1 hxl
   have p0:=hp4 0 (by omega)
   simp only [Nat.add_zero,List.getElem?_cons_zero,List.getElem?_cons_succ,Nat.mul_one] at p0
   have hw1:=succ_i64 i ls.length hlt (by omega)
   have hsz2:l.length + ((enc ls.length).length + (((ls.take i).flatMap (encT t)).length + (encT t ls[i]).length)) < 2^38:=by
    have e:=flat_split (encT t) ls i hlt
    rw [e] at hsz
    simp only [List.length_append] at hsz
    omega
   simp (implicitDefEqProofs:=false) only [go_sem,hlt',h0,p0]
   have hcall:=hf.2 _ (hok.2 _ (List.getElem_mem hlt)) ws'.1 hp5 (by (try simp only [List.length_append]); omega)
   rw [hp] at hcall
   refine ⟨hf.1,hcall.mono ?_⟩
   rintro r H5 ⟨rfl,g5,w5⟩
   have w6:=ws'.trans w5
   simp (implicitDefEqProofs:=false) only [go_sem]
   refine loopK_intro (i + 1) (by show ls.length - (i + 1) < ls.length - i; omega) ?_ ⟨hlt,g5,?_⟩
   ·simp (implicitDefEqProofs:=false) only [go_sem,hw1]
   ·have e:l ++ (enc ls.length ++ (ls.take (i + 1)).flatMap (encT t))=l ++ (enc ls.length ++ (ls.take i).flatMap (encT t)) ++ encT t ls[i]:=by
     rw [flat_succ (encT t) ls i hlt]; simp
    rw [e]; exact w6
  ·have hge':¬ (i:Int) < (ls.length:Int):=by omega
   simp (implicitDefEqProofs:=false) only [go_sem,hge']
   rw [List.take_of_length_le hge] at ws'
   exact ⟨g',ws'⟩
theorem listItem_ok {f:Nat} {t:Ty} (hw:wid t=4) (hp:∀ cs,argOf t cs= .agg cs.toArray) (hf:WOk f t) (ls:List (den t)) (hok:okT (.list t) ls) {H:Heap} {b:Nat} {l:Bs} {g:Option Nat} {a:Option Addr} {c:Nat} (hwr:Wr H b l g)
 (ha:Rep H (b :: g.toList) (datT (.list t) ls) [.slice a ls.length c]) (hsz:l.length + (encT (.list t) ls).length < 2^38) :
 HCalls Tryz.prog 94 #[.pointer (some ⟨b,0,none⟩),.slice a ls.length c,.func (.func f) #[.pointer (some ⟨b,0,none⟩)] #[]] H fun r H'=>r= .tuple #[]∧∃ g',WrStep H b g H' (l ++ encT (.list t) ls) g':=by
 have hlen:ls.length < 2^63:=hok.1
 have hE:encT (.list t) ls=enc ls.length ++ ls.flatMap (encT t):=rfl
 rw [hE] at hsz ⊢
 have hfl:=flat_len (encT_pos t) ls
 simp only [List.length_append] at hsz
 refine calls_of_vc (args:=[_,_,_]) Tryz.func94 c94ok (Nat.le_of_ble_eq_true rfl) ?_
 have hx:IntKind.u64.wrap (ls.length:Int)=((ls.length:Nat):Int):=wrap_u64_id _ (by omega) (by omega)
 simp (implicitDefEqProofs:=false) only [go_sem,c94,hx]
 refine (uint_ok ls.length (by omega) hwr (by omega)).mono ?_
 rintro r H0 ⟨rfl,g0,w0⟩
 simp (implicitDefEqProofs:=false) only [go_sem]
 refine vc_loop (fun (i:Nat) H'=>i≤ls.length∧∃ g',WrStep H b g H' (l ++ (enc ls.length ++ (ls.take i).flatMap (encT t))) g')
  (fun i=>[(0,.pointer (some ⟨b,0,none⟩)),(2,.func (.func f) #[.pointer (some ⟨b,0,none⟩)] #[]),(15,.slice a ls.length c),(16,.int .i64 ls.length),(17,.int .i64 i)]) (fun i=>ls.length - i) 0 ?_ ?_ ?_
 ·refine ⟨Nat.zero_le _,g0,?_⟩
  simpa using w0
 ·simp (implicitDefEqProofs:=false) only [go_sem]
 ·rintro i H' ⟨hi,g',ws'⟩
  rcases Nat.lt_or_ge i ls.length with hlt | hge
  ·have hlt':(i:Int) < (ls.length:Int):=by omega
   have h0:(0:Int)≤(i:Int):=by omega
   obtain ⟨bb,o,cc,x,e1,_,hxl,hp4,hp5⟩:=rep_at (Rep.wr ha ws') i hlt
   cases e1
   rw [hw] at hxl hp4
   obtain ⟨x0,x1,x2,x3,rfl⟩:=len4 hxl
   have p0:=hp4 0 (by omega)
   have p1:=hp4 1 (by omega)
   have p2:=hp4 2 (by omega)
   have p3:=hp4 3 (by omega)
   simp only [Nat.add_zero,List.getElem?_cons_zero,List.getElem?_cons_succ] at p0 p1 p2 p3
   have hw1:=succ_i64 i ls.length hlt (by omega)
   have hsz2:l.length + ((enc ls.length).length + (((ls.take i).flatMap (encT t)).length + (encT t ls[i]).length)) < 2^38:=by
    have e:=flat_split (encT t) ls i hlt
    rw [e] at hsz
    simp only [List.length_append] at hsz
    omega
   simp (implicitDefEqProofs:=false) only [go_sem,hlt',h0,p0,p1,p2,p3]
   refine NewP_intro fun H2 hn2 hf2 hs2=>?_
   simp (implicitDefEqProofs:=false) only [go_sem]
   refine Sto_all hn2 rfl (rep_one hp5) fun H3 hn3 hf3 hs3=>?_
   have hfn:=new_fr hf2 hf3
   have hc3:=hn3.cell
   have ws3:=ws'.post hfn
   simp (implicitDefEqProofs:=false) only [go_sem,hc3]
   have hcall:=hf.2 _ (hok.2 _ (List.getElem_mem hlt)) ws3.1 (Rep.ext hp5 hfn) (by (try simp only [List.length_append]); omega)
   rw [hp] at hcall
   refine ⟨hf.1,hcall.mono ?_⟩
   rintro r H5 ⟨rfl,g5,w5⟩
   have w6:=ws3.trans w5
   simp (implicitDefEqProofs:=false) only [go_sem]
   refine loopK_intro (i + 1) (by show ls.length - (i + 1) < ls.length - i; omega) ?_ ⟨hlt,g5,?_⟩
   ·simp (implicitDefEqProofs:=false) only [go_sem,hw1]
   ·have e:l ++ (enc ls.length ++ (ls.take (i + 1)).flatMap (encT t))=l ++ (enc ls.length ++ (ls.take i).flatMap (encT t)) ++ encT t ls[i]:=by
     rw [flat_succ (encT t) ls i hlt]; simp
    rw [e]; exact w6
  ·have hge':¬ (i:Int) < (ls.length:Int):=by omega
   simp (implicitDefEqProofs:=false) only [go_sem,hge']
   rw [List.take_of_length_le hge] at ws'
   exact ⟨g',ws'⟩
theorem listCertificate_ok {f:Nat} {t:Ty} (hw:wid t=9) (hp:∀ cs,argOf t cs= .agg cs.toArray) (hf:WOk f t) (ls:List (den t)) (hok:okT (.list t) ls) {H:Heap} {b:Nat} {l:Bs} {g:Option Nat} {a:Option Addr} {c:Nat} (hwr:Wr H b l g)
 (ha:Rep H (b :: g.toList) (datT (.list t) ls) [.slice a ls.length c]) (hsz:l.length + (encT (.list t) ls).length < 2^38) :
 HCalls Tryz.prog 125 #[.pointer (some ⟨b,0,none⟩),.slice a ls.length c,.func (.func f) #[.pointer (some ⟨b,0,none⟩)] #[]] H fun r H'=>r= .tuple #[]∧∃ g',WrStep H b g H' (l ++ encT (.list t) ls) g':=by
 have hlen:ls.length < 2^63:=hok.1
 have hE:encT (.list t) ls=enc ls.length ++ ls.flatMap (encT t):=rfl
 rw [hE] at hsz ⊢
 have hfl:=flat_len (encT_pos t) ls
 simp only [List.length_append] at hsz
 refine calls_of_vc (args:=[_,_,_]) Tryz.func125 c125ok (Nat.le_of_ble_eq_true rfl) ?_
 have hx:IntKind.u64.wrap (ls.length:Int)=((ls.length:Nat):Int):=wrap_u64_id _ (by omega) (by omega)
 simp (implicitDefEqProofs:=false) only [go_sem,c125,hx]
 refine (uint_ok ls.length (by omega) hwr (by omega)).mono ?_
 rintro r H0 ⟨rfl,g0,w0⟩
 simp (implicitDefEqProofs:=false) only [go_sem]
 refine vc_loop (fun (i:Nat) H'=>i≤ls.length∧∃ g',WrStep H b g H' (l ++ (enc ls.length ++ (ls.take i).flatMap (encT t))) g')
  (fun i=>[(0,.pointer (some ⟨b,0,none⟩)),(2,.func (.func f) #[.pointer (some ⟨b,0,none⟩)] #[]),(15,.slice a ls.length c),(16,.int .i64 ls.length),(17,.int .i64 i)]) (fun i=>ls.length - i) 0 ?_ ?_ ?_
 ·refine ⟨Nat.zero_le _,g0,?_⟩
  simpa using w0
 ·simp (implicitDefEqProofs:=false) only [go_sem]
 ·rintro i H' ⟨hi,g',ws'⟩
  rcases Nat.lt_or_ge i ls.length with hlt | hge
  ·have hlt':(i:Int) < (ls.length:Int):=by omega
   have h0:(0:Int)≤(i:Int):=by omega
   obtain ⟨bb,o,cc,x,e1,_,hxl,hp4,hp5⟩:=rep_at (Rep.wr ha ws') i hlt
   cases e1
   rw [hw] at hxl hp4
   obtain ⟨x0,x1,x2,x3,x4,x5,x6,x7,x8,rfl⟩:=len9 hxl
   have p0:=hp4 0 (by omega)
   have p1:=hp4 1 (by omega)
   have p2:=hp4 2 (by omega)
   have p3:=hp4 3 (by omega)
   have p4:=hp4 4 (by omega)
   have p5:=hp4 5 (by omega)
   have p6:=hp4 6 (by omega)
   have p7:=hp4 7 (by omega)
   have p8:=hp4 8 (by omega)
   simp only [Nat.add_zero,List.getElem?_cons_zero,List.getElem?_cons_succ] at p0 p1 p2 p3 p4 p5 p6 p7 p8
   have hw1:=succ_i64 i ls.length hlt (by omega)
   have hsz2:l.length + ((enc ls.length).length + (((ls.take i).flatMap (encT t)).length + (encT t ls[i]).length)) < 2^38:=by
    have e:=flat_split (encT t) ls i hlt
    rw [e] at hsz
    simp only [List.length_append] at hsz
    omega
   simp (implicitDefEqProofs:=false) only [go_sem,hlt',h0,p0,p1,p2,p3,p4,p5,p6,p7,p8]
   refine NewP_intro fun H2 hn2 hf2 hs2=>?_
   simp (implicitDefEqProofs:=false) only [go_sem]
   refine Sto_all hn2 rfl (rep_one hp5) fun H3 hn3 hf3 hs3=>?_
   have hfn:=new_fr hf2 hf3
   have hc3:=hn3.cell
   have ws3:=ws'.post hfn
   simp (implicitDefEqProofs:=false) only [go_sem,hc3]
   have hcall:=hf.2 _ (hok.2 _ (List.getElem_mem hlt)) ws3.1 (Rep.ext hp5 hfn) (by (try simp only [List.length_append]); omega)
   rw [hp] at hcall
   refine ⟨hf.1,hcall.mono ?_⟩
   rintro r H5 ⟨rfl,g5,w5⟩
   have w6:=ws3.trans w5
   simp (implicitDefEqProofs:=false) only [go_sem]
   refine loopK_intro (i + 1) (by show ls.length - (i + 1) < ls.length - i; omega) ?_ ⟨hlt,g5,?_⟩
   ·simp (implicitDefEqProofs:=false) only [go_sem,hw1]
   ·have e:l ++ (enc ls.length ++ (ls.take (i + 1)).flatMap (encT t))=l ++ (enc ls.length ++ (ls.take i).flatMap (encT t)) ++ encT t ls[i]:=by
     rw [flat_succ (encT t) ls i hlt]; simp
    rw [e]; exact w6
  ·have hge':¬ (i:Int) < (ls.length:Int):=by omega
   simp (implicitDefEqProofs:=false) only [go_sem,hge']
   rw [List.take_of_length_le hge] at ws'
   exact ⟨g',ws'⟩
theorem listWrite_ok {f:Nat} {t:Ty} (hw:wid t=2) (hp:∀ cs,argOf t cs= .agg cs.toArray) (hf:WOk f t) (ls:List (den t)) (hok:okT (.list t) ls) {H:Heap} {b:Nat} {l:Bs} {g:Option Nat} {a:Option Addr} {c:Nat} (hwr:Wr H b l g)
 (ha:Rep H (b :: g.toList) (datT (.list t) ls) [.slice a ls.length c]) (hsz:l.length + (encT (.list t) ls).length < 2^38) :
 HCalls Tryz.prog 127 #[.pointer (some ⟨b,0,none⟩),.slice a ls.length c,.func (.func f) #[.pointer (some ⟨b,0,none⟩)] #[]] H fun r H'=>r= .tuple #[]∧∃ g',WrStep H b g H' (l ++ encT (.list t) ls) g':=by
 have hlen:ls.length < 2^63:=hok.1
 have hE:encT (.list t) ls=enc ls.length ++ ls.flatMap (encT t):=rfl
 rw [hE] at hsz ⊢
 have hfl:=flat_len (encT_pos t) ls
 simp only [List.length_append] at hsz
 refine calls_of_vc (args:=[_,_,_]) Tryz.func127 c127ok (Nat.le_of_ble_eq_true rfl) ?_
 have hx:IntKind.u64.wrap (ls.length:Int)=((ls.length:Nat):Int):=wrap_u64_id _ (by omega) (by omega)
 simp (implicitDefEqProofs:=false) only [go_sem,c127,hx]
 refine (uint_ok ls.length (by omega) hwr (by omega)).mono ?_
 rintro r H0 ⟨rfl,g0,w0⟩
 simp (implicitDefEqProofs:=false) only [go_sem]
 refine vc_loop (fun (i:Nat) H'=>i≤ls.length∧∃ g',WrStep H b g H' (l ++ (enc ls.length ++ (ls.take i).flatMap (encT t))) g')
  (fun i=>[(0,.pointer (some ⟨b,0,none⟩)),(2,.func (.func f) #[.pointer (some ⟨b,0,none⟩)] #[]),(15,.slice a ls.length c),(16,.int .i64 ls.length),(17,.int .i64 i)]) (fun i=>ls.length - i) 0 ?_ ?_ ?_
 ·refine ⟨Nat.zero_le _,g0,?_⟩
  simpa using w0
 ·simp (implicitDefEqProofs:=false) only [go_sem]
 ·rintro i H' ⟨hi,g',ws'⟩
  rcases Nat.lt_or_ge i ls.length with hlt | hge
  ·have hlt':(i:Int) < (ls.length:Int):=by omega
   have h0:(0:Int)≤(i:Int):=by omega
   obtain ⟨bb,o,cc,x,e1,_,hxl,hp4,hp5⟩:=rep_at (Rep.wr ha ws') i hlt
   cases e1
   rw [hw] at hxl hp4
   obtain ⟨x0,x1,rfl⟩:=len2 hxl
   have p0:=hp4 0 (by omega)
   have p1:=hp4 1 (by omega)
   simp only [Nat.add_zero,List.getElem?_cons_zero,List.getElem?_cons_succ] at p0 p1
   have hw1:=succ_i64 i ls.length hlt (by omega)
   have hsz2:l.length + ((enc ls.length).length + (((ls.take i).flatMap (encT t)).length + (encT t ls[i]).length)) < 2^38:=by
    have e:=flat_split (encT t) ls i hlt
    rw [e] at hsz
    simp only [List.length_append] at hsz
    omega
   simp (implicitDefEqProofs:=false) only [go_sem,hlt',h0,p0,p1]
   refine NewP_intro fun H2 hn2 hf2 hs2=>?_
   simp (implicitDefEqProofs:=false) only [go_sem]
   refine Sto_all hn2 rfl (rep_one hp5) fun H3 hn3 hf3 hs3=>?_
   have hfn:=new_fr hf2 hf3
   have hc3:=hn3.cell
   have ws3:=ws'.post hfn
   simp (implicitDefEqProofs:=false) only [go_sem,hc3]
   have hcall:=hf.2 _ (hok.2 _ (List.getElem_mem hlt)) ws3.1 (Rep.ext hp5 hfn) (by (try simp only [List.length_append]); omega)
   rw [hp] at hcall
   refine ⟨hf.1,hcall.mono ?_⟩
   rintro r H5 ⟨rfl,g5,w5⟩
   have w6:=ws3.trans w5
   simp (implicitDefEqProofs:=false) only [go_sem]
   refine loopK_intro (i + 1) (by show ls.length - (i + 1) < ls.length - i; omega) ?_ ⟨hlt,g5,?_⟩
   ·simp (implicitDefEqProofs:=false) only [go_sem,hw1]
   ·have e:l ++ (enc ls.length ++ (ls.take (i + 1)).flatMap (encT t))=l ++ (enc ls.length ++ (ls.take i).flatMap (encT t)) ++ encT t ls[i]:=by
     rw [flat_succ (encT t) ls i hlt]; simp
    rw [e]; exact w6
  ·have hge':¬ (i:Int) < (ls.length:Int):=by omega
   simp (implicitDefEqProofs:=false) only [go_sem,hge']
   rw [List.take_of_length_le hge] at ws'
   exact ⟨g',ws'⟩
theorem listBts_ok {f:Nat} {t:Ty} (hw:wid t=1) (hp:∀ v,argOf t [v]=v) (hf:WOk f t) (ls:List (den t)) (hok:okT (.list t) ls) {H:Heap} {b:Nat} {l:Bs} {g:Option Nat} {a:Option Addr} {c:Nat} (hwr:Wr H b l g)
 (ha:Rep H (b :: g.toList) (datT (.list t) ls) [.slice a ls.length c]) (hsz:l.length + (encT (.list t) ls).length < 2^38) :
 HCalls Tryz.prog 130 #[.pointer (some ⟨b,0,none⟩),.slice a ls.length c,.func (.func f) #[.pointer (some ⟨b,0,none⟩)] #[]] H fun r H'=>r= .tuple #[]∧∃ g',WrStep H b g H' (l ++ encT (.list t) ls) g':=by
 have hlen:ls.length < 2^63:=hok.1
 have hE:encT (.list t) ls=enc ls.length ++ ls.flatMap (encT t):=rfl
 rw [hE] at hsz ⊢
 have hfl:=flat_len (encT_pos t) ls
 simp only [List.length_append] at hsz
 refine calls_of_vc (args:=[_,_,_]) Tryz.func130 c130ok (Nat.le_of_ble_eq_true rfl) ?_
 have hx:IntKind.u64.wrap (ls.length:Int)=((ls.length:Nat):Int):=wrap_u64_id _ (by omega) (by omega)
 simp (implicitDefEqProofs:=false) only [go_sem,c130,hx]
 refine (uint_ok ls.length (by omega) hwr (by omega)).mono ?_
 rintro r H0 ⟨rfl,g0,w0⟩
 simp (implicitDefEqProofs:=false) only [go_sem]
 refine vc_loop (fun (i:Nat) H'=>i≤ls.length∧∃ g',WrStep H b g H' (l ++ (enc ls.length ++ (ls.take i).flatMap (encT t))) g')
  (fun i=>[(0,.pointer (some ⟨b,0,none⟩)),(2,.func (.func f) #[.pointer (some ⟨b,0,none⟩)] #[]),(15,.slice a ls.length c),(16,.int .i64 ls.length),(17,.int .i64 i)]) (fun i=>ls.length - i) 0 ?_ ?_ ?_
 ·refine ⟨Nat.zero_le _,g0,?_⟩
  simpa using w0
 ·simp (implicitDefEqProofs:=false) only [go_sem]
 ·rintro i H' ⟨hi,g',ws'⟩
  rcases Nat.lt_or_ge i ls.length with hlt | hge
  ·have hlt':(i:Int) < (ls.length:Int):=by omega
   have h0:(0:Int)≤(i:Int):=by omega
   obtain ⟨bb,o,cc,x,e1,_,hxl,hp4,hp5⟩:=rep_at (Rep.wr ha ws') i hlt
   cases e1
   rw [hw] at hxl hp4
   obtain ⟨x0,rfl⟩:=len1 hxl
   have p0:=hp4 0 (by omega)
   simp only [Nat.add_zero,List.getElem?_cons_zero,List.getElem?_cons_succ,Nat.mul_one] at p0
   have hw1:=succ_i64 i ls.length hlt (by omega)
   have hsz2:l.length + ((enc ls.length).length + (((ls.take i).flatMap (encT t)).length + (encT t ls[i]).length)) < 2^38:=by
    have e:=flat_split (encT t) ls i hlt
    rw [e] at hsz
    simp only [List.length_append] at hsz
    omega
   simp (implicitDefEqProofs:=false) only [go_sem,hlt',h0,p0]
   have hcall:=hf.2 _ (hok.2 _ (List.getElem_mem hlt)) ws'.1 hp5 (by (try simp only [List.length_append]); omega)
   rw [hp] at hcall
   refine ⟨hf.1,hcall.mono ?_⟩
   rintro r H5 ⟨rfl,g5,w5⟩
   have w6:=ws'.trans w5
   simp (implicitDefEqProofs:=false) only [go_sem]
   refine loopK_intro (i + 1) (by show ls.length - (i + 1) < ls.length - i; omega) ?_ ⟨hlt,g5,?_⟩
   ·simp (implicitDefEqProofs:=false) only [go_sem,hw1]
   ·have e:l ++ (enc ls.length ++ (ls.take (i + 1)).flatMap (encT t))=l ++ (enc ls.length ++ (ls.take i).flatMap (encT t)) ++ encT t ls[i]:=by
     rw [flat_succ (encT t) ls i hlt]; simp
    rw [e]; exact w6
  ·have hge':¬ (i:Int) < (ls.length:Int):=by omega
   simp (implicitDefEqProofs:=false) only [go_sem,hge']
   rw [List.take_of_length_le hge] at ws'
   exact ⟨g',ws'⟩
end Go.Proofs.YtdhlibkdcldioaaGreat
end
section
set_option linter.unusedSimpArgs false
set_option linter.unusedVariables false
set_option maxRecDepth 8000
namespace Go.Proofs.YtdhlibkdcldioaaGreat
open Gx Go
theorem wbytes_ok:WOk 124 .bytes:=by
 refine ⟨by kernel_rfl,?_⟩
 intro d hok H b l g cs hwr ha hsz
 obtain ⟨a,c,rfl,hl,hm,hb⟩:=rep_bytes.1 ha
 simp only [encT,List.length_append] at hsz
 refine bytes_ok d hwr (by omega) (csR_bsR.1 hb.csR) ?_
 intro hd k o he
 rcases hb with hb | ⟨b',o',h1,h2,_⟩
 ·exact absurd (by simpa using hb) hd
 ·rw [he] at h1
  simp only [Option.some.injEq,Addr.mk.injEq] at h1
  obtain ⟨rfl,_,_⟩:=h1
  simp only [List.mem_cons,Option.mem_toList,not_or] at h2
  exact h2
theorem wbool_ok (x:den .bool) {H:Heap} {b:Nat} {l:List UInt8} {g:Option Nat} (h:Wr H b l g) (hl:l.length < 2^40) :
 HCalls Tryz.prog 129 #[.pointer (some ⟨b,0,none⟩),.bool x] H fun r H'=>r= .tuple #[]∧∃ g',WrStep H b g H' (l ++ encT .bool x) g':=bool_ok x h hl
theorem wtext_ok:WOk 93 .text:=by
 refine ⟨by kernel_rfl,?_⟩
 intro d hok H b l g cs hwr ha hsz
 have:=rep_text ha
 subst this
 simp only [encT,List.length_append] at hsz
 exact text_ok d hwr (by omega)
set_option maxHeartbeats 1000000 in
theorem wround_ok:WOk 79 tRound:=by
 refine ⟨by kernel_rfl,?_⟩
 rintro ⟨d0,d1,d2⟩ ⟨o0,o1,o2⟩ H b l g cs hwr ha hsz
 obtain ⟨c0,r0,rfl,h0,ha⟩:=rep_pair.1 ha
 obtain ⟨c1,r1,rfl,h1,ha⟩:=rep_pair.1 ha
 have h2:=ha
 have:=rep_num h0; subst this
 have:=rep_num h1; subst this
 have:=rep_num h2; subst this
 have hE:encT tRound (d0,d1,d2)=encT .num d0 ++ (encT .num d1 ++ (encT .num d2)):=rfl
 have hz:=hsz; rw [hE] at hz; simp only [List.length_append] at hz
 refine calls_of_vc (args:=[_,_]) Tryz.func79 c79ok (Nat.le_of_ble_eq_true rfl) ?_
 simp (implicitDefEqProofs:=false) only [go_sem,c79]
 refine NewP_intro fun H1 hn1 hf1 hs1=>?_
 obtain ⟨hxb,hxg⟩:=hwr.ne
 have ws0:=WrStep.refl (hwr.fr hf1 (by simp) (by simp))
 have hc0:=hn1.cell
 simp (implicitDefEqProofs:=false) only [go_sem,hc0]
 refine (wnum_ok d0 o0 ws0.1 (by (try simp only [List.length_append]); omega)).mono ?_
 rintro r K0 ⟨rfl,g0,v0⟩
 have ws1:=ws0.trans v0
 have hc1:=(Blk.wr hn1 ws1 hxb hxg).cell
 simp (implicitDefEqProofs:=false) only [go_sem,hc1]
 refine (wnum_ok d1 o1 ws1.1 (by (try simp only [List.length_append]); omega)).mono ?_
 rintro r K1 ⟨rfl,g1,v1⟩
 have ws2:=ws1.trans v1
 have hc2:=(Blk.wr hn1 ws2 hxb hxg).cell
 simp (implicitDefEqProofs:=false) only [go_sem,hc2]
 refine (wnum_ok d2 o2 ws2.1 (by (try simp only [List.length_append]); omega)).mono ?_
 rintro r K2 ⟨rfl,g2,v2⟩
 have ws3:=ws2.trans v2
 have hc3:=(Blk.wr hn1 ws3 hxb hxg).cell
 simp (implicitDefEqProofs:=false) only [go_sem]
 have hv:l ++ encT .num d0 ++ encT .num d1 ++ encT .num d2=l ++ encT tRound (d0,d1,d2):=by rw [hE]; simp [encT]
 rw [← hv]
 exact ⟨_,WrStep.pre hf1 ws3⟩
set_option maxHeartbeats 1000000 in
theorem wread_ok:WOk 81 tRead:=by
 refine ⟨by kernel_rfl,?_⟩
 rintro ⟨d0,d1,d2⟩ ⟨o0,o1,o2⟩ H b l g cs hwr ha hsz
 obtain ⟨c0,r0,rfl,h0,ha⟩:=rep_pair.1 ha
 obtain ⟨c1,r1,rfl,h1,ha⟩:=rep_pair.1 ha
 have h2:=ha
 have:=rep_num h0; subst this
 have:=rep_num h1; subst this
 obtain ⟨a2,q2,rfl,hl2,hm2,hb2⟩:=rep_bytes.1 h2
 have hE:encT tRead (d0,d1,d2)=encT .num d0 ++ (encT .num d1 ++ (encT .bytes d2)):=rfl
 have hz:=hsz; rw [hE] at hz; simp only [List.length_append] at hz
 refine calls_of_vc (args:=[_,_]) Tryz.func81 c81ok (Nat.le_of_ble_eq_true rfl) ?_
 simp (implicitDefEqProofs:=false) only [go_sem,c81]
 refine NewP_intro fun H1 hn1 hf1 hs1=>?_
 obtain ⟨hxb,hxg⟩:=hwr.ne
 have ws0:=WrStep.refl (hwr.fr hf1 (by simp) (by simp))
 have hc0:=hn1.cell
 simp (implicitDefEqProofs:=false) only [go_sem,hc0]
 refine (wnum_ok d0 o0 ws0.1 (by (try simp only [List.length_append]); omega)).mono ?_
 rintro r K0 ⟨rfl,g0,v0⟩
 have ws1:=ws0.trans v0
 have hc1:=(Blk.wr hn1 ws1 hxb hxg).cell
 simp (implicitDefEqProofs:=false) only [go_sem,hc1]
 refine (wnum_ok d1 o1 ws1.1 (by (try simp only [List.length_append]); omega)).mono ?_
 rintro r K1 ⟨rfl,g1,v1⟩
 have ws2:=ws1.trans v1
 have hc2:=(Blk.wr hn1 ws2 hxb hxg).cell
 simp (implicitDefEqProofs:=false) only [go_sem,hc2]
 refine (wbytes_ok.2 d2 o2 ws2.1 (Rep.wr (Rep.ext h2 hf1) ws2) (by (try simp only [List.length_append]); omega)).mono ?_
 rintro r K2 ⟨rfl,g2,v2⟩
 have ws3:=ws2.trans v2
 have hc3:=(Blk.wr hn1 ws3 hxb hxg).cell
 simp (implicitDefEqProofs:=false) only [go_sem]
 have hv:l ++ encT .num d0 ++ encT .num d1 ++ encT .bytes d2=l ++ encT tRead (d0,d1,d2):=by rw [hE]; simp [encT]
 rw [← hv]
 exact ⟨_,WrStep.pre hf1 ws3⟩
set_option maxHeartbeats 1000000 in
theorem wwrite_ok:WOk 128 tWrite:=by
 refine ⟨by kernel_rfl,?_⟩
 rintro ⟨d0,d1⟩ ⟨o0,o1⟩ H b l g cs hwr ha hsz
 obtain ⟨c0,r0,rfl,h0,ha⟩:=rep_pair.1 ha
 have h1:=ha
 have:=rep_text h0; subst this
 obtain ⟨a1,q1,rfl,hl1,hm1,hb1⟩:=rep_bytes.1 h1
 have hE:encT tWrite (d0,d1)=encT .text d0 ++ (encT .bytes d1):=rfl
 have hz:=hsz; rw [hE] at hz; simp only [List.length_append] at hz
 refine calls_of_vc (args:=[_,_]) Tryz.func128 c128ok (Nat.le_of_ble_eq_true rfl) ?_
 simp (implicitDefEqProofs:=false) only [go_sem,c128]
 refine NewP_intro fun H1 hn1 hf1 hs1=>?_
 obtain ⟨hxb,hxg⟩:=hwr.ne
 have ws0:=WrStep.refl (hwr.fr hf1 (by simp) (by simp))
 have hc0:=hn1.cell
 simp (implicitDefEqProofs:=false) only [go_sem,hc0]
 refine (wtext_ok.2 d0 o0 ws0.1 (Rep.wr (Rep.ext h0 hf1) ws0) (by (try simp only [List.length_append]); omega)).mono ?_
 rintro r K0 ⟨rfl,g0,v0⟩
 have ws1:=ws0.trans v0
 have hc1:=(Blk.wr hn1 ws1 hxb hxg).cell
 simp (implicitDefEqProofs:=false) only [go_sem,hc1]
 refine (wbytes_ok.2 d1 o1 ws1.1 (Rep.wr (Rep.ext h1 hf1) ws1) (by (try simp only [List.length_append]); omega)).mono ?_
 rintro r K1 ⟨rfl,g1,v1⟩
 have ws2:=ws1.trans v1
 have hc2:=(Blk.wr hn1 ws2 hxb hxg).cell
 simp (implicitDefEqProofs:=false) only [go_sem]
 have hv:l ++ encT .text d0 ++ encT .bytes d1=l ++ encT tWrite (d0,d1):=by rw [hE]; simp [encT]
 rw [← hv]
 exact ⟨_,WrStep.pre hf1 ws2⟩
set_option maxHeartbeats 1000000 in
theorem wcommand_ok:WOk 85 tCmd:=by
 refine ⟨by kernel_rfl,?_⟩
 rintro ⟨d0,d1,d2,d3,d4,d5⟩ ⟨o0,o1,o2,o3,o4,o5⟩ H b l g cs hwr ha hsz
 obtain ⟨c0,r0,rfl,h0,ha⟩:=rep_pair.1 ha
 obtain ⟨c1,r1,rfl,h1,ha⟩:=rep_pair.1 ha
 obtain ⟨c2,r2,rfl,h2,ha⟩:=rep_pair.1 ha
 obtain ⟨c3,r3,rfl,h3,ha⟩:=rep_pair.1 ha
 obtain ⟨c4,r4,rfl,h4,ha⟩:=rep_pair.1 ha
 have h5:=ha
 have:=rep_num h0; subst this
 have:=rep_num h1; subst this
 have:=rep_num h2; subst this
 obtain ⟨a3,q3,rfl,hl3,hm3⟩:=rep_list h3
 have:=rep_num h4; subst this
 obtain ⟨a5,q5,rfl,hl5,hm5,hb5⟩:=rep_bytes.1 h5
 have hE:encT tCmd (d0,d1,d2,d3,d4,d5)=encT .num d0 ++ (encT .num d1 ++ (encT .num d2 ++ (encT (.list tWrite) d3 ++ (encT .num d4 ++ (encT .bytes d5))))):=rfl
 have hz:=hsz; rw [hE] at hz; simp only [List.length_append] at hz
 refine calls_of_vc (args:=[_,_]) Tryz.func85 c85ok (Nat.le_of_ble_eq_true rfl) ?_
 simp (implicitDefEqProofs:=false) only [go_sem,c85]
 refine NewP_intro fun H1 hn1 hf1 hs1=>?_
 obtain ⟨hxb,hxg⟩:=hwr.ne
 have ws0:=WrStep.refl (hwr.fr hf1 (by simp) (by simp))
 have hc0:=hn1.cell
 simp (implicitDefEqProofs:=false) only [go_sem,hc0]
 refine (wnum_ok d0 o0 ws0.1 (by (try simp only [List.length_append]); omega)).mono ?_
 rintro r K0 ⟨rfl,g0,v0⟩
 have ws1:=ws0.trans v0
 have hc1:=(Blk.wr hn1 ws1 hxb hxg).cell
 simp (implicitDefEqProofs:=false) only [go_sem,hc1]
 refine (wnum_ok d1 o1 ws1.1 (by (try simp only [List.length_append]); omega)).mono ?_
 rintro r K1 ⟨rfl,g1,v1⟩
 have ws2:=ws1.trans v1
 have hc2:=(Blk.wr hn1 ws2 hxb hxg).cell
 simp (implicitDefEqProofs:=false) only [go_sem,hc2]
 refine (wnum_ok d2 o2 ws2.1 (by (try simp only [List.length_append]); omega)).mono ?_
 rintro r K2 ⟨rfl,g2,v2⟩
 have ws3:=ws2.trans v2
 have hc3:=(Blk.wr hn1 ws3 hxb hxg).cell
 simp (implicitDefEqProofs:=false) only [go_sem,hc3]
 refine (listWrite_ok rfl (fun _=>rfl) wwrite_ok d3 o3 ws3.1 (Rep.wr (Rep.ext h3 hf1) ws3) (by (try simp only [List.length_append]); omega)).mono ?_
 rintro r K3 ⟨rfl,g3,v3⟩
 have ws4:=ws3.trans v3
 have hc4:=(Blk.wr hn1 ws4 hxb hxg).cell
 simp (implicitDefEqProofs:=false) only [go_sem,hc4]
 refine (wnum_ok d4 o4 ws4.1 (by (try simp only [List.length_append]); omega)).mono ?_
 rintro r K4 ⟨rfl,g4,v4⟩
 have ws5:=ws4.trans v4
 have hc5:=(Blk.wr hn1 ws5 hxb hxg).cell
 simp (implicitDefEqProofs:=false) only [go_sem,hc5]
 refine (wbytes_ok.2 d5 o5 ws5.1 (Rep.wr (Rep.ext h5 hf1) ws5) (by (try simp only [List.length_append]); omega)).mono ?_
 rintro r K5 ⟨rfl,g5,v5⟩
 have ws6:=ws5.trans v5
 have hc6:=(Blk.wr hn1 ws6 hxb hxg).cell
 simp (implicitDefEqProofs:=false) only [go_sem]
 have hv:l ++ encT .num d0 ++ encT .num d1 ++ encT .num d2 ++ encT (.list tWrite) d3 ++ encT .num d4 ++ encT .bytes d5=l ++ encT tCmd (d0,d1,d2,d3,d4,d5):=by rw [hE]; simp [encT]
 rw [← hv]
 exact ⟨_,WrStep.pre hf1 ws6⟩
set_option maxHeartbeats 1000000 in
theorem wack_ok:WOk 87 tAck:=by
 refine ⟨by kernel_rfl,?_⟩
 rintro ⟨d0,d1⟩ ⟨o0,o1⟩ H b l g cs hwr ha hsz
 obtain ⟨c0,r0,rfl,h0,ha⟩:=rep_pair.1 ha
 have h1:=ha
 have:=rep_num h0; subst this
 obtain ⟨a1,q1,rfl,hl1,hm1,hb1⟩:=rep_bytes.1 h1
 have hE:encT tAck (d0,d1)=encT .num d0 ++ (encT .bytes d1):=rfl
 have hz:=hsz; rw [hE] at hz; simp only [List.length_append] at hz
 refine calls_of_vc (args:=[_,_]) Tryz.func87 c87ok (Nat.le_of_ble_eq_true rfl) ?_
 simp (implicitDefEqProofs:=false) only [go_sem,c87]
 refine NewP_intro fun H1 hn1 hf1 hs1=>?_
 obtain ⟨hxb,hxg⟩:=hwr.ne
 have ws0:=WrStep.refl (hwr.fr hf1 (by simp) (by simp))
 have hc0:=hn1.cell
 simp (implicitDefEqProofs:=false) only [go_sem,hc0]
 refine (wnum_ok d0 o0 ws0.1 (by (try simp only [List.length_append]); omega)).mono ?_
 rintro r K0 ⟨rfl,g0,v0⟩
 have ws1:=ws0.trans v0
 have hc1:=(Blk.wr hn1 ws1 hxb hxg).cell
 simp (implicitDefEqProofs:=false) only [go_sem,hc1]
 refine (wbytes_ok.2 d1 o1 ws1.1 (Rep.wr (Rep.ext h1 hf1) ws1) (by (try simp only [List.length_append]); omega)).mono ?_
 rintro r K1 ⟨rfl,g1,v1⟩
 have ws2:=ws1.trans v1
 have hc2:=(Blk.wr hn1 ws2 hxb hxg).cell
 simp (implicitDefEqProofs:=false) only [go_sem]
 have hv:l ++ encT .num d0 ++ encT .bytes d1=l ++ encT tAck (d0,d1):=by rw [hE]; simp [encT]
 rw [← hv]
 exact ⟨_,WrStep.pre hf1 ws2⟩
set_option maxHeartbeats 1000000 in
theorem wcertificate_ok:WOk 126 tCert:=by
 refine ⟨by kernel_rfl,?_⟩
 rintro ⟨d0,d1,d2,d3,d4,d5,d6⟩ ⟨o0,o1,o2,o3,o4,o5,o6⟩ H b l g cs hwr ha hsz
 obtain ⟨c0,r0,rfl,h0,ha⟩:=rep_pair.1 ha
 obtain ⟨c1,r1,rfl,h1,ha⟩:=rep_pair.1 ha
 obtain ⟨c2,r2,rfl,h2,ha⟩:=rep_pair.1 ha
 obtain ⟨c3,r3,rfl,h3,ha⟩:=rep_pair.1 ha
 obtain ⟨c4,r4,rfl,h4,ha⟩:=rep_pair.1 ha
 obtain ⟨c5,r5,rfl,h5,ha⟩:=rep_pair.1 ha
 have h6:=ha
 obtain ⟨y0_0,y0_1,y0_2,rfl⟩:=len3 (rep_wid h0)
 obtain ⟨a1,q1,rfl,hl1,hm1⟩:=rep_list h1
 obtain ⟨a2,q2,rfl,hl2,hm2⟩:=rep_list h2
 obtain ⟨a3,q3,rfl,hl3,hm3⟩:=rep_list h3
 have:=rep_num h4; subst this
 obtain ⟨a5,q5,rfl,hl5,hm5,hb5⟩:=rep_bytes.1 h5
 obtain ⟨a6,q6,rfl,hl6,hm6⟩:=rep_list h6
 have hE:encT tCert (d0,d1,d2,d3,d4,d5,d6)=encT tRound d0 ++ (encT (.list tRead) d1 ++ (encT (.list tCmd) d2 ++ (encT (.list tCmd) d3 ++ (encT .num d4 ++ (encT .bytes d5 ++ (encT (.list tAck) d6)))))):=rfl
 have hz:=hsz; rw [hE] at hz; simp only [List.length_append] at hz
 refine calls_of_vc (args:=[_,_]) Tryz.func126 c126ok (Nat.le_of_ble_eq_true rfl) ?_
 simp (implicitDefEqProofs:=false) only [go_sem,c126]
 refine NewP_intro fun H1 hn1 hf1 hs1=>?_
 obtain ⟨hxb,hxg⟩:=hwr.ne
 have ws0:=WrStep.refl (hwr.fr hf1 (by simp) (by simp))
 have hc0:=hn1.cell
 simp (implicitDefEqProofs:=false) only [go_sem,hc0]
 refine (wround_ok.2 d0 o0 ws0.1 (Rep.wr (Rep.ext h0 hf1) ws0) (by (try simp only [List.length_append]); omega)).mono ?_
 rintro r K0 ⟨rfl,g0,v0⟩
 have ws1:=ws0.trans v0
 have hc1:=(Blk.wr hn1 ws1 hxb hxg).cell
 simp (implicitDefEqProofs:=false) only [go_sem,hc1]
 refine (listReadID_ok rfl (fun _=>rfl) wread_ok d1 o1 ws1.1 (Rep.wr (Rep.ext h1 hf1) ws1) (by (try simp only [List.length_append]); omega)).mono ?_
 rintro r K1 ⟨rfl,g1,v1⟩
 have ws2:=ws1.trans v1
 have hc2:=(Blk.wr hn1 ws2 hxb hxg).cell
 simp (implicitDefEqProofs:=false) only [go_sem,hc2]
 refine (listCommand_ok rfl (fun _=>rfl) wcommand_ok d2 o2 ws2.1 (Rep.wr (Rep.ext h2 hf1) ws2) (by (try simp only [List.length_append]); omega)).mono ?_
 rintro r K2 ⟨rfl,g2,v2⟩
 have ws3:=ws2.trans v2
 have hc3:=(Blk.wr hn1 ws3 hxb hxg).cell
 simp (implicitDefEqProofs:=false) only [go_sem,hc3]
 refine (listCommand_ok rfl (fun _=>rfl) wcommand_ok d3 o3 ws3.1 (Rep.wr (Rep.ext h3 hf1) ws3) (by (try simp only [List.length_append]); omega)).mono ?_
 rintro r K3 ⟨rfl,g3,v3⟩
 have ws4:=ws3.trans v3
 have hc4:=(Blk.wr hn1 ws4 hxb hxg).cell
 simp (implicitDefEqProofs:=false) only [go_sem,hc4]
 refine (wnum_ok d4 o4 ws4.1 (by (try simp only [List.length_append]); omega)).mono ?_
 rintro r K4 ⟨rfl,g4,v4⟩
 have ws5:=ws4.trans v4
 have hc5:=(Blk.wr hn1 ws5 hxb hxg).cell
 simp (implicitDefEqProofs:=false) only [go_sem,hc5]
 refine (wbytes_ok.2 d5 o5 ws5.1 (Rep.wr (Rep.ext h5 hf1) ws5) (by (try simp only [List.length_append]); omega)).mono ?_
 rintro r K5 ⟨rfl,g5,v5⟩
 have ws6:=ws5.trans v5
 have hc6:=(Blk.wr hn1 ws6 hxb hxg).cell
 simp (implicitDefEqProofs:=false) only [go_sem,hc6]
 refine (listAck_ok rfl (fun _=>rfl) wack_ok d6 o6 ws6.1 (Rep.wr (Rep.ext h6 hf1) ws6) (by (try simp only [List.length_append]); omega)).mono ?_
 rintro r K6 ⟨rfl,g6,v6⟩
 have ws7:=ws6.trans v6
 have hc7:=(Blk.wr hn1 ws7 hxb hxg).cell
 simp (implicitDefEqProofs:=false) only [go_sem]
 have hv:l ++ encT tRound d0 ++ encT (.list tRead) d1 ++ encT (.list tCmd) d2 ++ encT (.list tCmd) d3 ++ encT .num d4 ++ encT .bytes d5 ++ encT (.list tAck) d6=l ++ encT tCert (d0,d1,d2,d3,d4,d5,d6):=by rw [hE]; simp [encT]
 rw [← hv]
 exact ⟨_,WrStep.pre hf1 ws7⟩
set_option maxHeartbeats 1000000 in
theorem wbase_ok:WOk 83 tBase:=by
 refine ⟨by kernel_rfl,?_⟩
 rintro ⟨d0,d1⟩ ⟨o0,o1⟩ H b l g cs hwr ha hsz
 obtain ⟨c0,r0,rfl,h0,ha⟩:=rep_pair.1 ha
 have h1:=ha
 obtain ⟨a0,q0,rfl,hl0,hm0⟩:=rep_list h0
 obtain ⟨a1,q1,rfl,hl1,hm1⟩:=rep_list h1
 have hE:encT tBase (d0,d1)=encT (.list tCert) d0 ++ (encT (.list tCmd) d1):=rfl
 have hz:=hsz; rw [hE] at hz; simp only [List.length_append] at hz
 refine calls_of_vc (args:=[_,_]) Tryz.func83 c83ok (Nat.le_of_ble_eq_true rfl) ?_
 simp (implicitDefEqProofs:=false) only [go_sem,c83]
 refine NewP_intro fun H1 hn1 hf1 hs1=>?_
 obtain ⟨hxb,hxg⟩:=hwr.ne
 have ws0:=WrStep.refl (hwr.fr hf1 (by simp) (by simp))
 have hc0:=hn1.cell
 simp (implicitDefEqProofs:=false) only [go_sem,hc0]
 refine (listCertificate_ok rfl (fun _=>rfl) wcertificate_ok d0 o0 ws0.1 (Rep.wr (Rep.ext h0 hf1) ws0) (by (try simp only [List.length_append]); omega)).mono ?_
 rintro r K0 ⟨rfl,g0,v0⟩
 have ws1:=ws0.trans v0
 have hc1:=(Blk.wr hn1 ws1 hxb hxg).cell
 simp (implicitDefEqProofs:=false) only [go_sem,hc1]
 refine (listCommand_ok rfl (fun _=>rfl) wcommand_ok d1 o1 ws1.1 (Rep.wr (Rep.ext h1 hf1) ws1) (by (try simp only [List.length_append]); omega)).mono ?_
 rintro r K1 ⟨rfl,g1,v1⟩
 have ws2:=ws1.trans v1
 have hc2:=(Blk.wr hn1 ws2 hxb hxg).cell
 simp (implicitDefEqProofs:=false) only [go_sem]
 have hv:l ++ encT (.list tCert) d0 ++ encT (.list tCmd) d1=l ++ encT tBase (d0,d1):=by rw [hE]; simp [encT]
 rw [← hv]
 exact ⟨_,WrStep.pre hf1 ws2⟩
set_option maxHeartbeats 1000000 in
theorem wproof_ok:WOk 89 tProof:=by
 refine ⟨by kernel_rfl,?_⟩
 rintro ⟨d0,d1⟩ ⟨o0,o1⟩ H b l g cs hwr ha hsz
 obtain ⟨c0,r0,rfl,h0,ha⟩:=rep_pair.1 ha
 have h1:=ha
 obtain ⟨a0,q0,rfl,hl0,hm0⟩:=rep_list h0
 obtain ⟨y1_0,y1_1,y1_2,y1_3,y1_4,y1_5,y1_6,y1_7,y1_8,rfl⟩:=len9 (rep_wid h1)
 have hE:encT tProof (d0,d1)=encT (.list tCert) d0 ++ (encT tCert d1):=rfl
 have hz:=hsz; rw [hE] at hz; simp only [List.length_append] at hz
 refine calls_of_vc (args:=[_,_]) Tryz.func89 c89ok (Nat.le_of_ble_eq_true rfl) ?_
 simp (implicitDefEqProofs:=false) only [go_sem,c89]
 refine NewP_intro fun H1 hn1 hf1 hs1=>?_
 obtain ⟨hxb,hxg⟩:=hwr.ne
 have ws0:=WrStep.refl (hwr.fr hf1 (by simp) (by simp))
 have hc0:=hn1.cell
 simp (implicitDefEqProofs:=false) only [go_sem,hc0]
 refine (listCertificate_ok rfl (fun _=>rfl) wcertificate_ok d0 o0 ws0.1 (Rep.wr (Rep.ext h0 hf1) ws0) (by (try simp only [List.length_append]); omega)).mono ?_
 rintro r K0 ⟨rfl,g0,v0⟩
 have ws1:=ws0.trans v0
 have hc1:=(Blk.wr hn1 ws1 hxb hxg).cell
 simp (implicitDefEqProofs:=false) only [go_sem,hc1]
 refine (wcertificate_ok.2 d1 o1 ws1.1 (Rep.wr (Rep.ext h1 hf1) ws1) (by (try simp only [List.length_append]); omega)).mono ?_
 rintro r K1 ⟨rfl,g1,v1⟩
 have ws2:=ws1.trans v1
 have hc2:=(Blk.wr hn1 ws2 hxb hxg).cell
 simp (implicitDefEqProofs:=false) only [go_sem]
 have hv:l ++ encT (.list tCert) d0 ++ encT tCert d1=l ++ encT tProof (d0,d1):=by rw [hE]; simp [encT]
 rw [← hv]
 exact ⟨_,WrStep.pre hf1 ws2⟩
set_option maxHeartbeats 1000000 in
theorem wdigest_ok:WOk 91 tDigest:=by
 refine ⟨by kernel_rfl,?_⟩
 rintro ⟨d0,d1,d2⟩ ⟨o0,o1,o2⟩ H b l g cs hwr ha hsz
 obtain ⟨c0,r0,rfl,h0,ha⟩:=rep_pair.1 ha
 obtain ⟨c1,r1,rfl,h1,ha⟩:=rep_pair.1 ha
 have h2:=ha
 obtain ⟨a0,q0,rfl,hl0,hm0,hb0⟩:=rep_bytes.1 h0
 obtain ⟨a1,q1,rfl,hl1,hm1,hb1⟩:=rep_bytes.1 h1
 have:=rep_num h2; subst this
 have hE:encT tDigest (d0,d1,d2)=encT .bytes d0 ++ (encT .bytes d1 ++ (encT .num d2)):=rfl
 have hz:=hsz; rw [hE] at hz; simp only [List.length_append] at hz
 refine calls_of_vc (args:=[_,_]) Tryz.func91 c91ok (Nat.le_of_ble_eq_true rfl) ?_
 simp (implicitDefEqProofs:=false) only [go_sem,c91]
 refine NewP_intro fun H1 hn1 hf1 hs1=>?_
 obtain ⟨hxb,hxg⟩:=hwr.ne
 have ws0:=WrStep.refl (hwr.fr hf1 (by simp) (by simp))
 have hc0:=hn1.cell
 simp (implicitDefEqProofs:=false) only [go_sem,hc0]
 refine (wbytes_ok.2 d0 o0 ws0.1 (Rep.wr (Rep.ext h0 hf1) ws0) (by (try simp only [List.length_append]); omega)).mono ?_
 rintro r K0 ⟨rfl,g0,v0⟩
 have ws1:=ws0.trans v0
 have hc1:=(Blk.wr hn1 ws1 hxb hxg).cell
 simp (implicitDefEqProofs:=false) only [go_sem,hc1]
 refine (wbytes_ok.2 d1 o1 ws1.1 (Rep.wr (Rep.ext h1 hf1) ws1) (by (try simp only [List.length_append]); omega)).mono ?_
 rintro r K1 ⟨rfl,g1,v1⟩
 have ws2:=ws1.trans v1
 have hc2:=(Blk.wr hn1 ws2 hxb hxg).cell
 simp (implicitDefEqProofs:=false) only [go_sem,hc2]
 refine (wnum_ok d2 o2 ws2.1 (by (try simp only [List.length_append]); omega)).mono ?_
 rintro r K2 ⟨rfl,g2,v2⟩
 have ws3:=ws2.trans v2
 have hc3:=(Blk.wr hn1 ws3 hxb hxg).cell
 simp (implicitDefEqProofs:=false) only [go_sem]
 have hv:l ++ encT .bytes d0 ++ encT .bytes d1 ++ encT .num d2=l ++ encT tDigest (d0,d1,d2):=by rw [hE]; simp [encT]
 rw [← hv]
 exact ⟨_,WrStep.pre hf1 ws3⟩
set_option maxHeartbeats 1000000 in
theorem witem_ok:WOk 95 tItem:=by
 refine ⟨by kernel_rfl,?_⟩
 rintro ⟨d0,d1,d2,d3⟩ ⟨o0,o1,o2,o3⟩ H b l g cs hwr ha hsz
 obtain ⟨c0,r0,rfl,h0,ha⟩:=rep_pair.1 ha
 obtain ⟨c1,r1,rfl,h1,ha⟩:=rep_pair.1 ha
 obtain ⟨c2,r2,rfl,h2,ha⟩:=rep_pair.1 ha
 have h3:=ha
 have:=rep_text h0; subst this
 have:=rep_bool h1; subst this
 obtain ⟨a2,q2,rfl,hl2,hm2,hb2⟩:=rep_bytes.1 h2
 obtain ⟨a3,q3,rfl,hl3,hm3⟩:=rep_list h3
 have hE:encT tItem (d0,d1,d2,d3)=encT .text d0 ++ (encT .bool d1 ++ (encT .bytes d2 ++ (encT (.list .bytes) d3))):=rfl
 have hz:=hsz; rw [hE] at hz; simp only [List.length_append] at hz
 refine calls_of_vc (args:=[_,_]) Tryz.func95 c95ok (Nat.le_of_ble_eq_true rfl) ?_
 simp (implicitDefEqProofs:=false) only [go_sem,c95]
 refine NewP_intro fun H1 hn1 hf1 hs1=>?_
 obtain ⟨hxb,hxg⟩:=hwr.ne
 have ws0:=WrStep.refl (hwr.fr hf1 (by simp) (by simp))
 have hc0:=hn1.cell
 simp (implicitDefEqProofs:=false) only [go_sem,hc0]
 refine (wtext_ok.2 d0 o0 ws0.1 (Rep.wr (Rep.ext h0 hf1) ws0) (by (try simp only [List.length_append]); omega)).mono ?_
 rintro r K0 ⟨rfl,g0,v0⟩
 have ws1:=ws0.trans v0
 have hc1:=(Blk.wr hn1 ws1 hxb hxg).cell
 simp (implicitDefEqProofs:=false) only [go_sem,hc1]
 refine (wbool_ok d1 ws1.1 (by (try simp only [List.length_append]); omega)).mono ?_
 rintro r K1 ⟨rfl,g1,v1⟩
 have ws2:=ws1.trans v1
 have hc2:=(Blk.wr hn1 ws2 hxb hxg).cell
 simp (implicitDefEqProofs:=false) only [go_sem,hc2]
 refine (wbytes_ok.2 d2 o2 ws2.1 (Rep.wr (Rep.ext h2 hf1) ws2) (by (try simp only [List.length_append]); omega)).mono ?_
 rintro r K2 ⟨rfl,g2,v2⟩
 have ws3:=ws2.trans v2
 have hc3:=(Blk.wr hn1 ws3 hxb hxg).cell
 simp (implicitDefEqProofs:=false) only [go_sem,hc3]
 refine (listBts_ok rfl (fun _=>rfl) wbytes_ok d3 o3 ws3.1 (Rep.wr (Rep.ext h3 hf1) ws3) (by (try simp only [List.length_append]); omega)).mono ?_
 rintro r K3 ⟨rfl,g3,v3⟩
 have ws4:=ws3.trans v3
 have hc4:=(Blk.wr hn1 ws4 hxb hxg).cell
 simp (implicitDefEqProofs:=false) only [go_sem]
 have hv:l ++ encT .text d0 ++ encT .bool d1 ++ encT .bytes d2 ++ encT (.list .bytes) d3=l ++ encT tItem (d0,d1,d2,d3):=by rw [hE]; simp [encT]
 rw [← hv]
 exact ⟨_,WrStep.pre hf1 ws4⟩
end Go.Proofs.YtdhlibkdcldioaaGreat
end
section
set_option linter.unusedSimpArgs false
set_option linter.unusedVariables false
set_option maxRecDepth 8000
namespace Go.Proofs.YtdhlibkdcldioaaGreat
open Gx Go
theorem rep_apart {H H':Heap} {M:List Nat} {d:Dat} {cs:List Value} (h:Rep H [] d cs) (hf:Fr [] H H') (hM:∀ x ∈ M,H.size≤x):Rep H' M d cs:=
 Rep.stay h fun b hb hn=>⟨fun hm=>by have:=hM b hm; omega,hf.same b hb hn⟩
theorem msg_round {H:Heap} {M:List Nat} {m:Msg}:Rep H M (datT tRound m.round) [.int .i64 m.round.1,.int .i64 m.round.2.1,.int .i64 m.round.2.2]:=by
 have e:[Value.int .i64 m.round.1,.int .i64 m.round.2.1,.int .i64 m.round.2.2]=[Value.int .i64 m.round.1] ++ ([Value.int .i64 m.round.2.1] ++ [Value.int .i64 m.round.2.2]):=rfl
 rw [e]
 exact rep_pair.2 ⟨_,_,rfl,by simp [datT,Rep],rep_pair.2 ⟨_,_,rfl,by simp [datT,Rep],by simp [datT,Rep]⟩⟩
set_option maxHeartbeats 4000000 in
theorem payload_ok {m:Msg} {H:Heap} {cs:List Value} (h:Rep H [] (datT tMsg m.tup) cs) (hok:okM m) (hform:formB m=true) (hl:(encM m).length < 2^37):HCalls Tryz.prog 32 #[.agg cs.toArray] H (Out H (encM m)):=by
 obtain ⟨a_reads,c_reads,a_base,c_base,a_state,c_state,a_acks,c_acks,a_proof,c_proof,a_digests,c_digests,a_objects,c_objects,a_items,c_items,rfl,h_reads,h_base,h_state,h_acks,h_proof,h_digests,h_objects,h_items⟩:=msg_open h
 obtain ⟨o_kind,o_src,o_dst,o_round,o_reads,o_base,o_state,o_acks,o_proof,o_digests,o_objects,o_seq,o_items⟩:=hok
 have hhead:=form_head hform
 refine calls_of_vc (args:=[_]) Tryz.func32 c32ok (Nat.le_of_ble_eq_true rfl) ?_
 simp (implicitDefEqProofs:=false) only [go_sem,c32]
 refine NewP_intro fun H1 hn1 hf1 hs1=>?_
 simp (implicitDefEqProofs:=false) only [go_sem]
 refine NewP_intro fun H2 hn2 hf2 hs2=>?_
 have hf12:=hf1.trans hf2
 have hn1':=hn1.ext hf2
 have hcw:=hn1'.cell
 have hck:IntKind.u64.wrap m.kind=((m.kind.toNat:Nat):Int):=by rw [wrap_u64_id _ (by omega) (by omega)]; omega
 have hwr:Wr H2 H1.size [] none:=⟨none,0,hn2,Own.nil _ _ _⟩
 have hxb:H.size≠H1.size:=by omega
 have hM:∀ x ∈ H1.size :: (none:Option Nat).toList,H.size≤x:=by simp; omega
 have h_round2:Rep H2 (H1.size :: (none:Option Nat).toList) (datT tRound m.round) [.int .i64 m.round.1,.int .i64 m.round.2.1,.int .i64 m.round.2.2]:=msg_round
 have h_reads2:=rep_apart (M:=H1.size :: (none:Option Nat).toList) h_reads hf12 hM
 have h_base2:=rep_apart (M:=H1.size :: (none:Option Nat).toList) h_base hf12 hM
 have h_state2:=rep_apart (M:=H1.size :: (none:Option Nat).toList) h_state hf12 hM
 have h_acks2:=rep_apart (M:=H1.size :: (none:Option Nat).toList) h_acks hf12 hM
 have h_proof2:=rep_apart (M:=H1.size :: (none:Option Nat).toList) h_proof hf12 hM
 have h_digests2:=rep_apart (M:=H1.size :: (none:Option Nat).toList) h_digests hf12 hM
 have h_objects2:=rep_apart (M:=H1.size :: (none:Option Nat).toList) h_objects hf12 hM
 have h_items2:=rep_apart (M:=H1.size :: (none:Option Nat).toList) h_items hf12 hM
 simp (implicitDefEqProofs:=false) only [go_sem,hcw,hck]
 refine (uint_ok m.kind.toNat (by omega) hwr (by simp)).mono ?_
 rintro r X0 ⟨rfl,g0,v0⟩
 have hc0:=(Blk.wr hn1' v0 hxb (by simp)).cell
 by_cases k1:m.kind=1
 ·have hE:encM m=enc 1 ++ (encT .num m.src ++ (encT .num m.dst ++ (encT tRound m.round ++ (encT (.list tRead) m.reads ++ (encT (.list tBase) m.base ++ (encT (.list tCmd) m.state)))))):=by
   have:m.kind.toNat=1:=by omega
   rw [encM,this]; rfl
  rw [hE] at hl ⊢
  simp only [List.length_append] at hl
  have hkt:m.kind.toNat=1:=by omega
  rw [hkt] at v0
  have hcA:=hc0
  simp (implicitDefEqProofs:=false) only [go_sem,hc0,k1]
  refine (wnum_ok m.src o_src v0.1 (by (try simp only [List.length_append,List.length_nil]); omega)).mono ?_
  rintro r X1 ⟨rfl,g1,t1⟩
  have v1:=v0.trans t1
  have hc1:=(Blk.wr hn1' v1 hxb (by simp)).cell
  simp (implicitDefEqProofs:=false) only [go_sem,hc1,k1]
  refine (wnum_ok m.dst o_dst v1.1 (by (try simp only [List.length_append,List.length_nil]); omega)).mono ?_
  rintro r X2 ⟨rfl,g2,t2⟩
  have v2:=v1.trans t2
  have hc2:=(Blk.wr hn1' v2 hxb (by simp)).cell
  simp (implicitDefEqProofs:=false) only [go_sem,hc2,k1]
  refine (wround_ok.2 m.round o_round v2.1 (Rep.wr h_round2 v2) (by (try simp only [List.length_append,List.length_nil]); omega)).mono ?_
  rintro r X3 ⟨rfl,g3,t3⟩
  have v3:=v2.trans t3
  have hc3:=(Blk.wr hn1' v3 hxb (by simp)).cell
  simp (implicitDefEqProofs:=false) only [go_sem,hc3,k1]
  refine (listReadID_ok rfl (fun _=>rfl) wread_ok m.reads o_reads v3.1 (Rep.wr h_reads2 v3) (by (try simp only [List.length_append,List.length_nil]); omega)).mono ?_
  rintro r X4 ⟨rfl,g4,t4⟩
  have v4:=v3.trans t4
  have hc4:=(Blk.wr hn1' v4 hxb (by simp)).cell
  simp (implicitDefEqProofs:=false) only [go_sem,hc4,k1]
  refine (listBase_ok rfl (fun _=>rfl) wbase_ok m.base o_base v4.1 (Rep.wr h_base2 v4) (by (try simp only [List.length_append,List.length_nil]); omega)).mono ?_
  rintro r X5 ⟨rfl,g5,t5⟩
  have v5:=v4.trans t5
  have hc5:=(Blk.wr hn1' v5 hxb (by simp)).cell
  simp (implicitDefEqProofs:=false) only [go_sem,hc5,k1]
  refine (listCommand_ok rfl (fun _=>rfl) wcommand_ok m.state o_state v5.1 (Rep.wr h_state2 v5) (by (try simp only [List.length_append,List.length_nil]); omega)).mono ?_
  rintro r X6 ⟨rfl,g6,t6⟩
  have v6:=v5.trans t6
  have hc6:=(Blk.wr hn1' v6 hxb (by simp)).cell
  simp (implicitDefEqProofs:=false) only [go_sem,hc6]
  refine (data_ok v6.1 (by simp only [List.length_append,List.length_nil]; omega)).mono ?_
  rintro v Y ⟨a,c,gd,rfl,ho,hg,hfd⟩
  simp (implicitDefEqProofs:=false) only [go_sem]
  simp only [List.nil_append] at ho
  have hv:enc 1 ++ encT .num m.src ++ encT .num m.dst ++ encT tRound m.round ++ encT (.list tRead) m.reads ++ encT (.list tBase) m.base ++ encT (.list tCmd) m.state=enc 1 ++ (encT .num m.src ++ (encT .num m.dst ++ (encT tRound m.round ++ (encT (.list tRead) m.reads ++ (encT (.list tBase) m.base ++ (encT (.list tCmd) m.state)))))):=by simp
  rw [hv] at ho ⊢
  have hw:=v6.2.1
  refine Out.of rfl rfl ho (fun k hk=>Nat.le_trans (Nat.le_trans hf12.size hw.size) (hg k hk)) ?_
  exact (hf12.trans' hw (by simp; omega)).trans hfd
 by_cases k2:m.kind=2
 ·have hE:encM m=enc 2 ++ (encT .num m.src ++ (encT .num m.dst ++ (encT tRound m.round ++ (encT (.list tCmd) m.state ++ (encT (.list tBase) m.base ++ (encT (.list tAck) m.acks)))))):=by
   have:m.kind.toNat=2:=by omega
   rw [encM,this]; rfl
  rw [hE] at hl ⊢
  simp only [List.length_append] at hl
  have hkt:m.kind.toNat=2:=by omega
  rw [hkt] at v0
  have hcA:=hc0
  simp (implicitDefEqProofs:=false) only [go_sem,hc0,k2]
  refine (wnum_ok m.src o_src v0.1 (by (try simp only [List.length_append,List.length_nil]); omega)).mono ?_
  rintro r X1 ⟨rfl,g1,t1⟩
  have v1:=v0.trans t1
  have hc1:=(Blk.wr hn1' v1 hxb (by simp)).cell
  simp (implicitDefEqProofs:=false) only [go_sem,hc1,k2]
  refine (wnum_ok m.dst o_dst v1.1 (by (try simp only [List.length_append,List.length_nil]); omega)).mono ?_
  rintro r X2 ⟨rfl,g2,t2⟩
  have v2:=v1.trans t2
  have hc2:=(Blk.wr hn1' v2 hxb (by simp)).cell
  simp (implicitDefEqProofs:=false) only [go_sem,hc2,k2]
  refine (wround_ok.2 m.round o_round v2.1 (Rep.wr h_round2 v2) (by (try simp only [List.length_append,List.length_nil]); omega)).mono ?_
  rintro r X3 ⟨rfl,g3,t3⟩
  have v3:=v2.trans t3
  have hc3:=(Blk.wr hn1' v3 hxb (by simp)).cell
  simp (implicitDefEqProofs:=false) only [go_sem,hc3,k2]
  refine (listCommand_ok rfl (fun _=>rfl) wcommand_ok m.state o_state v3.1 (Rep.wr h_state2 v3) (by (try simp only [List.length_append,List.length_nil]); omega)).mono ?_
  rintro r X4 ⟨rfl,g4,t4⟩
  have v4:=v3.trans t4
  have hc4:=(Blk.wr hn1' v4 hxb (by simp)).cell
  simp (implicitDefEqProofs:=false) only [go_sem,hc4,k2]
  refine (listBase_ok rfl (fun _=>rfl) wbase_ok m.base o_base v4.1 (Rep.wr h_base2 v4) (by (try simp only [List.length_append,List.length_nil]); omega)).mono ?_
  rintro r X5 ⟨rfl,g5,t5⟩
  have v5:=v4.trans t5
  have hc5:=(Blk.wr hn1' v5 hxb (by simp)).cell
  simp (implicitDefEqProofs:=false) only [go_sem,hc5,k2]
  refine (listAck_ok rfl (fun _=>rfl) wack_ok m.acks o_acks v5.1 (Rep.wr h_acks2 v5) (by (try simp only [List.length_append,List.length_nil]); omega)).mono ?_
  rintro r X6 ⟨rfl,g6,t6⟩
  have v6:=v5.trans t6
  have hc6:=(Blk.wr hn1' v6 hxb (by simp)).cell
  simp (implicitDefEqProofs:=false) only [go_sem,hc6]
  refine (data_ok v6.1 (by simp only [List.length_append,List.length_nil]; omega)).mono ?_
  rintro v Y ⟨a,c,gd,rfl,ho,hg,hfd⟩
  simp (implicitDefEqProofs:=false) only [go_sem]
  simp only [List.nil_append] at ho
  have hv:enc 2 ++ encT .num m.src ++ encT .num m.dst ++ encT tRound m.round ++ encT (.list tCmd) m.state ++ encT (.list tBase) m.base ++ encT (.list tAck) m.acks=enc 2 ++ (encT .num m.src ++ (encT .num m.dst ++ (encT tRound m.round ++ (encT (.list tCmd) m.state ++ (encT (.list tBase) m.base ++ (encT (.list tAck) m.acks)))))):=by simp
  rw [hv] at ho ⊢
  have hw:=v6.2.1
  refine Out.of rfl rfl ho (fun k hk=>Nat.le_trans (Nat.le_trans hf12.size hw.size) (hg k hk)) ?_
  exact (hf12.trans' hw (by simp; omega)).trans hfd
 by_cases k3:m.kind=3
 ·have hE:encM m=enc 3 ++ (encT .num m.src ++ (encT .num m.dst ++ (encT (.list tProof) m.proof ++ (encT (.list tCmd) m.state)))):=by
   have:m.kind.toNat=3:=by omega
   rw [encM,this]; rfl
  rw [hE] at hl ⊢
  simp only [List.length_append] at hl
  have hkt:m.kind.toNat=3:=by omega
  rw [hkt] at v0
  have hcA:=hc0
  simp (implicitDefEqProofs:=false) only [go_sem,hc0,k3]
  refine (wnum_ok m.src o_src v0.1 (by (try simp only [List.length_append,List.length_nil]); omega)).mono ?_
  rintro r X1 ⟨rfl,g1,t1⟩
  have v1:=v0.trans t1
  have hc1:=(Blk.wr hn1' v1 hxb (by simp)).cell
  simp (implicitDefEqProofs:=false) only [go_sem,hc1,k3]
  refine (wnum_ok m.dst o_dst v1.1 (by (try simp only [List.length_append,List.length_nil]); omega)).mono ?_
  rintro r X2 ⟨rfl,g2,t2⟩
  have v2:=v1.trans t2
  have hc2:=(Blk.wr hn1' v2 hxb (by simp)).cell
  simp (implicitDefEqProofs:=false) only [go_sem,hc2,k3]
  refine (listProof_ok rfl (fun _=>rfl) wproof_ok m.proof o_proof v2.1 (Rep.wr h_proof2 v2) (by (try simp only [List.length_append,List.length_nil]); omega)).mono ?_
  rintro r X3 ⟨rfl,g3,t3⟩
  have v3:=v2.trans t3
  have hc3:=(Blk.wr hn1' v3 hxb (by simp)).cell
  simp (implicitDefEqProofs:=false) only [go_sem,hc3,k3]
  refine (listCommand_ok rfl (fun _=>rfl) wcommand_ok m.state o_state v3.1 (Rep.wr h_state2 v3) (by (try simp only [List.length_append,List.length_nil]); omega)).mono ?_
  rintro r X4 ⟨rfl,g4,t4⟩
  have v4:=v3.trans t4
  have hc4:=(Blk.wr hn1' v4 hxb (by simp)).cell
  simp (implicitDefEqProofs:=false) only [go_sem,hc4]
  refine (data_ok v4.1 (by simp only [List.length_append,List.length_nil]; omega)).mono ?_
  rintro v Y ⟨a,c,gd,rfl,ho,hg,hfd⟩
  simp (implicitDefEqProofs:=false) only [go_sem]
  simp only [List.nil_append] at ho
  have hv:enc 3 ++ encT .num m.src ++ encT .num m.dst ++ encT (.list tProof) m.proof ++ encT (.list tCmd) m.state=enc 3 ++ (encT .num m.src ++ (encT .num m.dst ++ (encT (.list tProof) m.proof ++ (encT (.list tCmd) m.state)))):=by simp
  rw [hv] at ho ⊢
  have hw:=v4.2.1
  refine Out.of rfl rfl ho (fun k hk=>Nat.le_trans (Nat.le_trans hf12.size hw.size) (hg k hk)) ?_
  exact (hf12.trans' hw (by simp; omega)).trans hfd
 by_cases k4:m.kind=4
 ·have hE:encM m=enc 4 ++ (encT .num m.src ++ (encT .num m.dst ++ encT (.list tDigest) m.digests)):=by
   have:m.kind.toNat=4:=by omega
   rw [encM,this]; rfl
  rw [hE] at hl ⊢
  simp only [List.length_append] at hl
  have hkt:m.kind.toNat=4:=by omega
  rw [hkt] at v0
  have hcA:=hc0
  simp (implicitDefEqProofs:=false) only [go_sem,hc0,k4]
  refine (wnum_ok m.src o_src v0.1 (by (try simp only [List.length_append,List.length_nil]); omega)).mono ?_
  rintro r X1 ⟨rfl,g1,t1⟩
  have v1:=v0.trans t1
  have hc1:=(Blk.wr hn1' v1 hxb (by simp)).cell
  simp (implicitDefEqProofs:=false) only [go_sem,hc1,k4]
  refine (wnum_ok m.dst o_dst v1.1 (by (try simp only [List.length_append,List.length_nil]); omega)).mono ?_
  rintro r X2 ⟨rfl,g2,t2⟩
  have v2:=v1.trans t2
  have hc2:=(Blk.wr hn1' v2 hxb (by simp)).cell
  simp (implicitDefEqProofs:=false) only [go_sem,hc2,k4]
  refine (listDigest_ok rfl (fun _=>rfl) wdigest_ok m.digests o_digests v2.1 (Rep.wr h_digests2 v2) (by (try simp only [List.length_append,List.length_nil]); omega)).mono ?_
  rintro r X3 ⟨rfl,g3,t3⟩
  have v3:=v2.trans t3
  have hc3:=(Blk.wr hn1' v3 hxb (by simp)).cell
  simp (implicitDefEqProofs:=false) only [go_sem,hc3]
  refine (data_ok v3.1 (by simp only [List.length_append,List.length_nil]; omega)).mono ?_
  rintro v Y ⟨a,c,gd,rfl,ho,hg,hfd⟩
  simp (implicitDefEqProofs:=false) only [go_sem]
  simp only [List.nil_append] at ho
  have hv:enc 4 ++ encT .num m.src ++ encT .num m.dst ++ encT (.list tDigest) m.digests=enc 4 ++ (encT .num m.src ++ (encT .num m.dst ++ encT (.list tDigest) m.digests)):=by simp
  rw [hv] at ho ⊢
  have hw:=v3.2.1
  refine Out.of rfl rfl ho (fun k hk=>Nat.le_trans (Nat.le_trans hf12.size hw.size) (hg k hk)) ?_
  exact (hf12.trans' hw (by simp; omega)).trans hfd
 by_cases k5:m.kind=5
 ·have hE:encM m=enc 5 ++ (encT .num m.src ++ (encT .num m.dst ++ encT (.list tCmd) m.state)):=by
   have:m.kind.toNat=5:=by omega
   rw [encM,this]; rfl
  rw [hE] at hl ⊢
  simp only [List.length_append] at hl
  have hkt:m.kind.toNat=5:=by omega
  rw [hkt] at v0
  have hcA:=hc0
  simp (implicitDefEqProofs:=false) only [go_sem,hc0,k5]
  refine (wnum_ok m.src o_src v0.1 (by (try simp only [List.length_append,List.length_nil]); omega)).mono ?_
  rintro r X1 ⟨rfl,g1,t1⟩
  have v1:=v0.trans t1
  have hc1:=(Blk.wr hn1' v1 hxb (by simp)).cell
  simp (implicitDefEqProofs:=false) only [go_sem,hc1,k5]
  refine (wnum_ok m.dst o_dst v1.1 (by (try simp only [List.length_append,List.length_nil]); omega)).mono ?_
  rintro r X2 ⟨rfl,g2,t2⟩
  have v2:=v1.trans t2
  have hc2:=(Blk.wr hn1' v2 hxb (by simp)).cell
  simp (implicitDefEqProofs:=false) only [go_sem,hc2,k5]
  refine (listCommand_ok rfl (fun _=>rfl) wcommand_ok m.state o_state v2.1 (Rep.wr h_state2 v2) (by (try simp only [List.length_append,List.length_nil]); omega)).mono ?_
  rintro r X3 ⟨rfl,g3,t3⟩
  have v3:=v2.trans t3
  have hc3:=(Blk.wr hn1' v3 hxb (by simp)).cell
  simp (implicitDefEqProofs:=false) only [go_sem,hc3]
  refine (data_ok v3.1 (by simp only [List.length_append,List.length_nil]; omega)).mono ?_
  rintro v Y ⟨a,c,gd,rfl,ho,hg,hfd⟩
  simp (implicitDefEqProofs:=false) only [go_sem]
  simp only [List.nil_append] at ho
  have hv:enc 5 ++ encT .num m.src ++ encT .num m.dst ++ encT (.list tCmd) m.state=enc 5 ++ (encT .num m.src ++ (encT .num m.dst ++ encT (.list tCmd) m.state)):=by simp
  rw [hv] at ho ⊢
  have hw:=v3.2.1
  refine Out.of rfl rfl ho (fun k hk=>Nat.le_trans (Nat.le_trans hf12.size hw.size) (hg k hk)) ?_
  exact (hf12.trans' hw (by simp; omega)).trans hfd
 by_cases k6:m.kind=6
 ·have hE:encM m=enc 6 ++ (encT .num m.src ++ (encT .num m.dst ++ encT (.list tCmd) m.state)):=by
   have:m.kind.toNat=6:=by omega
   rw [encM,this]; rfl
  rw [hE] at hl ⊢
  simp only [List.length_append] at hl
  have hkt:m.kind.toNat=6:=by omega
  rw [hkt] at v0
  have hcA:=hc0
  simp (implicitDefEqProofs:=false) only [go_sem,hc0,k6]
  refine (wnum_ok m.src o_src v0.1 (by (try simp only [List.length_append,List.length_nil]); omega)).mono ?_
  rintro r X1 ⟨rfl,g1,t1⟩
  have v1:=v0.trans t1
  have hc1:=(Blk.wr hn1' v1 hxb (by simp)).cell
  simp (implicitDefEqProofs:=false) only [go_sem,hc1,k6]
  refine (wnum_ok m.dst o_dst v1.1 (by (try simp only [List.length_append,List.length_nil]); omega)).mono ?_
  rintro r X2 ⟨rfl,g2,t2⟩
  have v2:=v1.trans t2
  have hc2:=(Blk.wr hn1' v2 hxb (by simp)).cell
  simp (implicitDefEqProofs:=false) only [go_sem,hc2,k6]
  refine (listCommand_ok rfl (fun _=>rfl) wcommand_ok m.state o_state v2.1 (Rep.wr h_state2 v2) (by (try simp only [List.length_append,List.length_nil]); omega)).mono ?_
  rintro r X3 ⟨rfl,g3,t3⟩
  have v3:=v2.trans t3
  have hc3:=(Blk.wr hn1' v3 hxb (by simp)).cell
  simp (implicitDefEqProofs:=false) only [go_sem,hc3]
  refine (data_ok v3.1 (by simp only [List.length_append,List.length_nil]; omega)).mono ?_
  rintro v Y ⟨a,c,gd,rfl,ho,hg,hfd⟩
  simp (implicitDefEqProofs:=false) only [go_sem]
  simp only [List.nil_append] at ho
  have hv:enc 6 ++ encT .num m.src ++ encT .num m.dst ++ encT (.list tCmd) m.state=enc 6 ++ (encT .num m.src ++ (encT .num m.dst ++ encT (.list tCmd) m.state)):=by simp
  rw [hv] at ho ⊢
  have hw:=v3.2.1
  refine Out.of rfl rfl ho (fun k hk=>Nat.le_trans (Nat.le_trans hf12.size hw.size) (hg k hk)) ?_
  exact (hf12.trans' hw (by simp; omega)).trans hfd
 by_cases k7:m.kind=7
 ·have hE:encM m=enc 7 ++ (encT .num m.src ++ (encT .num m.dst ++ (encT (.list tRead) m.reads ++ (encT (.list .text) m.objects)))):=by
   have:m.kind.toNat=7:=by omega
   rw [encM,this]; rfl
  rw [hE] at hl ⊢
  simp only [List.length_append] at hl
  have hkt:m.kind.toNat=7:=by omega
  rw [hkt] at v0
  have hcA:=hc0
  simp (implicitDefEqProofs:=false) only [go_sem,hc0,k7]
  refine (wnum_ok m.src o_src v0.1 (by (try simp only [List.length_append,List.length_nil]); omega)).mono ?_
  rintro r X1 ⟨rfl,g1,t1⟩
  have v1:=v0.trans t1
  have hc1:=(Blk.wr hn1' v1 hxb (by simp)).cell
  simp (implicitDefEqProofs:=false) only [go_sem,hc1,k7]
  refine (wnum_ok m.dst o_dst v1.1 (by (try simp only [List.length_append,List.length_nil]); omega)).mono ?_
  rintro r X2 ⟨rfl,g2,t2⟩
  have v2:=v1.trans t2
  have hc2:=(Blk.wr hn1' v2 hxb (by simp)).cell
  simp (implicitDefEqProofs:=false) only [go_sem,hc2,k7]
  refine (listReadID_ok rfl (fun _=>rfl) wread_ok m.reads o_reads v2.1 (Rep.wr h_reads2 v2) (by (try simp only [List.length_append,List.length_nil]); omega)).mono ?_
  rintro r X3 ⟨rfl,g3,t3⟩
  have v3:=v2.trans t3
  have hc3:=(Blk.wr hn1' v3 hxb (by simp)).cell
  simp (implicitDefEqProofs:=false) only [go_sem,hc3,k7]
  refine (listStr_ok rfl (fun _=>rfl) wtext_ok m.objects o_objects v3.1 (Rep.wr h_objects2 v3) (by (try simp only [List.length_append,List.length_nil]); omega)).mono ?_
  rintro r X4 ⟨rfl,g4,t4⟩
  have v4:=v3.trans t4
  have hc4:=(Blk.wr hn1' v4 hxb (by simp)).cell
  simp (implicitDefEqProofs:=false) only [go_sem,hc4]
  refine (data_ok v4.1 (by simp only [List.length_append,List.length_nil]; omega)).mono ?_
  rintro v Y ⟨a,c,gd,rfl,ho,hg,hfd⟩
  simp (implicitDefEqProofs:=false) only [go_sem]
  simp only [List.nil_append] at ho
  have hv:enc 7 ++ encT .num m.src ++ encT .num m.dst ++ encT (.list tRead) m.reads ++ encT (.list .text) m.objects=enc 7 ++ (encT .num m.src ++ (encT .num m.dst ++ (encT (.list tRead) m.reads ++ (encT (.list .text) m.objects)))):=by simp
  rw [hv] at ho ⊢
  have hw:=v4.2.1
  refine Out.of rfl rfl ho (fun k hk=>Nat.le_trans (Nat.le_trans hf12.size hw.size) (hg k hk)) ?_
  exact (hf12.trans' hw (by simp; omega)).trans hfd
 by_cases k8:m.kind=8
 ·have hE:encM m=enc 8 ++ (encT .num m.src ++ (encT .num m.dst ++ (encT (.list tProof) m.proof ++ (encT (.list tRead) m.reads ++ (encT .num m.seq ++ (encT (.list tItem) m.items)))))):=by
   have:m.kind.toNat=8:=by omega
   rw [encM,this]; rfl
  rw [hE] at hl ⊢
  simp only [List.length_append] at hl
  have hkt:m.kind.toNat=8:=by omega
  rw [hkt] at v0
  have hcA:=hc0
  simp (implicitDefEqProofs:=false) only [go_sem,hc0,k8]
  refine (wnum_ok m.src o_src v0.1 (by (try simp only [List.length_append,List.length_nil]); omega)).mono ?_
  rintro r X1 ⟨rfl,g1,t1⟩
  have v1:=v0.trans t1
  have hc1:=(Blk.wr hn1' v1 hxb (by simp)).cell
  simp (implicitDefEqProofs:=false) only [go_sem,hc1,k8]
  refine (wnum_ok m.dst o_dst v1.1 (by (try simp only [List.length_append,List.length_nil]); omega)).mono ?_
  rintro r X2 ⟨rfl,g2,t2⟩
  have v2:=v1.trans t2
  have hc2:=(Blk.wr hn1' v2 hxb (by simp)).cell
  simp (implicitDefEqProofs:=false) only [go_sem,hc2,k8]
  refine (listProof_ok rfl (fun _=>rfl) wproof_ok m.proof o_proof v2.1 (Rep.wr h_proof2 v2) (by (try simp only [List.length_append,List.length_nil]); omega)).mono ?_
  rintro r X3 ⟨rfl,g3,t3⟩
  have v3:=v2.trans t3
  have hc3:=(Blk.wr hn1' v3 hxb (by simp)).cell
  simp (implicitDefEqProofs:=false) only [go_sem,hc3,k8]
  refine (listReadID_ok rfl (fun _=>rfl) wread_ok m.reads o_reads v3.1 (Rep.wr h_reads2 v3) (by (try simp only [List.length_append,List.length_nil]); omega)).mono ?_
  rintro r X4 ⟨rfl,g4,t4⟩
  have v4:=v3.trans t4
  have hc4:=(Blk.wr hn1' v4 hxb (by simp)).cell
  simp (implicitDefEqProofs:=false) only [go_sem,hc4,k8]
  refine (wnum_ok m.seq o_seq v4.1 (by (try simp only [List.length_append,List.length_nil]); omega)).mono ?_
  rintro r X5 ⟨rfl,g5,t5⟩
  have v5:=v4.trans t5
  have hc5:=(Blk.wr hn1' v5 hxb (by simp)).cell
  simp (implicitDefEqProofs:=false) only [go_sem,hc5,k8]
  refine (listItem_ok rfl (fun _=>rfl) witem_ok m.items o_items v5.1 (Rep.wr h_items2 v5) (by (try simp only [List.length_append,List.length_nil]); omega)).mono ?_
  rintro r X6 ⟨rfl,g6,t6⟩
  have v6:=v5.trans t6
  have hc6:=(Blk.wr hn1' v6 hxb (by simp)).cell
  simp (implicitDefEqProofs:=false) only [go_sem,hc6]
  refine (data_ok v6.1 (by simp only [List.length_append,List.length_nil]; omega)).mono ?_
  rintro v Y ⟨a,c,gd,rfl,ho,hg,hfd⟩
  simp (implicitDefEqProofs:=false) only [go_sem]
  simp only [List.nil_append] at ho
  have hv:enc 8 ++ encT .num m.src ++ encT .num m.dst ++ encT (.list tProof) m.proof ++ encT (.list tRead) m.reads ++ encT .num m.seq ++ encT (.list tItem) m.items=enc 8 ++ (encT .num m.src ++ (encT .num m.dst ++ (encT (.list tProof) m.proof ++ (encT (.list tRead) m.reads ++ (encT .num m.seq ++ (encT (.list tItem) m.items)))))):=by simp
  rw [hv] at ho ⊢
  have hw:=v6.2.1
  refine Out.of rfl rfl ho (fun k hk=>Nat.le_trans (Nat.le_trans hf12.size hw.size) (hg k hk)) ?_
  exact (hf12.trans' hw (by simp; omega)).trans hfd
 ·omega
def encO (m:Msg):Bs × Int:=if formB m then (sealB (encM m),0) else ([],1)
theorem encode_ok {m:Msg} {H:Heap} {cs:List Value} (h:Rep H [] (datT tMsg m.tup) cs) (hok:okM m) (hl:formB m=true→(encM m).length≤2^24 - 4):HCalls Tryz.prog 18 #[.agg cs.toArray] H fun v H'=>
 ∃ a c g,v= .tuple #[.slice a (encO m).1.length c,.int .i64 (encO m).2]∧Own H' 5 1 (.slice a (encO m).1.length c) (encO m).1.length ((encO m).1.map bv) g∧(∀ k,g=some k→H.size≤k)∧Fr [] H H':=by
 have h':=h
 obtain ⟨a_reads,c_reads,a_base,c_base,a_state,c_state,a_acks,c_acks,a_proof,c_proof,a_digests,c_digests,a_objects,c_objects,a_items,c_items,hcs,h_reads,h_base,h_state,h_acks,h_proof,h_digests,h_objects,h_items⟩:=msg_open h
 refine calls_of_vc (args:=[_]) Tryz.func18 c18ok (Nat.le_of_ble_eq_true rfl) ?_
 simp (implicitDefEqProofs:=false) only [go_sem,c18,hcs]
 refine NewP_intro fun H1 hn1 hf1 hs1=>?_
 have hc:=hn1.cell
 simp (implicitDefEqProofs:=false) only [go_sem,hc]
 rw [← hcs]
 refine (formed_ok (Rep.ext h' hf1)).mono ?_
 rintro v H2 ⟨rfl,hf2⟩
 have hf12:=hf1.trans hf2
 have hc2:=(hn1.ext hf2).cell
 unfold encO
 cases hform:formB m with
 | false=>
   simp (implicitDefEqProofs:=false) only [go_sem]
   exact ⟨none,0,none,rfl,Own.nil _ _ _,by simp,hf12⟩
 | true=>
   have hl1:=hl hform
   simp (implicitDefEqProofs:=false) only [go_sem,hc2]
   rw [← hcs]
   refine (payload_ok (Rep.ext h' hf12) hok hform (by omega)).mono ?_
   rintro v H3 ⟨a3,c3,g3,rfl,ho3,hg3,hf3⟩
   have hlen:IntKind.i64.wrap (((encM m).length:Int) + 4)=(((encM m).length + 4:Nat):Int):=by rw [wrap_i64_id _ (by omega) (by omega)]; omega
   have hle:¬ (16777216:Int) < (((encM m).length + 4:Nat):Int):=by omega
   simp (implicitDefEqProofs:=false) only [go_sem,hlen,hle]
   refine (sum_ok ho3.bsR (by omega)).mono ?_
   rintro v H4 ⟨rfl,rfl⟩
   simp (implicitDefEqProofs:=false) only [go_sem,wv]
   refine NewS_intro fun H5 hn5 hf5 hs5=>?_
   rw [le4_vals] at hn5
   simp (implicitDefEqProofs:=false) only [go_sem]
   refine App_own EB (ho3.fr hf5 (by simp)) (SrcH.blk Tryz.underlying22 hn5 (by simp [le4_len]) (by intro u hu; simp only [List.mem_map] at hu; obtain ⟨b,_,rfl⟩:=hu; rfl)) (by unfold maxLen; omega) (by omega) fun a6 c6 H6 g6 ho6 hf6 hg6=>?_
   obtain ⟨hfr6,hgr6⟩:=app_fr (hf12.trans hf3) (fun k hk=>Nat.le_trans hf12.size (hg3 k hk)) hf5 hf6 hg6
   simp (implicitDefEqProofs:=false) only [go_sem]
   have e1:(sealB (encM m)).length=(encM m).length + 4:=sealB_len _
   have e2:(sealB (encM m)).map bv=(encM m).map bv ++ (le4 (crc (encM m))).map bv:=by simp [sealB]
   rw [e1,e2]
   exact ⟨a6,c6,g6,rfl,ho6,hgr6,hfr6⟩
theorem check'_ok {m:Msg} {H:Heap} {cs:List Value} (h:Rep H [] (datT tMsg m.tup) cs) (hok:okM m) (hl:formB m=true→(encM m).length≤2^24 - 4):HCalls Tryz.prog 16 #[.agg cs.toArray] H fun v H'=>
 v= .int .i64 (encO m).2∧Fr [] H H':=by
 have h':=h
 obtain ⟨a_reads,c_reads,a_base,c_base,a_state,c_state,a_acks,c_acks,a_proof,c_proof,a_digests,c_digests,a_objects,c_objects,a_items,c_items,hcs,h_reads,h_base,h_state,h_acks,h_proof,h_digests,h_objects,h_items⟩:=msg_open h
 refine calls_of_vc (args:=[_]) Tryz.func16 c16ok (Nat.le_of_ble_eq_true rfl) ?_
 simp (implicitDefEqProofs:=false) only [go_sem,c16,hcs]
 refine NewP_intro fun H1 hn1 hf1 hs1=>?_
 have hc:=hn1.cell
 simp (implicitDefEqProofs:=false) only [go_sem,hc]
 rw [← hcs]
 refine (encode_ok (Rep.ext h' hf1) hok hl).mono ?_
 rintro v H2 ⟨a,c,g,rfl,_,_,hf2⟩
 simp (implicitDefEqProofs:=false) only [go_sem]
 exact hf1.trans hf2
end Go.Proofs.YtdhlibkdcldioaaGreat
end
section
set_option linter.unusedSimpArgs false
set_option linter.unusedVariables false
set_option maxRecDepth 8000
namespace Go.Proofs.YtdhlibkdcldioaaGreat
open Gx Go
noncomputable def eqB {α:Type} (a b:α):Bool:=@decide (a=b) (Classical.propDecidable _)
theorem eqB_true {α:Type} {a b:α} (h:a=b):eqB a b=true:=by simp [eqB,h]
theorem eqB_false {α:Type} {a b:α} (h:a≠b):eqB a b=false:=by simp [eqB,h]
def SOk (f:Nat) (t:Ty):Prop:=hasBody Tryz.prog f=true∧∀ (d d':den t) {H:Heap} {cs cs':List Value},Rep H [] (datT t d) cs→Rep H [] (datT t d') cs'→
 HCalls Tryz.prog f #[argOf t cs,argOf t cs'] H fun v H'=>v= .bool (eqB d d')∧Fr [] H H'
theorem take_ne {α:Type} {l l':List α} {i:Nat} (h:i < l.length) (h':i < l'.length) (hne:l[i]≠l'[i]):l≠l':=by
 rintro rfl; exact hne rfl
theorem take_eq_succ {α:Type} {l l':List α} {i:Nat} (h:i < l.length) (h':i < l'.length) (ht:l.take i=l'.take i) (he:l[i]=l'[i]):l.take (i + 1)=l'.take (i + 1):=by
 rw [List.take_succ_eq_append_getElem h,List.take_succ_eq_append_getElem h',ht,he]
theorem eqb_ok (l l':Bs) {H:Heap} {a a':Option Addr} {c c':Nat} (h:BsR H a l) (h':BsR H a' l') (hl:l.length < 2^63):HCalls Tryz.prog 109 #[.slice a l.length c,.slice a' l'.length c'] H fun v H'=>v= .bool (eqB l l')∧Fr [] H H':=by
 refine calls_of_vc (args:=[_,_]) Tryz.func109 c109ok (Nat.le_of_ble_eq_true rfl) ?_
 by_cases hn:l.length=l'.length
 ·have hn':(l.length:Int)=(l'.length:Int):=by omega
  simp (implicitDefEqProofs:=false) only [go_sem,c109,hn']
  refine vc_loop (fun (i:Nat) H'=>i≤l.length∧l.take i=l'.take i∧H'=H)
   (fun i=>[(0,.slice a l.length c),(1,.slice a' l'.length c'),(12,.int .i64 l'.length),(13,.int .i64 i)]) (fun i=>l.length - i) 0 ?_ ?_ ?_
  ·exact ⟨Nat.zero_le _,by simp,rfl⟩
  ·simp (implicitDefEqProofs:=false) only [go_sem]
  ·rintro i H' ⟨hi,ht,rfl⟩
   rcases Nat.lt_or_ge i l.length with hlt | hge
   ·have hlt2:i < l'.length:=by omega
    have hl1:(i:Int) < (l.length:Int):=by omega
    have hl2:(i:Int) < (l'.length:Int):=by omega
    have h0:(0:Int)≤(i:Int):=by omega
    have hw1:=succ_i64 i l.length hlt hl
    obtain ⟨b,o,rfl,hc⟩:∃ b o,a=some ⟨b,o,none⟩∧cellB H' b (o + i)=some (bv l[i]):=by
     rcases h with h | ⟨b,o,h1,h2⟩
     ·subst h; simp at hlt
     ·exact ⟨b,o,h1,h2 i hlt⟩
    obtain ⟨b',o',rfl,hc'⟩:∃ b o,a'=some ⟨b,o,none⟩∧cellB H' b (o + i)=some (bv l'[i]):=by
     rcases h' with h | ⟨b,o,h1,h2⟩
     ·subst h; simp at hlt2
     ·exact ⟨b,o,h1,h2 i hlt2⟩
    by_cases he:l[i]=l'[i]
    ·have he':(l[i].toNat:Int)=(l'[i].toNat:Int):=by rw [he]
     simp (implicitDefEqProofs:=false) only [go_sem,hl1,hl2,h0,hc,hc',bv,he']
     refine loopK_intro (i + 1) (by show l.length - (i + 1) < l.length - i; omega) ?_ ⟨hlt,take_eq_succ hlt hlt2 ht he,rfl⟩
     simp (implicitDefEqProofs:=false) only [go_sem,hw1]
    ·have he':¬ (l[i].toNat:Int)=(l'[i].toNat:Int):=by
      intro e; exact he (UInt8.toNat_inj.1 (by omega))
     simp (implicitDefEqProofs:=false) only [go_sem,hl1,hl2,h0,hc,hc',bv,he']
     exact ⟨by rw [eqB_false (take_ne hlt hlt2 he)],Fr.refl _ _⟩
   ·have hge':¬ (i:Int) < (l'.length:Int):=by omega
    simp (implicitDefEqProofs:=false) only [go_sem,hge']
    rw [List.take_of_length_le hge,List.take_of_length_le (by omega)] at ht
    exact ⟨by rw [eqB_true ht],Fr.refl _ _⟩
 ·have hn':¬ (l.length:Int)=(l'.length:Int):=by omega
  simp (implicitDefEqProofs:=false) only [go_sem,c109,hn']
  exact ⟨by rw [eqB_false (fun e=>hn (by rw [e]))],Fr.refl _ _⟩
theorem sb_ok:SOk 109 .bytes:=by
 refine ⟨by kernel_rfl,?_⟩
 intro d d' H cs cs' h h'
 obtain ⟨a,c,rfl,h1,h2,h3⟩:=rep_bytes.1 h
 obtain ⟨a',c',rfl,h1',h2',h3'⟩:=rep_bytes.1 h'
 have hm:maxLen < 2^63:=by decide
 exact eqb_ok d d' (csR_bsR.1 h3.csR) (csR_bsR.1 h3'.csR) (by omega)
theorem str_inj {a b:Bs}:((⟨⟨a⟩⟩:ByteArray)=⟨⟨b⟩⟩)=(a=b):=by
 apply propext
 constructor
 ·intro h; injection h with h; injection h
 ·rintro rfl; rfl
theorem eqs_ok (l l':List Bs) {H:Heap} {a a':Option Addr} {c c':Nat} (h:Rep H [] (datT (.list .text) l) [.slice a l.length c]) (h':Rep H [] (datT (.list .text) l') [.slice a' l'.length c']) (hl:l.length < 2^63) :
 HCalls Tryz.prog 59 #[.slice a l.length c,.slice a' l'.length c'] H fun v H'=>v= .bool (eqB l l')∧Fr [] H H':=by
 refine calls_of_vc (args:=[_,_]) Tryz.func59 c59ok (Nat.le_of_ble_eq_true rfl) ?_
 by_cases hn:l.length=l'.length
 ·have hn':(l.length:Int)=(l'.length:Int):=by omega
  simp (implicitDefEqProofs:=false) only [go_sem,c59,hn']
  refine vc_loop (fun (i:Nat) H'=>i≤l.length∧l.take i=l'.take i∧H'=H)
   (fun i=>[(0,.slice a l.length c),(1,.slice a' l'.length c'),(12,.int .i64 l'.length),(13,.int .i64 i)]) (fun i=>l.length - i) 0 ?_ ?_ ?_
  ·exact ⟨Nat.zero_le _,by simp,rfl⟩
  ·simp (implicitDefEqProofs:=false) only [go_sem]
  ·rintro i H' ⟨hi,ht,rfl⟩
   rcases Nat.lt_or_ge i l.length with hlt | hge
   ·have hlt2:i < l'.length:=by omega
    have hl1:(i:Int) < (l.length:Int):=by omega
    have hl2:(i:Int) < (l'.length:Int):=by omega
    have h0:(0:Int)≤(i:Int):=by omega
    have hw1:=succ_i64 i l.length hlt hl
    obtain ⟨b,o,cc,x,e1,_,hxl,hc,hx⟩:=rep_at h i hlt
    cases e1
    obtain ⟨b',o',cc',x',e1',_,hxl',hc',hx'⟩:=rep_at h' i hlt2
    cases e1'
    have:=rep_text hx; subst this
    have:=rep_text hx'; subst this
    have p:=hc 0 (by decide)
    have p':=hc' 0 (by decide)
    simp only [wid,Nat.mul_one,Nat.add_zero,List.getElem?_cons_zero] at p p'
    by_cases he:l[i]=l'[i]
    ·rw [he] at p
     simp (implicitDefEqProofs:=false) only [go_sem,hl1,hl2,h0,p,p',str_inj]
     refine loopK_intro (i + 1) (by show l.length - (i + 1) < l.length - i; omega) ?_ ⟨hlt,take_eq_succ hlt hlt2 ht he,rfl⟩
     simp (implicitDefEqProofs:=false) only [go_sem,hw1]
    ·simp (implicitDefEqProofs:=false) only [go_sem,hl1,hl2,h0,p,p',str_inj,he]
     exact ⟨by rw [eqB_false (take_ne hlt hlt2 he)],Fr.refl _ _⟩
   ·have hge':¬ (i:Int) < (l'.length:Int):=by omega
    simp (implicitDefEqProofs:=false) only [go_sem,hge']
    rw [List.take_of_length_le hge,List.take_of_length_le (by omega)] at ht
    exact ⟨by rw [eqB_true ht],Fr.refl _ _⟩
 ·have hn':¬ (l.length:Int)=(l'.length:Int):=by omega
  simp (implicitDefEqProofs:=false) only [go_sem,c59,hn']
  exact ⟨by rw [eqB_false (fun e=>hn (by rw [e]))],Fr.refl _ _⟩
set_option maxHeartbeats 1000000 in
theorem eqfReadID_ok {f:Nat} {t:Ty} (hw:wid t=3) (hp:∀ cs,argOf t cs= .agg cs.toArray) (hf:SOk f t) (l l':List (den t)) {H:Heap} {a a':Option Addr} {c c':Nat} (h:Rep H [] (datT (.list t) l) [.slice a l.length c]) (h':Rep H [] (datT (.list t) l') [.slice a' l'.length c']) (hl:l.length < 2^63) :
 HCalls Tryz.prog 47 #[.slice a l.length c,.slice a' l'.length c',.func (.func f) #[] #[]] H fun v H'=>v= .bool (eqB l l')∧Fr [] H H':=by
 refine calls_of_vc (args:=[_,_,_]) Tryz.func47 c47ok (Nat.le_of_ble_eq_true rfl) ?_
 by_cases hn:l.length=l'.length
 ·have hn':(l.length:Int)=(l'.length:Int):=by omega
  simp (implicitDefEqProofs:=false) only [go_sem,c47,hn']
  refine vc_loop (fun (i:Nat) H'=>i≤l.length∧l.take i=l'.take i∧Fr [] H H')
   (fun i=>[(1,.slice a' l'.length c'),(2,.func (.func f) #[] #[]),(15,.slice a l.length c),(16,.int .i64 l'.length),(17,.int .i64 i)]) (fun i=>l.length - i) 0 ?_ ?_ ?_
  ·exact ⟨Nat.zero_le _,by simp,Fr.refl _ _⟩
  ·simp (implicitDefEqProofs:=false) only [go_sem]
  ·rintro i H' ⟨hi,ht,hfr⟩
   rcases Nat.lt_or_ge i l.length with hlt | hge
   ·have hlt2:i < l'.length:=by omega
    have hl1:(i:Int) < (l.length:Int):=by omega
    have hl2:(i:Int) < (l'.length:Int):=by omega
    have h0:(0:Int)≤(i:Int):=by omega
    have hw1:=succ_i64 i l.length hlt hl
    obtain ⟨b,o,cc,x,e1,_,hxl,hc,hx⟩:=rep_at (Rep.ext h hfr) i hlt
    cases e1
    obtain ⟨b',o',cc',x',e1',_,hxl',hc',hx'⟩:=rep_at (Rep.ext h' hfr) i hlt2
    cases e1'
    rw [hw] at hxl hc hxl' hc'
    obtain ⟨x0,x1,x2,rfl⟩:=len3 hxl
    obtain ⟨y0,y1,y2,rfl⟩:=len3 hxl'
    have p0:=hc 0 (by omega)
    have q0:=hc' 0 (by omega)
    have p1:=hc 1 (by omega)
    have q1:=hc' 1 (by omega)
    have p2:=hc 2 (by omega)
    have q2:=hc' 2 (by omega)
    simp only [Nat.add_zero,List.getElem?_cons_zero,List.getElem?_cons_succ,Nat.mul_one] at p0 q0 p1 q1 p2 q2
    simp (implicitDefEqProofs:=false) only [go_sem,hl1,hl2,h0,p0,p1,p2]
    refine NewP_intro fun A hA hfA hsA=>?_
    simp (implicitDefEqProofs:=false) only [go_sem]
    refine Sto_all hA rfl (rep_one hx) fun A2 hA2 hfA2 hsA2=>?_
    have hfn:=new_fr hfA hfA2
    replace q0:=cellB_fr q0 hfn (by simp)
    replace q1:=cellB_fr q1 hfn (by simp)
    replace q2:=cellB_fr q2 hfn (by simp)
    simp (implicitDefEqProofs:=false) only [go_sem,hl2,h0,q0,q1,q2]
    refine NewP_intro fun B hB hfB hsB=>?_
    simp (implicitDefEqProofs:=false) only [go_sem]
    refine Sto_all hB rfl (rep_one hx') fun B2 hB2 hfB2 hsB2=>?_
    have hfn2:=hfn.trans (new_fr hfB hfB2)
    have hcA:=((hA2.ext hfB).fr hfB2 (by have:=hA2.lt; simp; omega)).cell
    have hcB:=hB2.cell
    simp (implicitDefEqProofs:=false) only [go_sem,hcA,hcB]
    have hcall:=hf.2 l[i] l'[i] (Rep.ext hx hfn2) (Rep.ext hx' hfn2)
    rw [hp,hp] at hcall
    refine ⟨hf.1,hcall.mono ?_⟩
    rintro v K ⟨rfl,hfK⟩
    by_cases he:l[i]=l'[i]
    ·have he':eqB l[i] l'[i]=true:=eqB_true he
     simp (implicitDefEqProofs:=false) only [go_sem,he']
     refine loopK_intro (i + 1) (by show l.length - (i + 1) < l.length - i; omega) ?_ ⟨hlt,take_eq_succ hlt hlt2 ht he,hfr.trans (hfn2.trans hfK)⟩
     simp (implicitDefEqProofs:=false) only [go_sem,hw1]
    ·have he':eqB l[i] l'[i]=false:=eqB_false he
     simp (implicitDefEqProofs:=false) only [go_sem,he']
     exact ⟨by rw [eqB_false (take_ne hlt hlt2 he)],hfr.trans (hfn2.trans hfK)⟩
   ·have hge':¬ (i:Int) < (l'.length:Int):=by omega
    simp (implicitDefEqProofs:=false) only [go_sem,hge']
    rw [List.take_of_length_le hge,List.take_of_length_le (by omega)] at ht
    exact ⟨by rw [eqB_true ht],hfr⟩
 ·have hn':¬ (l.length:Int)=(l'.length:Int):=by omega
  simp (implicitDefEqProofs:=false) only [go_sem,c47,hn']
  exact ⟨by rw [eqB_false (fun e=>hn (by rw [e]))],Fr.refl _ _⟩
set_option maxHeartbeats 1000000 in
theorem eqfBase_ok {f:Nat} {t:Ty} (hw:wid t=2) (hp:∀ cs,argOf t cs= .agg cs.toArray) (hf:SOk f t) (l l':List (den t)) {H:Heap} {a a':Option Addr} {c c':Nat} (h:Rep H [] (datT (.list t) l) [.slice a l.length c]) (h':Rep H [] (datT (.list t) l') [.slice a' l'.length c']) (hl:l.length < 2^63) :
 HCalls Tryz.prog 49 #[.slice a l.length c,.slice a' l'.length c',.func (.func f) #[] #[]] H fun v H'=>v= .bool (eqB l l')∧Fr [] H H':=by
 refine calls_of_vc (args:=[_,_,_]) Tryz.func49 c49ok (Nat.le_of_ble_eq_true rfl) ?_
 by_cases hn:l.length=l'.length
 ·have hn':(l.length:Int)=(l'.length:Int):=by omega
  simp (implicitDefEqProofs:=false) only [go_sem,c49,hn']
  refine vc_loop (fun (i:Nat) H'=>i≤l.length∧l.take i=l'.take i∧Fr [] H H')
   (fun i=>[(1,.slice a' l'.length c'),(2,.func (.func f) #[] #[]),(15,.slice a l.length c),(16,.int .i64 l'.length),(17,.int .i64 i)]) (fun i=>l.length - i) 0 ?_ ?_ ?_
  ·exact ⟨Nat.zero_le _,by simp,Fr.refl _ _⟩
  ·simp (implicitDefEqProofs:=false) only [go_sem]
  ·rintro i H' ⟨hi,ht,hfr⟩
   rcases Nat.lt_or_ge i l.length with hlt | hge
   ·have hlt2:i < l'.length:=by omega
    have hl1:(i:Int) < (l.length:Int):=by omega
    have hl2:(i:Int) < (l'.length:Int):=by omega
    have h0:(0:Int)≤(i:Int):=by omega
    have hw1:=succ_i64 i l.length hlt hl
    obtain ⟨b,o,cc,x,e1,_,hxl,hc,hx⟩:=rep_at (Rep.ext h hfr) i hlt
    cases e1
    obtain ⟨b',o',cc',x',e1',_,hxl',hc',hx'⟩:=rep_at (Rep.ext h' hfr) i hlt2
    cases e1'
    rw [hw] at hxl hc hxl' hc'
    obtain ⟨x0,x1,rfl⟩:=len2 hxl
    obtain ⟨y0,y1,rfl⟩:=len2 hxl'
    have p0:=hc 0 (by omega)
    have q0:=hc' 0 (by omega)
    have p1:=hc 1 (by omega)
    have q1:=hc' 1 (by omega)
    simp only [Nat.add_zero,List.getElem?_cons_zero,List.getElem?_cons_succ,Nat.mul_one] at p0 q0 p1 q1
    simp (implicitDefEqProofs:=false) only [go_sem,hl1,hl2,h0,p0,p1]
    refine NewP_intro fun A hA hfA hsA=>?_
    simp (implicitDefEqProofs:=false) only [go_sem]
    refine Sto_all hA rfl (rep_one hx) fun A2 hA2 hfA2 hsA2=>?_
    have hfn:=new_fr hfA hfA2
    replace q0:=cellB_fr q0 hfn (by simp)
    replace q1:=cellB_fr q1 hfn (by simp)
    simp (implicitDefEqProofs:=false) only [go_sem,hl2,h0,q0,q1]
    refine NewP_intro fun B hB hfB hsB=>?_
    simp (implicitDefEqProofs:=false) only [go_sem]
    refine Sto_all hB rfl (rep_one hx') fun B2 hB2 hfB2 hsB2=>?_
    have hfn2:=hfn.trans (new_fr hfB hfB2)
    have hcA:=((hA2.ext hfB).fr hfB2 (by have:=hA2.lt; simp; omega)).cell
    have hcB:=hB2.cell
    simp (implicitDefEqProofs:=false) only [go_sem,hcA,hcB]
    have hcall:=hf.2 l[i] l'[i] (Rep.ext hx hfn2) (Rep.ext hx' hfn2)
    rw [hp,hp] at hcall
    refine ⟨hf.1,hcall.mono ?_⟩
    rintro v K ⟨rfl,hfK⟩
    by_cases he:l[i]=l'[i]
    ·have he':eqB l[i] l'[i]=true:=eqB_true he
     simp (implicitDefEqProofs:=false) only [go_sem,he']
     refine loopK_intro (i + 1) (by show l.length - (i + 1) < l.length - i; omega) ?_ ⟨hlt,take_eq_succ hlt hlt2 ht he,hfr.trans (hfn2.trans hfK)⟩
     simp (implicitDefEqProofs:=false) only [go_sem,hw1]
    ·have he':eqB l[i] l'[i]=false:=eqB_false he
     simp (implicitDefEqProofs:=false) only [go_sem,he']
     exact ⟨by rw [eqB_false (take_ne hlt hlt2 he)],hfr.trans (hfn2.trans hfK)⟩
   ·have hge':¬ (i:Int) < (l'.length:Int):=by omega
    simp (implicitDefEqProofs:=false) only [go_sem,hge']
    rw [List.take_of_length_le hge,List.take_of_length_le (by omega)] at ht
    exact ⟨by rw [eqB_true ht],hfr⟩
 ·have hn':¬ (l.length:Int)=(l'.length:Int):=by omega
  simp (implicitDefEqProofs:=false) only [go_sem,c49,hn']
  exact ⟨by rw [eqB_false (fun e=>hn (by rw [e]))],Fr.refl _ _⟩
set_option maxHeartbeats 1000000 in
theorem eqfCommand_ok {f:Nat} {t:Ty} (hw:wid t=6) (hp:∀ cs,argOf t cs= .agg cs.toArray) (hf:SOk f t) (l l':List (den t)) {H:Heap} {a a':Option Addr} {c c':Nat} (h:Rep H [] (datT (.list t) l) [.slice a l.length c]) (h':Rep H [] (datT (.list t) l') [.slice a' l'.length c']) (hl:l.length < 2^63) :
 HCalls Tryz.prog 51 #[.slice a l.length c,.slice a' l'.length c',.func (.func f) #[] #[]] H fun v H'=>v= .bool (eqB l l')∧Fr [] H H':=by
 refine calls_of_vc (args:=[_,_,_]) Tryz.func51 c51ok (Nat.le_of_ble_eq_true rfl) ?_
 by_cases hn:l.length=l'.length
 ·have hn':(l.length:Int)=(l'.length:Int):=by omega
  simp (implicitDefEqProofs:=false) only [go_sem,c51,hn']
  refine vc_loop (fun (i:Nat) H'=>i≤l.length∧l.take i=l'.take i∧Fr [] H H')
   (fun i=>[(1,.slice a' l'.length c'),(2,.func (.func f) #[] #[]),(15,.slice a l.length c),(16,.int .i64 l'.length),(17,.int .i64 i)]) (fun i=>l.length - i) 0 ?_ ?_ ?_
  ·exact ⟨Nat.zero_le _,by simp,Fr.refl _ _⟩
  ·simp (implicitDefEqProofs:=false) only [go_sem]
  ·rintro i H' ⟨hi,ht,hfr⟩
   rcases Nat.lt_or_ge i l.length with hlt | hge
   ·have hlt2:i < l'.length:=by omega
    have hl1:(i:Int) < (l.length:Int):=by omega
    have hl2:(i:Int) < (l'.length:Int):=by omega
    have h0:(0:Int)≤(i:Int):=by omega
    have hw1:=succ_i64 i l.length hlt hl
    obtain ⟨b,o,cc,x,e1,_,hxl,hc,hx⟩:=rep_at (Rep.ext h hfr) i hlt
    cases e1
    obtain ⟨b',o',cc',x',e1',_,hxl',hc',hx'⟩:=rep_at (Rep.ext h' hfr) i hlt2
    cases e1'
    rw [hw] at hxl hc hxl' hc'
    obtain ⟨x0,x1,x2,x3,x4,x5,rfl⟩:=len6 hxl
    obtain ⟨y0,y1,y2,y3,y4,y5,rfl⟩:=len6 hxl'
    have p0:=hc 0 (by omega)
    have q0:=hc' 0 (by omega)
    have p1:=hc 1 (by omega)
    have q1:=hc' 1 (by omega)
    have p2:=hc 2 (by omega)
    have q2:=hc' 2 (by omega)
    have p3:=hc 3 (by omega)
    have q3:=hc' 3 (by omega)
    have p4:=hc 4 (by omega)
    have q4:=hc' 4 (by omega)
    have p5:=hc 5 (by omega)
    have q5:=hc' 5 (by omega)
    simp only [Nat.add_zero,List.getElem?_cons_zero,List.getElem?_cons_succ,Nat.mul_one] at p0 q0 p1 q1 p2 q2 p3 q3 p4 q4 p5 q5
    simp (implicitDefEqProofs:=false) only [go_sem,hl1,hl2,h0,p0,p1,p2,p3,p4,p5]
    refine NewP_intro fun A hA hfA hsA=>?_
    simp (implicitDefEqProofs:=false) only [go_sem]
    refine Sto_all hA rfl (rep_one hx) fun A2 hA2 hfA2 hsA2=>?_
    have hfn:=new_fr hfA hfA2
    replace q0:=cellB_fr q0 hfn (by simp)
    replace q1:=cellB_fr q1 hfn (by simp)
    replace q2:=cellB_fr q2 hfn (by simp)
    replace q3:=cellB_fr q3 hfn (by simp)
    replace q4:=cellB_fr q4 hfn (by simp)
    replace q5:=cellB_fr q5 hfn (by simp)
    simp (implicitDefEqProofs:=false) only [go_sem,hl2,h0,q0,q1,q2,q3,q4,q5]
    refine NewP_intro fun B hB hfB hsB=>?_
    simp (implicitDefEqProofs:=false) only [go_sem]
    refine Sto_all hB rfl (rep_one hx') fun B2 hB2 hfB2 hsB2=>?_
    have hfn2:=hfn.trans (new_fr hfB hfB2)
    have hcA:=((hA2.ext hfB).fr hfB2 (by have:=hA2.lt; simp; omega)).cell
    have hcB:=hB2.cell
    simp (implicitDefEqProofs:=false) only [go_sem,hcA,hcB]
    have hcall:=hf.2 l[i] l'[i] (Rep.ext hx hfn2) (Rep.ext hx' hfn2)
    rw [hp,hp] at hcall
    refine ⟨hf.1,hcall.mono ?_⟩
    rintro v K ⟨rfl,hfK⟩
    by_cases he:l[i]=l'[i]
    ·have he':eqB l[i] l'[i]=true:=eqB_true he
     simp (implicitDefEqProofs:=false) only [go_sem,he']
     refine loopK_intro (i + 1) (by show l.length - (i + 1) < l.length - i; omega) ?_ ⟨hlt,take_eq_succ hlt hlt2 ht he,hfr.trans (hfn2.trans hfK)⟩
     simp (implicitDefEqProofs:=false) only [go_sem,hw1]
    ·have he':eqB l[i] l'[i]=false:=eqB_false he
     simp (implicitDefEqProofs:=false) only [go_sem,he']
     exact ⟨by rw [eqB_false (take_ne hlt hlt2 he)],hfr.trans (hfn2.trans hfK)⟩
   ·have hge':¬ (i:Int) < (l'.length:Int):=by omega
    simp (implicitDefEqProofs:=false) only [go_sem,hge']
    rw [List.take_of_length_le hge,List.take_of_length_le (by omega)] at ht
    exact ⟨by rw [eqB_true ht],hfr⟩
 ·have hn':¬ (l.length:Int)=(l'.length:Int):=by omega
  simp (implicitDefEqProofs:=false) only [go_sem,c51,hn']
  exact ⟨by rw [eqB_false (fun e=>hn (by rw [e]))],Fr.refl _ _⟩
set_option maxHeartbeats 1000000 in
theorem eqfAck_ok {f:Nat} {t:Ty} (hw:wid t=2) (hp:∀ cs,argOf t cs= .agg cs.toArray) (hf:SOk f t) (l l':List (den t)) {H:Heap} {a a':Option Addr} {c c':Nat} (h:Rep H [] (datT (.list t) l) [.slice a l.length c]) (h':Rep H [] (datT (.list t) l') [.slice a' l'.length c']) (hl:l.length < 2^63) :
 HCalls Tryz.prog 53 #[.slice a l.length c,.slice a' l'.length c',.func (.func f) #[] #[]] H fun v H'=>v= .bool (eqB l l')∧Fr [] H H':=by
 refine calls_of_vc (args:=[_,_,_]) Tryz.func53 c53ok (Nat.le_of_ble_eq_true rfl) ?_
 by_cases hn:l.length=l'.length
 ·have hn':(l.length:Int)=(l'.length:Int):=by omega
  simp (implicitDefEqProofs:=false) only [go_sem,c53,hn']
  refine vc_loop (fun (i:Nat) H'=>i≤l.length∧l.take i=l'.take i∧Fr [] H H')
   (fun i=>[(1,.slice a' l'.length c'),(2,.func (.func f) #[] #[]),(15,.slice a l.length c),(16,.int .i64 l'.length),(17,.int .i64 i)]) (fun i=>l.length - i) 0 ?_ ?_ ?_
  ·exact ⟨Nat.zero_le _,by simp,Fr.refl _ _⟩
  ·simp (implicitDefEqProofs:=false) only [go_sem]
  ·rintro i H' ⟨hi,ht,hfr⟩
   rcases Nat.lt_or_ge i l.length with hlt | hge
   ·have hlt2:i < l'.length:=by omega
    have hl1:(i:Int) < (l.length:Int):=by omega
    have hl2:(i:Int) < (l'.length:Int):=by omega
    have h0:(0:Int)≤(i:Int):=by omega
    have hw1:=succ_i64 i l.length hlt hl
    obtain ⟨b,o,cc,x,e1,_,hxl,hc,hx⟩:=rep_at (Rep.ext h hfr) i hlt
    cases e1
    obtain ⟨b',o',cc',x',e1',_,hxl',hc',hx'⟩:=rep_at (Rep.ext h' hfr) i hlt2
    cases e1'
    rw [hw] at hxl hc hxl' hc'
    obtain ⟨x0,x1,rfl⟩:=len2 hxl
    obtain ⟨y0,y1,rfl⟩:=len2 hxl'
    have p0:=hc 0 (by omega)
    have q0:=hc' 0 (by omega)
    have p1:=hc 1 (by omega)
    have q1:=hc' 1 (by omega)
    simp only [Nat.add_zero,List.getElem?_cons_zero,List.getElem?_cons_succ,Nat.mul_one] at p0 q0 p1 q1
    simp (implicitDefEqProofs:=false) only [go_sem,hl1,hl2,h0,p0,p1]
    refine NewP_intro fun A hA hfA hsA=>?_
    simp (implicitDefEqProofs:=false) only [go_sem]
    refine Sto_all hA rfl (rep_one hx) fun A2 hA2 hfA2 hsA2=>?_
    have hfn:=new_fr hfA hfA2
    replace q0:=cellB_fr q0 hfn (by simp)
    replace q1:=cellB_fr q1 hfn (by simp)
    simp (implicitDefEqProofs:=false) only [go_sem,hl2,h0,q0,q1]
    refine NewP_intro fun B hB hfB hsB=>?_
    simp (implicitDefEqProofs:=false) only [go_sem]
    refine Sto_all hB rfl (rep_one hx') fun B2 hB2 hfB2 hsB2=>?_
    have hfn2:=hfn.trans (new_fr hfB hfB2)
    have hcA:=((hA2.ext hfB).fr hfB2 (by have:=hA2.lt; simp; omega)).cell
    have hcB:=hB2.cell
    simp (implicitDefEqProofs:=false) only [go_sem,hcA,hcB]
    have hcall:=hf.2 l[i] l'[i] (Rep.ext hx hfn2) (Rep.ext hx' hfn2)
    rw [hp,hp] at hcall
    refine ⟨hf.1,hcall.mono ?_⟩
    rintro v K ⟨rfl,hfK⟩
    by_cases he:l[i]=l'[i]
    ·have he':eqB l[i] l'[i]=true:=eqB_true he
     simp (implicitDefEqProofs:=false) only [go_sem,he']
     refine loopK_intro (i + 1) (by show l.length - (i + 1) < l.length - i; omega) ?_ ⟨hlt,take_eq_succ hlt hlt2 ht he,hfr.trans (hfn2.trans hfK)⟩
     simp (implicitDefEqProofs:=false) only [go_sem,hw1]
    ·have he':eqB l[i] l'[i]=false:=eqB_false he
     simp (implicitDefEqProofs:=false) only [go_sem,he']
     exact ⟨by rw [eqB_false (take_ne hlt hlt2 he)],hfr.trans (hfn2.trans hfK)⟩
   ·have hge':¬ (i:Int) < (l'.length:Int):=by omega
    simp (implicitDefEqProofs:=false) only [go_sem,hge']
    rw [List.take_of_length_le hge,List.take_of_length_le (by omega)] at ht
    exact ⟨by rw [eqB_true ht],hfr⟩
 ·have hn':¬ (l.length:Int)=(l'.length:Int):=by omega
  simp (implicitDefEqProofs:=false) only [go_sem,c53,hn']
  exact ⟨by rw [eqB_false (fun e=>hn (by rw [e]))],Fr.refl _ _⟩
set_option maxHeartbeats 1000000 in
theorem eqfProof_ok {f:Nat} {t:Ty} (hw:wid t=10) (hp:∀ cs,argOf t cs= .agg cs.toArray) (hf:SOk f t) (l l':List (den t)) {H:Heap} {a a':Option Addr} {c c':Nat} (h:Rep H [] (datT (.list t) l) [.slice a l.length c]) (h':Rep H [] (datT (.list t) l') [.slice a' l'.length c']) (hl:l.length < 2^63) :
 HCalls Tryz.prog 55 #[.slice a l.length c,.slice a' l'.length c',.func (.func f) #[] #[]] H fun v H'=>v= .bool (eqB l l')∧Fr [] H H':=by
 refine calls_of_vc (args:=[_,_,_]) Tryz.func55 c55ok (Nat.le_of_ble_eq_true rfl) ?_
 by_cases hn:l.length=l'.length
 ·have hn':(l.length:Int)=(l'.length:Int):=by omega
  simp (implicitDefEqProofs:=false) only [go_sem,c55,hn']
  refine vc_loop (fun (i:Nat) H'=>i≤l.length∧l.take i=l'.take i∧Fr [] H H')
   (fun i=>[(1,.slice a' l'.length c'),(2,.func (.func f) #[] #[]),(15,.slice a l.length c),(16,.int .i64 l'.length),(17,.int .i64 i)]) (fun i=>l.length - i) 0 ?_ ?_ ?_
  ·exact ⟨Nat.zero_le _,by simp,Fr.refl _ _⟩
  ·simp (implicitDefEqProofs:=false) only [go_sem]
  ·rintro i H' ⟨hi,ht,hfr⟩
   rcases Nat.lt_or_ge i l.length with hlt | hge
   ·have hlt2:i < l'.length:=by omega
    have hl1:(i:Int) < (l.length:Int):=by omega
    have hl2:(i:Int) < (l'.length:Int):=by omega
    have h0:(0:Int)≤(i:Int):=by omega
    have hw1:=succ_i64 i l.length hlt hl
    obtain ⟨b,o,cc,x,e1,_,hxl,hc,hx⟩:=rep_at (Rep.ext h hfr) i hlt
    cases e1
    obtain ⟨b',o',cc',x',e1',_,hxl',hc',hx'⟩:=rep_at (Rep.ext h' hfr) i hlt2
    cases e1'
    rw [hw] at hxl hc hxl' hc'
    obtain ⟨x0,x1,x2,x3,x4,x5,x6,x7,x8,x9,rfl⟩:=len10 hxl
    obtain ⟨y0,y1,y2,y3,y4,y5,y6,y7,y8,y9,rfl⟩:=len10 hxl'
    have p0:=hc 0 (by omega)
    have q0:=hc' 0 (by omega)
    have p1:=hc 1 (by omega)
    have q1:=hc' 1 (by omega)
    have p2:=hc 2 (by omega)
    have q2:=hc' 2 (by omega)
    have p3:=hc 3 (by omega)
    have q3:=hc' 3 (by omega)
    have p4:=hc 4 (by omega)
    have q4:=hc' 4 (by omega)
    have p5:=hc 5 (by omega)
    have q5:=hc' 5 (by omega)
    have p6:=hc 6 (by omega)
    have q6:=hc' 6 (by omega)
    have p7:=hc 7 (by omega)
    have q7:=hc' 7 (by omega)
    have p8:=hc 8 (by omega)
    have q8:=hc' 8 (by omega)
    have p9:=hc 9 (by omega)
    have q9:=hc' 9 (by omega)
    simp only [Nat.add_zero,List.getElem?_cons_zero,List.getElem?_cons_succ,Nat.mul_one] at p0 q0 p1 q1 p2 q2 p3 q3 p4 q4 p5 q5 p6 q6 p7 q7 p8 q8 p9 q9
    simp (implicitDefEqProofs:=false) only [go_sem,hl1,hl2,h0,p0,p1,p2,p3,p4,p5,p6,p7,p8,p9]
    refine NewP_intro fun A hA hfA hsA=>?_
    simp (implicitDefEqProofs:=false) only [go_sem]
    refine Sto_all hA rfl (rep_one hx) fun A2 hA2 hfA2 hsA2=>?_
    have hfn:=new_fr hfA hfA2
    replace q0:=cellB_fr q0 hfn (by simp)
    replace q1:=cellB_fr q1 hfn (by simp)
    replace q2:=cellB_fr q2 hfn (by simp)
    replace q3:=cellB_fr q3 hfn (by simp)
    replace q4:=cellB_fr q4 hfn (by simp)
    replace q5:=cellB_fr q5 hfn (by simp)
    replace q6:=cellB_fr q6 hfn (by simp)
    replace q7:=cellB_fr q7 hfn (by simp)
    replace q8:=cellB_fr q8 hfn (by simp)
    replace q9:=cellB_fr q9 hfn (by simp)
    simp (implicitDefEqProofs:=false) only [go_sem,hl2,h0,q0,q1,q2,q3,q4,q5,q6,q7,q8,q9]
    refine NewP_intro fun B hB hfB hsB=>?_
    simp (implicitDefEqProofs:=false) only [go_sem]
    refine Sto_all hB rfl (rep_one hx') fun B2 hB2 hfB2 hsB2=>?_
    have hfn2:=hfn.trans (new_fr hfB hfB2)
    have hcA:=((hA2.ext hfB).fr hfB2 (by have:=hA2.lt; simp; omega)).cell
    have hcB:=hB2.cell
    simp (implicitDefEqProofs:=false) only [go_sem,hcA,hcB]
    have hcall:=hf.2 l[i] l'[i] (Rep.ext hx hfn2) (Rep.ext hx' hfn2)
    rw [hp,hp] at hcall
    refine ⟨hf.1,hcall.mono ?_⟩
    rintro v K ⟨rfl,hfK⟩
    by_cases he:l[i]=l'[i]
    ·have he':eqB l[i] l'[i]=true:=eqB_true he
     simp (implicitDefEqProofs:=false) only [go_sem,he']
     refine loopK_intro (i + 1) (by show l.length - (i + 1) < l.length - i; omega) ?_ ⟨hlt,take_eq_succ hlt hlt2 ht he,hfr.trans (hfn2.trans hfK)⟩
     simp (implicitDefEqProofs:=false) only [go_sem,hw1]
    ·have he':eqB l[i] l'[i]=false:=eqB_false he
     simp (implicitDefEqProofs:=false) only [go_sem,he']
     exact ⟨by rw [eqB_false (take_ne hlt hlt2 he)],hfr.trans (hfn2.trans hfK)⟩
   ·have hge':¬ (i:Int) < (l'.length:Int):=by omega
    simp (implicitDefEqProofs:=false) only [go_sem,hge']
    rw [List.take_of_length_le hge,List.take_of_length_le (by omega)] at ht
    exact ⟨by rw [eqB_true ht],hfr⟩
 ·have hn':¬ (l.length:Int)=(l'.length:Int):=by omega
  simp (implicitDefEqProofs:=false) only [go_sem,c55,hn']
  exact ⟨by rw [eqB_false (fun e=>hn (by rw [e]))],Fr.refl _ _⟩
set_option maxHeartbeats 1000000 in
theorem eqfDigest_ok {f:Nat} {t:Ty} (hw:wid t=3) (hp:∀ cs,argOf t cs= .agg cs.toArray) (hf:SOk f t) (l l':List (den t)) {H:Heap} {a a':Option Addr} {c c':Nat} (h:Rep H [] (datT (.list t) l) [.slice a l.length c]) (h':Rep H [] (datT (.list t) l') [.slice a' l'.length c']) (hl:l.length < 2^63) :
 HCalls Tryz.prog 57 #[.slice a l.length c,.slice a' l'.length c',.func (.func f) #[] #[]] H fun v H'=>v= .bool (eqB l l')∧Fr [] H H':=by
 refine calls_of_vc (args:=[_,_,_]) Tryz.func57 c57ok (Nat.le_of_ble_eq_true rfl) ?_
 by_cases hn:l.length=l'.length
 ·have hn':(l.length:Int)=(l'.length:Int):=by omega
  simp (implicitDefEqProofs:=false) only [go_sem,c57,hn']
  refine vc_loop (fun (i:Nat) H'=>i≤l.length∧l.take i=l'.take i∧Fr [] H H')
   (fun i=>[(1,.slice a' l'.length c'),(2,.func (.func f) #[] #[]),(15,.slice a l.length c),(16,.int .i64 l'.length),(17,.int .i64 i)]) (fun i=>l.length - i) 0 ?_ ?_ ?_
  ·exact ⟨Nat.zero_le _,by simp,Fr.refl _ _⟩
  ·simp (implicitDefEqProofs:=false) only [go_sem]
  ·rintro i H' ⟨hi,ht,hfr⟩
   rcases Nat.lt_or_ge i l.length with hlt | hge
   ·have hlt2:i < l'.length:=by omega
    have hl1:(i:Int) < (l.length:Int):=by omega
    have hl2:(i:Int) < (l'.length:Int):=by omega
    have h0:(0:Int)≤(i:Int):=by omega
    have hw1:=succ_i64 i l.length hlt hl
    obtain ⟨b,o,cc,x,e1,_,hxl,hc,hx⟩:=rep_at (Rep.ext h hfr) i hlt
    cases e1
    obtain ⟨b',o',cc',x',e1',_,hxl',hc',hx'⟩:=rep_at (Rep.ext h' hfr) i hlt2
    cases e1'
    rw [hw] at hxl hc hxl' hc'
    obtain ⟨x0,x1,x2,rfl⟩:=len3 hxl
    obtain ⟨y0,y1,y2,rfl⟩:=len3 hxl'
    have p0:=hc 0 (by omega)
    have q0:=hc' 0 (by omega)
    have p1:=hc 1 (by omega)
    have q1:=hc' 1 (by omega)
    have p2:=hc 2 (by omega)
    have q2:=hc' 2 (by omega)
    simp only [Nat.add_zero,List.getElem?_cons_zero,List.getElem?_cons_succ,Nat.mul_one] at p0 q0 p1 q1 p2 q2
    simp (implicitDefEqProofs:=false) only [go_sem,hl1,hl2,h0,p0,p1,p2]
    refine NewP_intro fun A hA hfA hsA=>?_
    simp (implicitDefEqProofs:=false) only [go_sem]
    refine Sto_all hA rfl (rep_one hx) fun A2 hA2 hfA2 hsA2=>?_
    have hfn:=new_fr hfA hfA2
    replace q0:=cellB_fr q0 hfn (by simp)
    replace q1:=cellB_fr q1 hfn (by simp)
    replace q2:=cellB_fr q2 hfn (by simp)
    simp (implicitDefEqProofs:=false) only [go_sem,hl2,h0,q0,q1,q2]
    refine NewP_intro fun B hB hfB hsB=>?_
    simp (implicitDefEqProofs:=false) only [go_sem]
    refine Sto_all hB rfl (rep_one hx') fun B2 hB2 hfB2 hsB2=>?_
    have hfn2:=hfn.trans (new_fr hfB hfB2)
    have hcA:=((hA2.ext hfB).fr hfB2 (by have:=hA2.lt; simp; omega)).cell
    have hcB:=hB2.cell
    simp (implicitDefEqProofs:=false) only [go_sem,hcA,hcB]
    have hcall:=hf.2 l[i] l'[i] (Rep.ext hx hfn2) (Rep.ext hx' hfn2)
    rw [hp,hp] at hcall
    refine ⟨hf.1,hcall.mono ?_⟩
    rintro v K ⟨rfl,hfK⟩
    by_cases he:l[i]=l'[i]
    ·have he':eqB l[i] l'[i]=true:=eqB_true he
     simp (implicitDefEqProofs:=false) only [go_sem,he']
     refine loopK_intro (i + 1) (by show l.length - (i + 1) < l.length - i; omega) ?_ ⟨hlt,take_eq_succ hlt hlt2 ht he,hfr.trans (hfn2.trans hfK)⟩
     simp (implicitDefEqProofs:=false) only [go_sem,hw1]
    ·have he':eqB l[i] l'[i]=false:=eqB_false he
     simp (implicitDefEqProofs:=false) only [go_sem,he']
     exact ⟨by rw [eqB_false (take_ne hlt hlt2 he)],hfr.trans (hfn2.trans hfK)⟩
   ·have hge':¬ (i:Int) < (l'.length:Int):=by omega
    simp (implicitDefEqProofs:=false) only [go_sem,hge']
    rw [List.take_of_length_le hge,List.take_of_length_le (by omega)] at ht
    exact ⟨by rw [eqB_true ht],hfr⟩
 ·have hn':¬ (l.length:Int)=(l'.length:Int):=by omega
  simp (implicitDefEqProofs:=false) only [go_sem,c57,hn']
  exact ⟨by rw [eqB_false (fun e=>hn (by rw [e]))],Fr.refl _ _⟩
set_option maxHeartbeats 1000000 in
theorem eqfItem_ok {f:Nat} {t:Ty} (hw:wid t=4) (hp:∀ cs,argOf t cs= .agg cs.toArray) (hf:SOk f t) (l l':List (den t)) {H:Heap} {a a':Option Addr} {c c':Nat} (h:Rep H [] (datT (.list t) l) [.slice a l.length c]) (h':Rep H [] (datT (.list t) l') [.slice a' l'.length c']) (hl:l.length < 2^63) :
 HCalls Tryz.prog 60 #[.slice a l.length c,.slice a' l'.length c',.func (.func f) #[] #[]] H fun v H'=>v= .bool (eqB l l')∧Fr [] H H':=by
 refine calls_of_vc (args:=[_,_,_]) Tryz.func60 c60ok (Nat.le_of_ble_eq_true rfl) ?_
 by_cases hn:l.length=l'.length
 ·have hn':(l.length:Int)=(l'.length:Int):=by omega
  simp (implicitDefEqProofs:=false) only [go_sem,c60,hn']
  refine vc_loop (fun (i:Nat) H'=>i≤l.length∧l.take i=l'.take i∧Fr [] H H')
   (fun i=>[(1,.slice a' l'.length c'),(2,.func (.func f) #[] #[]),(15,.slice a l.length c),(16,.int .i64 l'.length),(17,.int .i64 i)]) (fun i=>l.length - i) 0 ?_ ?_ ?_
  ·exact ⟨Nat.zero_le _,by simp,Fr.refl _ _⟩
  ·simp (implicitDefEqProofs:=false) only [go_sem]
  ·rintro i H' ⟨hi,ht,hfr⟩
   rcases Nat.lt_or_ge i l.length with hlt | hge
   ·have hlt2:i < l'.length:=by omega
    have hl1:(i:Int) < (l.length:Int):=by omega
    have hl2:(i:Int) < (l'.length:Int):=by omega
    have h0:(0:Int)≤(i:Int):=by omega
    have hw1:=succ_i64 i l.length hlt hl
    obtain ⟨b,o,cc,x,e1,_,hxl,hc,hx⟩:=rep_at (Rep.ext h hfr) i hlt
    cases e1
    obtain ⟨b',o',cc',x',e1',_,hxl',hc',hx'⟩:=rep_at (Rep.ext h' hfr) i hlt2
    cases e1'
    rw [hw] at hxl hc hxl' hc'
    obtain ⟨x0,x1,x2,x3,rfl⟩:=len4 hxl
    obtain ⟨y0,y1,y2,y3,rfl⟩:=len4 hxl'
    have p0:=hc 0 (by omega)
    have q0:=hc' 0 (by omega)
    have p1:=hc 1 (by omega)
    have q1:=hc' 1 (by omega)
    have p2:=hc 2 (by omega)
    have q2:=hc' 2 (by omega)
    have p3:=hc 3 (by omega)
    have q3:=hc' 3 (by omega)
    simp only [Nat.add_zero,List.getElem?_cons_zero,List.getElem?_cons_succ,Nat.mul_one] at p0 q0 p1 q1 p2 q2 p3 q3
    simp (implicitDefEqProofs:=false) only [go_sem,hl1,hl2,h0,p0,p1,p2,p3]
    refine NewP_intro fun A hA hfA hsA=>?_
    simp (implicitDefEqProofs:=false) only [go_sem]
    refine Sto_all hA rfl (rep_one hx) fun A2 hA2 hfA2 hsA2=>?_
    have hfn:=new_fr hfA hfA2
    replace q0:=cellB_fr q0 hfn (by simp)
    replace q1:=cellB_fr q1 hfn (by simp)
    replace q2:=cellB_fr q2 hfn (by simp)
    replace q3:=cellB_fr q3 hfn (by simp)
    simp (implicitDefEqProofs:=false) only [go_sem,hl2,h0,q0,q1,q2,q3]
    refine NewP_intro fun B hB hfB hsB=>?_
    simp (implicitDefEqProofs:=false) only [go_sem]
    refine Sto_all hB rfl (rep_one hx') fun B2 hB2 hfB2 hsB2=>?_
    have hfn2:=hfn.trans (new_fr hfB hfB2)
    have hcA:=((hA2.ext hfB).fr hfB2 (by have:=hA2.lt; simp; omega)).cell
    have hcB:=hB2.cell
    simp (implicitDefEqProofs:=false) only [go_sem,hcA,hcB]
    have hcall:=hf.2 l[i] l'[i] (Rep.ext hx hfn2) (Rep.ext hx' hfn2)
    rw [hp,hp] at hcall
    refine ⟨hf.1,hcall.mono ?_⟩
    rintro v K ⟨rfl,hfK⟩
    by_cases he:l[i]=l'[i]
    ·have he':eqB l[i] l'[i]=true:=eqB_true he
     simp (implicitDefEqProofs:=false) only [go_sem,he']
     refine loopK_intro (i + 1) (by show l.length - (i + 1) < l.length - i; omega) ?_ ⟨hlt,take_eq_succ hlt hlt2 ht he,hfr.trans (hfn2.trans hfK)⟩
     simp (implicitDefEqProofs:=false) only [go_sem,hw1]
    ·have he':eqB l[i] l'[i]=false:=eqB_false he
     simp (implicitDefEqProofs:=false) only [go_sem,he']
     exact ⟨by rw [eqB_false (take_ne hlt hlt2 he)],hfr.trans (hfn2.trans hfK)⟩
   ·have hge':¬ (i:Int) < (l'.length:Int):=by omega
    simp (implicitDefEqProofs:=false) only [go_sem,hge']
    rw [List.take_of_length_le hge,List.take_of_length_le (by omega)] at ht
    exact ⟨by rw [eqB_true ht],hfr⟩
 ·have hn':¬ (l.length:Int)=(l'.length:Int):=by omega
  simp (implicitDefEqProofs:=false) only [go_sem,c60,hn']
  exact ⟨by rw [eqB_false (fun e=>hn (by rw [e]))],Fr.refl _ _⟩
set_option maxHeartbeats 1000000 in
theorem eqfCertificate_ok {f:Nat} {t:Ty} (hw:wid t=9) (hp:∀ cs,argOf t cs= .agg cs.toArray) (hf:SOk f t) (l l':List (den t)) {H:Heap} {a a':Option Addr} {c c':Nat} (h:Rep H [] (datT (.list t) l) [.slice a l.length c]) (h':Rep H [] (datT (.list t) l') [.slice a' l'.length c']) (hl:l.length < 2^63) :
 HCalls Tryz.prog 110 #[.slice a l.length c,.slice a' l'.length c',.func (.func f) #[] #[]] H fun v H'=>v= .bool (eqB l l')∧Fr [] H H':=by
 refine calls_of_vc (args:=[_,_,_]) Tryz.func110 c110ok (Nat.le_of_ble_eq_true rfl) ?_
 by_cases hn:l.length=l'.length
 ·have hn':(l.length:Int)=(l'.length:Int):=by omega
  simp (implicitDefEqProofs:=false) only [go_sem,c110,hn']
  refine vc_loop (fun (i:Nat) H'=>i≤l.length∧l.take i=l'.take i∧Fr [] H H')
   (fun i=>[(1,.slice a' l'.length c'),(2,.func (.func f) #[] #[]),(15,.slice a l.length c),(16,.int .i64 l'.length),(17,.int .i64 i)]) (fun i=>l.length - i) 0 ?_ ?_ ?_
  ·exact ⟨Nat.zero_le _,by simp,Fr.refl _ _⟩
  ·simp (implicitDefEqProofs:=false) only [go_sem]
  ·rintro i H' ⟨hi,ht,hfr⟩
   rcases Nat.lt_or_ge i l.length with hlt | hge
   ·have hlt2:i < l'.length:=by omega
    have hl1:(i:Int) < (l.length:Int):=by omega
    have hl2:(i:Int) < (l'.length:Int):=by omega
    have h0:(0:Int)≤(i:Int):=by omega
    have hw1:=succ_i64 i l.length hlt hl
    obtain ⟨b,o,cc,x,e1,_,hxl,hc,hx⟩:=rep_at (Rep.ext h hfr) i hlt
    cases e1
    obtain ⟨b',o',cc',x',e1',_,hxl',hc',hx'⟩:=rep_at (Rep.ext h' hfr) i hlt2
    cases e1'
    rw [hw] at hxl hc hxl' hc'
    obtain ⟨x0,x1,x2,x3,x4,x5,x6,x7,x8,rfl⟩:=len9 hxl
    obtain ⟨y0,y1,y2,y3,y4,y5,y6,y7,y8,rfl⟩:=len9 hxl'
    have p0:=hc 0 (by omega)
    have q0:=hc' 0 (by omega)
    have p1:=hc 1 (by omega)
    have q1:=hc' 1 (by omega)
    have p2:=hc 2 (by omega)
    have q2:=hc' 2 (by omega)
    have p3:=hc 3 (by omega)
    have q3:=hc' 3 (by omega)
    have p4:=hc 4 (by omega)
    have q4:=hc' 4 (by omega)
    have p5:=hc 5 (by omega)
    have q5:=hc' 5 (by omega)
    have p6:=hc 6 (by omega)
    have q6:=hc' 6 (by omega)
    have p7:=hc 7 (by omega)
    have q7:=hc' 7 (by omega)
    have p8:=hc 8 (by omega)
    have q8:=hc' 8 (by omega)
    simp only [Nat.add_zero,List.getElem?_cons_zero,List.getElem?_cons_succ,Nat.mul_one] at p0 q0 p1 q1 p2 q2 p3 q3 p4 q4 p5 q5 p6 q6 p7 q7 p8 q8
    simp (implicitDefEqProofs:=false) only [go_sem,hl1,hl2,h0,p0,p1,p2,p3,p4,p5,p6,p7,p8]
    refine NewP_intro fun A hA hfA hsA=>?_
    simp (implicitDefEqProofs:=false) only [go_sem]
    refine Sto_all hA rfl (rep_one hx) fun A2 hA2 hfA2 hsA2=>?_
    have hfn:=new_fr hfA hfA2
    replace q0:=cellB_fr q0 hfn (by simp)
    replace q1:=cellB_fr q1 hfn (by simp)
    replace q2:=cellB_fr q2 hfn (by simp)
    replace q3:=cellB_fr q3 hfn (by simp)
    replace q4:=cellB_fr q4 hfn (by simp)
    replace q5:=cellB_fr q5 hfn (by simp)
    replace q6:=cellB_fr q6 hfn (by simp)
    replace q7:=cellB_fr q7 hfn (by simp)
    replace q8:=cellB_fr q8 hfn (by simp)
    simp (implicitDefEqProofs:=false) only [go_sem,hl2,h0,q0,q1,q2,q3,q4,q5,q6,q7,q8]
    refine NewP_intro fun B hB hfB hsB=>?_
    simp (implicitDefEqProofs:=false) only [go_sem]
    refine Sto_all hB rfl (rep_one hx') fun B2 hB2 hfB2 hsB2=>?_
    have hfn2:=hfn.trans (new_fr hfB hfB2)
    have hcA:=((hA2.ext hfB).fr hfB2 (by have:=hA2.lt; simp; omega)).cell
    have hcB:=hB2.cell
    simp (implicitDefEqProofs:=false) only [go_sem,hcA,hcB]
    have hcall:=hf.2 l[i] l'[i] (Rep.ext hx hfn2) (Rep.ext hx' hfn2)
    rw [hp,hp] at hcall
    refine ⟨hf.1,hcall.mono ?_⟩
    rintro v K ⟨rfl,hfK⟩
    by_cases he:l[i]=l'[i]
    ·have he':eqB l[i] l'[i]=true:=eqB_true he
     simp (implicitDefEqProofs:=false) only [go_sem,he']
     refine loopK_intro (i + 1) (by show l.length - (i + 1) < l.length - i; omega) ?_ ⟨hlt,take_eq_succ hlt hlt2 ht he,hfr.trans (hfn2.trans hfK)⟩
     simp (implicitDefEqProofs:=false) only [go_sem,hw1]
    ·have he':eqB l[i] l'[i]=false:=eqB_false he
     simp (implicitDefEqProofs:=false) only [go_sem,he']
     exact ⟨by rw [eqB_false (take_ne hlt hlt2 he)],hfr.trans (hfn2.trans hfK)⟩
   ·have hge':¬ (i:Int) < (l'.length:Int):=by omega
    simp (implicitDefEqProofs:=false) only [go_sem,hge']
    rw [List.take_of_length_le hge,List.take_of_length_le (by omega)] at ht
    exact ⟨by rw [eqB_true ht],hfr⟩
 ·have hn':¬ (l.length:Int)=(l'.length:Int):=by omega
  simp (implicitDefEqProofs:=false) only [go_sem,c110,hn']
  exact ⟨by rw [eqB_false (fun e=>hn (by rw [e]))],Fr.refl _ _⟩
set_option maxHeartbeats 1000000 in
theorem eqfWrite_ok {f:Nat} {t:Ty} (hw:wid t=2) (hp:∀ cs,argOf t cs= .agg cs.toArray) (hf:SOk f t) (l l':List (den t)) {H:Heap} {a a':Option Addr} {c c':Nat} (h:Rep H [] (datT (.list t) l) [.slice a l.length c]) (h':Rep H [] (datT (.list t) l') [.slice a' l'.length c']) (hl:l.length < 2^63) :
 HCalls Tryz.prog 112 #[.slice a l.length c,.slice a' l'.length c',.func (.func f) #[] #[]] H fun v H'=>v= .bool (eqB l l')∧Fr [] H H':=by
 refine calls_of_vc (args:=[_,_,_]) Tryz.func112 c112ok (Nat.le_of_ble_eq_true rfl) ?_
 by_cases hn:l.length=l'.length
 ·have hn':(l.length:Int)=(l'.length:Int):=by omega
  simp (implicitDefEqProofs:=false) only [go_sem,c112,hn']
  refine vc_loop (fun (i:Nat) H'=>i≤l.length∧l.take i=l'.take i∧Fr [] H H')
   (fun i=>[(1,.slice a' l'.length c'),(2,.func (.func f) #[] #[]),(15,.slice a l.length c),(16,.int .i64 l'.length),(17,.int .i64 i)]) (fun i=>l.length - i) 0 ?_ ?_ ?_
  ·exact ⟨Nat.zero_le _,by simp,Fr.refl _ _⟩
  ·simp (implicitDefEqProofs:=false) only [go_sem]
  ·rintro i H' ⟨hi,ht,hfr⟩
   rcases Nat.lt_or_ge i l.length with hlt | hge
   ·have hlt2:i < l'.length:=by omega
    have hl1:(i:Int) < (l.length:Int):=by omega
    have hl2:(i:Int) < (l'.length:Int):=by omega
    have h0:(0:Int)≤(i:Int):=by omega
    have hw1:=succ_i64 i l.length hlt hl
    obtain ⟨b,o,cc,x,e1,_,hxl,hc,hx⟩:=rep_at (Rep.ext h hfr) i hlt
    cases e1
    obtain ⟨b',o',cc',x',e1',_,hxl',hc',hx'⟩:=rep_at (Rep.ext h' hfr) i hlt2
    cases e1'
    rw [hw] at hxl hc hxl' hc'
    obtain ⟨x0,x1,rfl⟩:=len2 hxl
    obtain ⟨y0,y1,rfl⟩:=len2 hxl'
    have p0:=hc 0 (by omega)
    have q0:=hc' 0 (by omega)
    have p1:=hc 1 (by omega)
    have q1:=hc' 1 (by omega)
    simp only [Nat.add_zero,List.getElem?_cons_zero,List.getElem?_cons_succ,Nat.mul_one] at p0 q0 p1 q1
    simp (implicitDefEqProofs:=false) only [go_sem,hl1,hl2,h0,p0,p1]
    refine NewP_intro fun A hA hfA hsA=>?_
    simp (implicitDefEqProofs:=false) only [go_sem]
    refine Sto_all hA rfl (rep_one hx) fun A2 hA2 hfA2 hsA2=>?_
    have hfn:=new_fr hfA hfA2
    replace q0:=cellB_fr q0 hfn (by simp)
    replace q1:=cellB_fr q1 hfn (by simp)
    simp (implicitDefEqProofs:=false) only [go_sem,hl2,h0,q0,q1]
    refine NewP_intro fun B hB hfB hsB=>?_
    simp (implicitDefEqProofs:=false) only [go_sem]
    refine Sto_all hB rfl (rep_one hx') fun B2 hB2 hfB2 hsB2=>?_
    have hfn2:=hfn.trans (new_fr hfB hfB2)
    have hcA:=((hA2.ext hfB).fr hfB2 (by have:=hA2.lt; simp; omega)).cell
    have hcB:=hB2.cell
    simp (implicitDefEqProofs:=false) only [go_sem,hcA,hcB]
    have hcall:=hf.2 l[i] l'[i] (Rep.ext hx hfn2) (Rep.ext hx' hfn2)
    rw [hp,hp] at hcall
    refine ⟨hf.1,hcall.mono ?_⟩
    rintro v K ⟨rfl,hfK⟩
    by_cases he:l[i]=l'[i]
    ·have he':eqB l[i] l'[i]=true:=eqB_true he
     simp (implicitDefEqProofs:=false) only [go_sem,he']
     refine loopK_intro (i + 1) (by show l.length - (i + 1) < l.length - i; omega) ?_ ⟨hlt,take_eq_succ hlt hlt2 ht he,hfr.trans (hfn2.trans hfK)⟩
     simp (implicitDefEqProofs:=false) only [go_sem,hw1]
    ·have he':eqB l[i] l'[i]=false:=eqB_false he
     simp (implicitDefEqProofs:=false) only [go_sem,he']
     exact ⟨by rw [eqB_false (take_ne hlt hlt2 he)],hfr.trans (hfn2.trans hfK)⟩
   ·have hge':¬ (i:Int) < (l'.length:Int):=by omega
    simp (implicitDefEqProofs:=false) only [go_sem,hge']
    rw [List.take_of_length_le hge,List.take_of_length_le (by omega)] at ht
    exact ⟨by rw [eqB_true ht],hfr⟩
 ·have hn':¬ (l.length:Int)=(l'.length:Int):=by omega
  simp (implicitDefEqProofs:=false) only [go_sem,c112,hn']
  exact ⟨by rw [eqB_false (fun e=>hn (by rw [e]))],Fr.refl _ _⟩
set_option maxHeartbeats 1000000 in
theorem eqfBts_ok {f:Nat} {t:Ty} (hw:wid t=1) (hp:∀ v,argOf t [v]=v) (hf:SOk f t) (l l':List (den t)) {H:Heap} {a a':Option Addr} {c c':Nat} (h:Rep H [] (datT (.list t) l) [.slice a l.length c]) (h':Rep H [] (datT (.list t) l') [.slice a' l'.length c']) (hl:l.length < 2^63) :
 HCalls Tryz.prog 114 #[.slice a l.length c,.slice a' l'.length c',.func (.func f) #[] #[]] H fun v H'=>v= .bool (eqB l l')∧Fr [] H H':=by
 refine calls_of_vc (args:=[_,_,_]) Tryz.func114 c114ok (Nat.le_of_ble_eq_true rfl) ?_
 by_cases hn:l.length=l'.length
 ·have hn':(l.length:Int)=(l'.length:Int):=by omega
  simp (implicitDefEqProofs:=false) only [go_sem,c114,hn']
  refine vc_loop (fun (i:Nat) H'=>i≤l.length∧l.take i=l'.take i∧Fr [] H H')
   (fun i=>[(1,.slice a' l'.length c'),(2,.func (.func f) #[] #[]),(15,.slice a l.length c),(16,.int .i64 l'.length),(17,.int .i64 i)]) (fun i=>l.length - i) 0 ?_ ?_ ?_
  ·exact ⟨Nat.zero_le _,by simp,Fr.refl _ _⟩
  ·simp (implicitDefEqProofs:=false) only [go_sem]
  ·rintro i H' ⟨hi,ht,hfr⟩
   rcases Nat.lt_or_ge i l.length with hlt | hge
   ·have hlt2:i < l'.length:=by omega
    have hl1:(i:Int) < (l.length:Int):=by omega
    have hl2:(i:Int) < (l'.length:Int):=by omega
    have h0:(0:Int)≤(i:Int):=by omega
    have hw1:=succ_i64 i l.length hlt hl
    obtain ⟨b,o,cc,x,e1,_,hxl,hc,hx⟩:=rep_at (Rep.ext h hfr) i hlt
    cases e1
    obtain ⟨b',o',cc',x',e1',_,hxl',hc',hx'⟩:=rep_at (Rep.ext h' hfr) i hlt2
    cases e1'
    rw [hw] at hxl hc hxl' hc'
    obtain ⟨x0,rfl⟩:=len1 hxl
    obtain ⟨y0,rfl⟩:=len1 hxl'
    have p0:=hc 0 (by omega)
    have q0:=hc' 0 (by omega)
    simp only [Nat.add_zero,List.getElem?_cons_zero,List.getElem?_cons_succ,Nat.mul_one] at p0 q0
    simp (implicitDefEqProofs:=false) only [go_sem,hl1,hl2,h0,p0]
    simp (implicitDefEqProofs:=false) only [go_sem,hl2,h0,q0]
    have hfn2:=Fr.refl [] H'
    have hcall:=hf.2 l[i] l'[i] hx hx'
    rw [hp,hp] at hcall
    refine ⟨hf.1,hcall.mono ?_⟩
    rintro v K ⟨rfl,hfK⟩
    by_cases he:l[i]=l'[i]
    ·have he':eqB l[i] l'[i]=true:=eqB_true he
     simp (implicitDefEqProofs:=false) only [go_sem,he']
     refine loopK_intro (i + 1) (by show l.length - (i + 1) < l.length - i; omega) ?_ ⟨hlt,take_eq_succ hlt hlt2 ht he,hfr.trans (hfn2.trans hfK)⟩
     simp (implicitDefEqProofs:=false) only [go_sem,hw1]
    ·have he':eqB l[i] l'[i]=false:=eqB_false he
     simp (implicitDefEqProofs:=false) only [go_sem,he']
     exact ⟨by rw [eqB_false (take_ne hlt hlt2 he)],hfr.trans (hfn2.trans hfK)⟩
   ·have hge':¬ (i:Int) < (l'.length:Int):=by omega
    simp (implicitDefEqProofs:=false) only [go_sem,hge']
    rw [List.take_of_length_le hge,List.take_of_length_le (by omega)] at ht
    exact ⟨by rw [eqB_true ht],hfr⟩
 ·have hn':¬ (l.length:Int)=(l'.length:Int):=by omega
  simp (implicitDefEqProofs:=false) only [go_sem,c114,hn']
  exact ⟨by rw [eqB_false (fun e=>hn (by rw [e]))],Fr.refl _ _⟩
end Go.Proofs.YtdhlibkdcldioaaGreat
end
section
set_option linter.unusedSimpArgs false
set_option linter.unusedVariables false
set_option maxRecDepth 8000
namespace Go.Proofs.YtdhlibkdcldioaaGreat
open Gx Go
theorem fuses_ok (k:Int) (H:Heap):HCalls Tryz.prog 62 #[.int .i64 k] H fun v H'=>v= .agg ((useB k).map Value.bool).toArray∧Fr [] H H':=by
 refine calls_of_vc (args:=[_]) Tryz.func62 c62ok (Nat.le_of_ble_eq_true rfl) ?_
 by_cases k1:k=1
 ·subst k1
  simp (implicitDefEqProofs:=false) only [go_sem,c62]
  refine NewP_intro fun H1 hn1 hf1 hs1=>?_
  simp (implicitDefEqProofs:=false) only [go_sem]
  refine Sto_all hn1 rfl (by simp [Value.oneCell']) fun H2 hn2 hf2 hs2=>?_
  have hc:=hn2.cell
  simp (implicitDefEqProofs:=false) only [go_sem,hc]
  exact ⟨by simp [useB],hf1.trans' hf2 (by simp)⟩
 by_cases k2:k=2
 ·subst k2
  simp (implicitDefEqProofs:=false) only [go_sem,c62]
  refine NewP_intro fun H1 hn1 hf1 hs1=>?_
  simp (implicitDefEqProofs:=false) only [go_sem]
  refine Sto_all hn1 rfl (by simp [Value.oneCell']) fun H2 hn2 hf2 hs2=>?_
  have hc:=hn2.cell
  simp (implicitDefEqProofs:=false) only [go_sem,hc]
  exact ⟨by simp [useB],hf1.trans' hf2 (by simp)⟩
 by_cases k3:k=3
 ·subst k3
  simp (implicitDefEqProofs:=false) only [go_sem,c62]
  refine NewP_intro fun H1 hn1 hf1 hs1=>?_
  simp (implicitDefEqProofs:=false) only [go_sem]
  refine Sto_all hn1 rfl (by simp [Value.oneCell']) fun H2 hn2 hf2 hs2=>?_
  have hc:=hn2.cell
  simp (implicitDefEqProofs:=false) only [go_sem,hc]
  exact ⟨by simp [useB],hf1.trans' hf2 (by simp)⟩
 by_cases k4:k=4
 ·subst k4
  simp (implicitDefEqProofs:=false) only [go_sem,c62]
  refine NewP_intro fun H1 hn1 hf1 hs1=>?_
  simp (implicitDefEqProofs:=false) only [go_sem]
  refine Sto_all hn1 rfl (by simp [Value.oneCell']) fun H2 hn2 hf2 hs2=>?_
  have hc:=hn2.cell
  simp (implicitDefEqProofs:=false) only [go_sem,hc]
  exact ⟨by simp [useB],hf1.trans' hf2 (by simp)⟩
 by_cases k5:k=5
 ·subst k5
  simp (implicitDefEqProofs:=false) only [go_sem,c62]
  refine NewP_intro fun H1 hn1 hf1 hs1=>?_
  simp (implicitDefEqProofs:=false) only [go_sem]
  refine Sto_all hn1 rfl (by simp [Value.oneCell']) fun H2 hn2 hf2 hs2=>?_
  have hc:=hn2.cell
  simp (implicitDefEqProofs:=false) only [go_sem,hc]
  exact ⟨by simp [useB],hf1.trans' hf2 (by simp)⟩
 by_cases k6:k=6
 ·subst k6
  simp (implicitDefEqProofs:=false) only [go_sem,c62]
  refine NewP_intro fun H1 hn1 hf1 hs1=>?_
  simp (implicitDefEqProofs:=false) only [go_sem]
  refine Sto_all hn1 rfl (by simp [Value.oneCell']) fun H2 hn2 hf2 hs2=>?_
  have hc:=hn2.cell
  simp (implicitDefEqProofs:=false) only [go_sem,hc]
  exact ⟨by simp [useB],hf1.trans' hf2 (by simp)⟩
 by_cases k7:k=7
 ·subst k7
  simp (implicitDefEqProofs:=false) only [go_sem,c62]
  refine NewP_intro fun H1 hn1 hf1 hs1=>?_
  simp (implicitDefEqProofs:=false) only [go_sem]
  refine Sto_all hn1 rfl (by simp [Value.oneCell']) fun H2 hn2 hf2 hs2=>?_
  have hc:=hn2.cell
  simp (implicitDefEqProofs:=false) only [go_sem,hc]
  exact ⟨by simp [useB],hf1.trans' hf2 (by simp)⟩
 by_cases k8:k=8
 ·subst k8
  simp (implicitDefEqProofs:=false) only [go_sem,c62]
  refine NewP_intro fun H1 hn1 hf1 hs1=>?_
  simp (implicitDefEqProofs:=false) only [go_sem]
  refine Sto_all hn1 rfl (by simp [Value.oneCell']) fun H2 hn2 hf2 hs2=>?_
  have hc:=hn2.cell
  simp (implicitDefEqProofs:=false) only [go_sem,hc]
  exact ⟨by simp [useB],hf1.trans' hf2 (by simp)⟩
 ·simp (implicitDefEqProofs:=false) only [go_sem,c62,k1,k2,k3,k4,k5,k6,k7,k8]
  refine NewP_intro fun H1 hn1 hf1 hs1=>?_
  simp (implicitDefEqProofs:=false) only [go_sem,k1,k2,k3,k4,k5,k6,k7,k8]
  refine Sto_all hn1 rfl (by simp [Value.oneCell']) fun H2 hn2 hf2 hs2=>?_
  have hc:=hn2.cell
  simp (implicitDefEqProofs:=false) only [go_sem,hc]
  refine ⟨?_,hf1.trans' hf2 (by simp)⟩
  have:useB k=[false,false,false,false,false,false,false,false,false,false]:=by
   unfold useB
   split <;> first | rfl | (exfalso; omega)
  rw [this]; rfl
theorem useB_len (k:Int):(useB k).length=10:=by unfold useB; split <;> rfl
theorem fit_take:∀ (hs us:List Bool) (i:Nat) (h:i < hs.length) (h':i < us.length),fitB (hs.take (i + 1)) (us.take (i + 1))=(fitB (hs.take i) (us.take i) && (!hs[i] || us[i]))
 | a :: hs,b :: us,0,_,_=>by simp [fitB]
 | a :: hs,b :: us,i + 1,h,h'=>by
   have ih:=fit_take hs us i (by simpa using h) (by simpa using h')
   simp only [List.take_succ_cons,fitB,List.getElem_cons_succ,Bool.and_assoc] at ih ⊢
   rw [ih]
 | [],_,_,h,_=>by simp at h
 | _ :: _,[],_,_,h=>by simp at h
theorem fit_false:∀ (hs us:List Bool) (i:Nat) (h:i < hs.length) (h':i < us.length),hs[i]=true→us[i]=false→fitB hs us=false
 | a :: hs,b :: us,0,_,_,h1,h2=>by
   simp only [List.getElem_cons_zero] at h1 h2
   simp [fitB,h1,h2]
 | a :: hs,b :: us,i + 1,h,h',h1,h2=>by
   have ih:=fit_false hs us i (by simpa using h) (by simpa using h') (by simpa using h1) (by simpa using h2)
   simp [fitB,ih]
 | [],_,_,h,_,_,_=>by simp at h
 | _ :: _,[],_,_,h,_,_=>by simp at h
set_option maxHeartbeats 4000000 in
theorem shape_ok {m:Msg} {H:Heap} {M:List Nat} {cs:List Value} (h:Rep H M (datT tMsg m.tup) cs):HCalls Tryz.prog 29 #[.agg cs.toArray] H fun v H'=>v= .bool (formB m)∧Fr [] H H':=by
 obtain ⟨a_reads,c_reads,a_base,c_base,a_state,c_state,a_acks,c_acks,a_proof,c_proof,a_digests,c_digests,a_objects,c_objects,a_items,c_items,rfl,h_reads,h_base,h_state,h_acks,h_proof,h_digests,h_objects,h_items⟩:=msg_open h
 refine calls_of_vc (args:=[_]) Tryz.func29 c29ok (Nat.le_of_ble_eq_true rfl) ?_
 simp (implicitDefEqProofs:=false) only [go_sem,c29]
 refine NewP_intro fun H1 hn1 hf1 hs1=>?_
 have hc:=hn1.cell
 have hbad:headB m=false→formB m=false:=by intro h; simp [formB,h]
 by_cases k0:m.kind < 1
 ·rw [hbad (by simp [headB]; omega)]
  simp (implicitDefEqProofs:=false) only [go_sem,hc,k0]
  exact hf1
 by_cases k1:8 < m.kind
 ·rw [hbad (by simp [headB]; omega)]
  simp (implicitDefEqProofs:=false) only [go_sem,hc,k0,k1]
  exact hf1
 by_cases f0:m.src < 0
 ·rw [hbad (by simp [headB]; omega)]
  simp (implicitDefEqProofs:=false) only [go_sem,hc,k0,k1,f0]
  exact hf1
 by_cases f1:63 < m.src
 ·rw [hbad (by simp [headB]; omega)]
  simp (implicitDefEqProofs:=false) only [go_sem,hc,k0,k1,f0,f1]
  exact hf1
 by_cases t0:m.dst < 0
 ·rw [hbad (by simp [headB]; omega)]
  simp (implicitDefEqProofs:=false) only [go_sem,hc,k0,k1,f0,f1,t0]
  exact hf1
 by_cases t1:63 < m.dst
 ·rw [hbad (by simp [headB]; omega)]
  simp (implicitDefEqProofs:=false) only [go_sem,hc,k0,k1,f0,f1,t0,t1]
  exact hf1
 have hhead:headB m=true:=by simp [headB]; omega
 simp (implicitDefEqProofs:=false) only [go_sem,hc,k0,k1,f0,f1,t0,t1]
 refine NewP_intro fun H2 hn2 hf2 hs2=>?_
 have hc2:=(hn1.ext hf2).cell
 simp (implicitDefEqProofs:=false) only [go_sem,hc2]
 refine Sto_all hn2 rfl (by simp [Value.oneCell']) fun H3 hn3 hf3 hs3=>?_
 have hr:(decide (m.round.1=0) && (decide (m.round.2.1=0) && decide (m.round.2.2=0)))=decide (m.round=(0,0,0)):=by
  obtain ⟨r1,r2,r3⟩:=m.round
  by_cases h1:r1=0 <;> by_cases h2:r2=0 <;> by_cases h3:r3=0 <;> simp [h1,h2,h3]
 have e_reads:decide (0 < (m.reads.length:Int))=decide (0 < m.reads.length):=decide_eq_decide.2 (by omega)
 have e_base:decide (0 < (m.base.length:Int))=decide (0 < m.base.length):=decide_eq_decide.2 (by omega)
 have e_state:decide (0 < (m.state.length:Int))=decide (0 < m.state.length):=decide_eq_decide.2 (by omega)
 have e_acks:decide (0 < (m.acks.length:Int))=decide (0 < m.acks.length):=decide_eq_decide.2 (by omega)
 have e_proof:decide (0 < (m.proof.length:Int))=decide (0 < m.proof.length):=decide_eq_decide.2 (by omega)
 have e_digests:decide (0 < (m.digests.length:Int))=decide (0 < m.digests.length):=decide_eq_decide.2 (by omega)
 have e_objects:decide (0 < (m.objects.length:Int))=decide (0 < m.objects.length):=decide_eq_decide.2 (by omega)
 have e_items:decide (0 < (m.items.length:Int))=decide (0 < m.items.length):=decide_eq_decide.2 (by omega)
 have hH:Blk H3 H1.size 114 ((hasB m).map Value.bool):=by
  rw [hr,e_reads,e_base,e_state,e_acks,e_proof,e_digests,e_objects,e_items] at hn3
  simp only [hasB,List.map_cons,List.map_nil,ne_eq,decide_not]
  exact hn3
 clear hn3
 have hm3:=(hn1.ext hf2).fr hf3 (by simp; omega)
 have hc3:=hm3.cell
 have hF3:Fr [] H H3:=(hf1.trans hf2).trans' hf3 (by simp; omega)
 simp (implicitDefEqProofs:=false) only [go_sem,hc3]
 refine (fuses_ok m.kind H3).mono ?_
 rintro v H4 ⟨rfl,hf4⟩
 simp (implicitDefEqProofs:=false) only [go_sem]
 refine NewP_intro fun H5 hn5 hf5 hs5=>?_
 have hlu:=useB_len m.kind
 have hlh:(hasB m).length=10:=rfl
 simp (implicitDefEqProofs:=false) only [go_sem,hlu,List.length_map]
 refine Sto_all hn5 (by simp [hlu]) (by intro v hv; simp only [List.mem_map] at hv; obtain ⟨b,_,rfl⟩:=hv; rfl) fun H6 hn6 hf6 hs6=>?_
 have hf46:=new_fr hf5 hf6
 have hm6:=(hm3.ext hf4).ext hf46
 have hH6:=(hH.ext hf4).ext hf46
 have hF6:=(hF3.trans hf4).trans hf46
 generalize hgh:hasB m=hl at *
 generalize hgu:useB m.kind=ul at *
 have hform:formB m=(fitB hl ul && countB m):=by simp [formB,hhead,hgh,hgu]
 simp (implicitDefEqProofs:=false) only [go_sem]
 refine vc_loop (fun (i:Nat) H'=>i≤10∧fitB (hl.take i) (ul.take i)=true∧H'=H6) (fun i=>[(1,.pointer (some ⟨H.size,0,none⟩)),(2,.bool false),(3,.pointer (some ⟨H1.size,0,none⟩)),(4,.pointer (some ⟨H4.size,0,none⟩)),(5,.int .i64 i)]) (fun i=>10 - i) 0 ?_ ?_ ?_
 ·exact ⟨by omega,by simp [fitB],rfl⟩
 ·simp (implicitDefEqProofs:=false) only [go_sem]
 ·rintro i H' ⟨hi,hfit,rfl⟩
  rcases Nat.lt_or_ge i 10 with hlt | hge
  ·have hi1:(i:Int) < 10:=by omega
   have hi0:(0:Int)≤(i:Int):=by omega
   have hw1:=succ_i64 i 10 hlt (by omega)
   have g1:cellB H' H1.size i=some (.bool hl[i]):=by rw [hH6.cell,List.getElem?_map,List.getElem?_eq_getElem (by omega)]; rfl
   have g2:cellB H' H4.size i=some (.bool ul[i]):=by rw [hn6.cell,List.getElem?_map,List.getElem?_eq_getElem (by omega)]; rfl
   have ht:=fit_take hl ul i (by omega) (by omega)
   cases e1:hl[i] with
   | false=>
     rw [e1] at g1 ht
     simp (implicitDefEqProofs:=false) only [go_sem,hi1,hi0,g1]
     refine loopK_intro (i + 1) (by show 10 - (i + 1) < 10 - i; omega) ?_ ⟨hlt,by rw [ht,hfit]; rfl,rfl⟩
     simp (implicitDefEqProofs:=false) only [go_sem,hw1]
   | true=>
     rw [e1] at g1 ht
     cases e2:ul[i] with
     | true=>
       rw [e2] at g2 ht
       simp (implicitDefEqProofs:=false) only [go_sem,hi1,hi0,g1,g2]
       refine loopK_intro (i + 1) (by show 10 - (i + 1) < 10 - i; omega) ?_ ⟨hlt,by rw [ht,hfit]; rfl,rfl⟩
       simp (implicitDefEqProofs:=false) only [go_sem,hw1]
     | false=>
       rw [e2] at g2
       simp (implicitDefEqProofs:=false) only [go_sem,hi1,hi0,g1,g2]
       exact ⟨by rw [hform,fit_false hl ul i (by omega) (by omega) e1 e2]; rfl,hF6⟩
  ·have hi1:¬ (i:Int) < 10:=by omega
   rw [List.take_of_length_le (by omega),List.take_of_length_le (by omega)] at hfit
   rw [hform,hfit,Bool.true_and]
   have hc:=hm6.cell
   unfold countB
   by_cases k1:m.kind=1
   ·simp (implicitDefEqProofs:=false) only [go_sem,hi1,hc,k1]
    refine ⟨?_,hF6⟩
    congr 1; exact decide_eq_decide.2 (by omega)
   by_cases k2:m.kind=2
   ·by_cases l1:m.base.length≤1
    ·have l1':(m.base.length:Int)≤1:=by omega
     simp (implicitDefEqProofs:=false) only [go_sem,hi1,hc,k2,l1']
     refine ⟨?_,hF6⟩
     simp only [l1,decide_true,Bool.true_and]
     congr 1; exact decide_eq_decide.2 (by omega)
    ·have l1':¬ (m.base.length:Int)≤1:=by omega
     simp (implicitDefEqProofs:=false) only [go_sem,hi1,hc,k2,l1']
     refine ⟨?_,hF6⟩
     simp only [l1,decide_false,Bool.false_and]
   by_cases k3:m.kind=3
   ·simp (implicitDefEqProofs:=false) only [go_sem,hi1,hc,k3]
    refine ⟨?_,hF6⟩
    congr 1; exact decide_eq_decide.2 (by omega)
   by_cases k6:m.kind=6
   ·simp (implicitDefEqProofs:=false) only [go_sem,hi1,hc,k6]
    refine ⟨?_,hF6⟩
    congr 1; exact decide_eq_decide.2 (by omega)
   by_cases k7:m.kind=7
   ·simp (implicitDefEqProofs:=false) only [go_sem,hi1,hc,k7]
    refine ⟨?_,hF6⟩
    congr 1; exact decide_eq_decide.2 (by omega)
   by_cases k8:m.kind=8
   ·by_cases l1:m.proof.length=1
    ·have l1':(m.proof.length:Int)=1:=by omega
     by_cases l2:m.reads.length=1
     ·have l2':(m.reads.length:Int)=1:=by omega
      by_cases l3:m.seq=0
      ·simp (implicitDefEqProofs:=false) only [go_sem,hi1,hc,k8,l1',l2',l3]
       exact ⟨by simp [l1,l2,l3],hF6⟩
      ·simp (implicitDefEqProofs:=false) only [go_sem,hi1,hc,k8,l1',l2',l3]
       exact ⟨by simp [l1,l2,l3],hF6⟩
     ·have l2':¬ (m.reads.length:Int)=1:=by omega
      by_cases l3:m.reads.length=0
      ·have l3':(m.reads.length:Int)=0:=by omega
       by_cases l4:1≤m.seq
       ·simp (implicitDefEqProofs:=false) only [go_sem,hi1,hc,k8,l1',l2',l3',l4]
        exact ⟨by simp [l1,l2,l3,l4],hF6⟩
       ·simp (implicitDefEqProofs:=false) only [go_sem,hi1,hc,k8,l1',l2',l3',l4]
        exact ⟨by simp [l1,l2,l3,l4],hF6⟩
      ·have l3':¬ (m.reads.length:Int)=0:=by omega
       simp (implicitDefEqProofs:=false) only [go_sem,hi1,hc,k8,l1',l2',l3']
       exact ⟨by simp [l1,l2,l3],hF6⟩
    ·have l1':¬ (m.proof.length:Int)=1:=by omega
     simp (implicitDefEqProofs:=false) only [go_sem,hi1,hc,k8,l1']
     exact ⟨by simp [l1],hF6⟩
   ·simp (implicitDefEqProofs:=false) only [go_sem,hi1,hc,k1,k2,k3,k6,k7,k8]
    first | exact hF6 | exact ⟨rfl,hF6⟩
set_option maxHeartbeats 8000000 in
theorem fall_ok {m:Msg} {H:Heap} {cs:List Value} (h:Rep H [] (datT tMsg m.tup) cs) (hok:okM m) (hl:(encT tMsg m.tup).length < 2^37):HCalls Tryz.prog 34 #[.agg cs.toArray] H (Out H (encT tMsg m.tup)):=by
 obtain ⟨a_reads,c_reads,a_base,c_base,a_state,c_state,a_acks,c_acks,a_proof,c_proof,a_digests,c_digests,a_objects,c_objects,a_items,c_items,rfl,h_reads,h_base,h_state,h_acks,h_proof,h_digests,h_objects,h_items⟩:=msg_open h
 obtain ⟨o_kind,o_src,o_dst,o_round,o_reads,o_base,o_state,o_acks,o_proof,o_digests,o_objects,o_seq,o_items⟩:=hok
 have h_round:Rep H [] (datT tRound m.round) [.int .i64 m.round.1,.int .i64 m.round.2.1,.int .i64 m.round.2.2]:=msg_round
 refine calls_of_vc (args:=[_]) Tryz.func34 c34ok (Nat.le_of_ble_eq_true rfl) ?_
 simp (implicitDefEqProofs:=false) only [go_sem,c34]
 refine NewP_intro fun H1 hB hf1 hs1=>?_
 have cB:=hB.cell
 replace h_reads:=Rep.ext h_reads hf1
 replace h_base:=Rep.ext h_base hf1
 replace h_state:=Rep.ext h_state hf1
 replace h_acks:=Rep.ext h_acks hf1
 replace h_proof:=Rep.ext h_proof hf1
 replace h_digests:=Rep.ext h_digests hf1
 replace h_objects:=Rep.ext h_objects hf1
 replace h_items:=Rep.ext h_items hf1
 replace h_round:=Rep.ext h_round hf1
 have hE:encT tMsg m.tup=(encT .num m.kind ++ (encT .num m.src ++ (encT .num m.dst ++ (encT tRound m.round ++ (encT (.list tRead) m.reads ++ (encT (.list tBase) m.base ++ (encT (.list tCmd) m.state ++ (encT (.list tAck) m.acks ++ (encT (.list tProof) m.proof ++ (encT (.list tDigest) m.digests ++ (encT (.list .text) m.objects ++ (encT .num m.seq ++ (encT (.list tItem) m.items))))))))))))):=rfl
 rw [hE] at hl ⊢
 simp only [List.length_append] at hl
 simp (implicitDefEqProofs:=false) only [go_sem,cB]
 refine (finteger_ok m.kind o_kind (BsR.nil H1 none) (by simp)).mono ?_
 rintro v K144 ⟨a144,c144,g144,rfl,ho144,hg144,hf144⟩
 have hb144:=ho144.bsR
 have hF144:=hf1.trans hf144
 replace h_reads:=Rep.ext h_reads hf144
 replace h_base:=Rep.ext h_base hf144
 replace h_state:=Rep.ext h_state hf144
 replace h_acks:=Rep.ext h_acks hf144
 replace h_proof:=Rep.ext h_proof hf144
 replace h_digests:=Rep.ext h_digests hf144
 replace h_objects:=Rep.ext h_objects hf144
 replace h_items:=Rep.ext h_items hf144
 replace h_round:=Rep.ext h_round hf144
 replace hB:=hB.ext hf144
 replace cB:=hB.cell
 simp (implicitDefEqProofs:=false) only [go_sem,cB]
 refine (finteger_ok m.src o_src hb144 (by (try simp only [List.length_append,List.length_nil]); omega)).mono ?_
 rintro v K145 ⟨a145,c145,g145,rfl,ho145,hg145,hf145⟩
 have hb145:=ho145.bsR
 have hF145:=hF144.trans hf145
 replace h_reads:=Rep.ext h_reads hf145
 replace h_base:=Rep.ext h_base hf145
 replace h_state:=Rep.ext h_state hf145
 replace h_acks:=Rep.ext h_acks hf145
 replace h_proof:=Rep.ext h_proof hf145
 replace h_digests:=Rep.ext h_digests hf145
 replace h_objects:=Rep.ext h_objects hf145
 replace h_items:=Rep.ext h_items hf145
 replace h_round:=Rep.ext h_round hf145
 replace hB:=hB.ext hf145
 replace cB:=hB.cell
 simp (implicitDefEqProofs:=false) only [go_sem,cB]
 refine (finteger_ok m.dst o_dst hb145 (by (try simp only [List.length_append,List.length_nil]); omega)).mono ?_
 rintro v K146 ⟨a146,c146,g146,rfl,ho146,hg146,hf146⟩
 have hb146:=ho146.bsR
 have hF146:=hF145.trans hf146
 replace h_reads:=Rep.ext h_reads hf146
 replace h_base:=Rep.ext h_base hf146
 replace h_state:=Rep.ext h_state hf146
 replace h_acks:=Rep.ext h_acks hf146
 replace h_proof:=Rep.ext h_proof hf146
 replace h_digests:=Rep.ext h_digests hf146
 replace h_objects:=Rep.ext h_objects hf146
 replace h_items:=Rep.ext h_items hf146
 replace h_round:=Rep.ext h_round hf146
 replace hB:=hB.ext hf146
 replace cB:=hB.cell
 simp (implicitDefEqProofs:=false) only [go_sem,cB]
 refine (fround_ok m.round o_round hb146 h_round (by (try simp only [List.length_append,List.length_nil]); omega)).mono ?_
 rintro v K147 ⟨a147,c147,g147,rfl,ho147,hg147,hf147⟩
 have hb147:=ho147.bsR
 have hF147:=hF146.trans hf147
 replace h_reads:=Rep.ext h_reads hf147
 replace h_base:=Rep.ext h_base hf147
 replace h_state:=Rep.ext h_state hf147
 replace h_acks:=Rep.ext h_acks hf147
 replace h_proof:=Rep.ext h_proof hf147
 replace h_digests:=Rep.ext h_digests hf147
 replace h_objects:=Rep.ext h_objects hf147
 replace h_items:=Rep.ext h_items hf147
 replace h_round:=Rep.ext h_round hf147
 replace hB:=hB.ext hf147
 replace cB:=hB.cell
 simp (implicitDefEqProofs:=false) only [go_sem,cB]
 refine (freads_ok m.reads o_reads hb147 h_reads (by (try simp only [List.length_append,List.length_nil]); omega)).mono ?_
 rintro v K148 ⟨a148,c148,g148,rfl,ho148,hg148,hf148⟩
 have hb148:=ho148.bsR
 have hF148:=hF147.trans hf148
 replace h_reads:=Rep.ext h_reads hf148
 replace h_base:=Rep.ext h_base hf148
 replace h_state:=Rep.ext h_state hf148
 replace h_acks:=Rep.ext h_acks hf148
 replace h_proof:=Rep.ext h_proof hf148
 replace h_digests:=Rep.ext h_digests hf148
 replace h_objects:=Rep.ext h_objects hf148
 replace h_items:=Rep.ext h_items hf148
 replace h_round:=Rep.ext h_round hf148
 replace hB:=hB.ext hf148
 replace cB:=hB.cell
 simp (implicitDefEqProofs:=false) only [go_sem,cB]
 refine (fbases_ok m.base o_base hb148 h_base (by (try simp only [List.length_append,List.length_nil]); omega)).mono ?_
 rintro v K149 ⟨a149,c149,g149,rfl,ho149,hg149,hf149⟩
 have hb149:=ho149.bsR
 have hF149:=hF148.trans hf149
 replace h_reads:=Rep.ext h_reads hf149
 replace h_base:=Rep.ext h_base hf149
 replace h_state:=Rep.ext h_state hf149
 replace h_acks:=Rep.ext h_acks hf149
 replace h_proof:=Rep.ext h_proof hf149
 replace h_digests:=Rep.ext h_digests hf149
 replace h_objects:=Rep.ext h_objects hf149
 replace h_items:=Rep.ext h_items hf149
 replace h_round:=Rep.ext h_round hf149
 replace hB:=hB.ext hf149
 replace cB:=hB.cell
 simp (implicitDefEqProofs:=false) only [go_sem,cB]
 refine (fcommands_ok m.state o_state hb149 h_state (by (try simp only [List.length_append,List.length_nil]); omega)).mono ?_
 rintro v K150 ⟨a150,c150,g150,rfl,ho150,hg150,hf150⟩
 have hb150:=ho150.bsR
 have hF150:=hF149.trans hf150
 replace h_reads:=Rep.ext h_reads hf150
 replace h_base:=Rep.ext h_base hf150
 replace h_state:=Rep.ext h_state hf150
 replace h_acks:=Rep.ext h_acks hf150
 replace h_proof:=Rep.ext h_proof hf150
 replace h_digests:=Rep.ext h_digests hf150
 replace h_objects:=Rep.ext h_objects hf150
 replace h_items:=Rep.ext h_items hf150
 replace h_round:=Rep.ext h_round hf150
 replace hB:=hB.ext hf150
 replace cB:=hB.cell
 simp (implicitDefEqProofs:=false) only [go_sem,cB]
 refine (facks_ok m.acks o_acks hb150 h_acks (by (try simp only [List.length_append,List.length_nil]); omega)).mono ?_
 rintro v K151 ⟨a151,c151,g151,rfl,ho151,hg151,hf151⟩
 have hb151:=ho151.bsR
 have hF151:=hF150.trans hf151
 replace h_reads:=Rep.ext h_reads hf151
 replace h_base:=Rep.ext h_base hf151
 replace h_state:=Rep.ext h_state hf151
 replace h_acks:=Rep.ext h_acks hf151
 replace h_proof:=Rep.ext h_proof hf151
 replace h_digests:=Rep.ext h_digests hf151
 replace h_objects:=Rep.ext h_objects hf151
 replace h_items:=Rep.ext h_items hf151
 replace h_round:=Rep.ext h_round hf151
 replace hB:=hB.ext hf151
 replace cB:=hB.cell
 simp (implicitDefEqProofs:=false) only [go_sem,cB]
 refine (fproofs_ok m.proof o_proof hb151 h_proof (by (try simp only [List.length_append,List.length_nil]); omega)).mono ?_
 rintro v K152 ⟨a152,c152,g152,rfl,ho152,hg152,hf152⟩
 have hb152:=ho152.bsR
 have hF152:=hF151.trans hf152
 replace h_reads:=Rep.ext h_reads hf152
 replace h_base:=Rep.ext h_base hf152
 replace h_state:=Rep.ext h_state hf152
 replace h_acks:=Rep.ext h_acks hf152
 replace h_proof:=Rep.ext h_proof hf152
 replace h_digests:=Rep.ext h_digests hf152
 replace h_objects:=Rep.ext h_objects hf152
 replace h_items:=Rep.ext h_items hf152
 replace h_round:=Rep.ext h_round hf152
 replace hB:=hB.ext hf152
 replace cB:=hB.cell
 simp (implicitDefEqProofs:=false) only [go_sem,cB]
 refine (fdigests_ok m.digests o_digests hb152 h_digests (by (try simp only [List.length_append,List.length_nil]); omega)).mono ?_
 rintro v K153 ⟨a153,c153,g153,rfl,ho153,hg153,hf153⟩
 have hb153:=ho153.bsR
 have hF153:=hF152.trans hf153
 replace h_reads:=Rep.ext h_reads hf153
 replace h_base:=Rep.ext h_base hf153
 replace h_state:=Rep.ext h_state hf153
 replace h_acks:=Rep.ext h_acks hf153
 replace h_proof:=Rep.ext h_proof hf153
 replace h_digests:=Rep.ext h_digests hf153
 replace h_objects:=Rep.ext h_objects hf153
 replace h_items:=Rep.ext h_items hf153
 replace h_round:=Rep.ext h_round hf153
 replace hB:=hB.ext hf153
 replace cB:=hB.cell
 simp (implicitDefEqProofs:=false) only [go_sem,cB]
 refine (fobjects_ok m.objects o_objects hb153 h_objects (by (try simp only [List.length_append,List.length_nil]); omega)).mono ?_
 rintro v K154 ⟨a154,c154,g154,rfl,ho154,hg154,hf154⟩
 have hb154:=ho154.bsR
 have hF154:=hF153.trans hf154
 replace h_reads:=Rep.ext h_reads hf154
 replace h_base:=Rep.ext h_base hf154
 replace h_state:=Rep.ext h_state hf154
 replace h_acks:=Rep.ext h_acks hf154
 replace h_proof:=Rep.ext h_proof hf154
 replace h_digests:=Rep.ext h_digests hf154
 replace h_objects:=Rep.ext h_objects hf154
 replace h_items:=Rep.ext h_items hf154
 replace h_round:=Rep.ext h_round hf154
 replace hB:=hB.ext hf154
 replace cB:=hB.cell
 simp (implicitDefEqProofs:=false) only [go_sem,cB]
 refine (finteger_ok m.seq o_seq hb154 (by (try simp only [List.length_append,List.length_nil]); omega)).mono ?_
 rintro v K155 ⟨a155,c155,g155,rfl,ho155,hg155,hf155⟩
 have hb155:=ho155.bsR
 have hF155:=hF154.trans hf155
 replace h_reads:=Rep.ext h_reads hf155
 replace h_base:=Rep.ext h_base hf155
 replace h_state:=Rep.ext h_state hf155
 replace h_acks:=Rep.ext h_acks hf155
 replace h_proof:=Rep.ext h_proof hf155
 replace h_digests:=Rep.ext h_digests hf155
 replace h_objects:=Rep.ext h_objects hf155
 replace h_items:=Rep.ext h_items hf155
 replace h_round:=Rep.ext h_round hf155
 replace hB:=hB.ext hf155
 replace cB:=hB.cell
 simp (implicitDefEqProofs:=false) only [go_sem,cB]
 refine (fitems_ok m.items o_items hb155 h_items (by (try simp only [List.length_append,List.length_nil]); omega)).mono ?_
 rintro v K156 ⟨a156,c156,g156,rfl,ho156,hg156,hf156⟩
 have hb156:=ho156.bsR
 have hF156:=hF155.trans hf156
 replace h_reads:=Rep.ext h_reads hf156
 replace h_base:=Rep.ext h_base hf156
 replace h_state:=Rep.ext h_state hf156
 replace h_acks:=Rep.ext h_acks hf156
 replace h_proof:=Rep.ext h_proof hf156
 replace h_digests:=Rep.ext h_digests hf156
 replace h_objects:=Rep.ext h_objects hf156
 replace h_items:=Rep.ext h_items hf156
 replace h_round:=Rep.ext h_round hf156
 replace hB:=hB.ext hf156
 replace cB:=hB.cell
 simp (implicitDefEqProofs:=false) only [go_sem,cB]
 have hv:(((((((((((((([]:Bs) ++ encT .num m.kind) ++ encT .num m.src) ++ encT .num m.dst) ++ encT tRound m.round) ++ encT (.list tRead) m.reads) ++ encT (.list tBase) m.base) ++ encT (.list tCmd) m.state) ++ encT (.list tAck) m.acks) ++ encT (.list tProof) m.proof) ++ encT (.list tDigest) m.digests) ++ encT (.list .text) m.objects) ++ encT .num m.seq) ++ encT (.list tItem) m.items)=(encT .num m.kind ++ (encT .num m.src ++ (encT .num m.dst ++ (encT tRound m.round ++ (encT (.list tRead) m.reads ++ (encT (.list tBase) m.base ++ (encT (.list tCmd) m.state ++ (encT (.list tAck) m.acks ++ (encT (.list tProof) m.proof ++ (encT (.list tDigest) m.digests ++ (encT (.list .text) m.objects ++ (encT .num m.seq ++ (encT (.list tItem) m.items))))))))))))):=by simp
 have ho:=ho156
 rw [hv] at ho
 refine ⟨_,_,_,?_,ho,fun x hx=>Nat.le_trans hF155.size (hg156 x hx),hF156⟩
 simp
theorem fequal_ok {m m':Msg} {H:Heap} {cs cs':List Value} (h:Rep H [] (datT tMsg m.tup) cs) (h':Rep H [] (datT tMsg m'.tup) cs') (hok:okM m) (hok':okM m') (hl:(encT tMsg m.tup).length < 2^37) (hl':(encT tMsg m'.tup).length < 2^37) :
 HCalls Tryz.prog 21 #[.agg cs.toArray,.agg cs'.toArray] H fun v H'=>v= .bool (eqB m m')∧Fr [] H H':=by
 have g:=h
 have g':=h'
 obtain ⟨a_reads,c_reads,a_base,c_base,a_state,c_state,a_acks,c_acks,a_proof,c_proof,a_digests,c_digests,a_objects,c_objects,a_items,c_items,hcs,h_reads,h_base,h_state,h_acks,h_proof,h_digests,h_objects,h_items⟩:=msg_open h
 obtain ⟨aa_reads,cc_reads,aa_base,cc_base,aa_state,cc_state,aa_acks,cc_acks,aa_proof,cc_proof,aa_digests,cc_digests,aa_objects,cc_objects,aa_items,cc_items,hcs',hh_reads,hh_base,hh_state,hh_acks,hh_proof,hh_digests,hh_objects,hh_items⟩:=msg_open h'
 refine calls_of_vc (args:=[_,_]) Tryz.func21 c21ok (Nat.le_of_ble_eq_true rfl) ?_
 simp (implicitDefEqProofs:=false) only [go_sem,c21,hcs,hcs']
 refine NewP_intro fun H1 hn1 hf1 hs1=>?_
 simp (implicitDefEqProofs:=false) only [go_sem]
 refine NewP_intro fun H2 hn2 hf2 hs2=>?_
 have hf12:=hf1.trans hf2
 have hm1:=hn1.ext hf2
 have hc1:=hm1.cell
 have hc2:=hn2.cell
 simp (implicitDefEqProofs:=false) only [go_sem,hc1,hc2]
 rw [← hcs,← hcs']
 refine (fall_ok (Rep.ext g hf12) hok hl).mono ?_
 rintro v H3 ⟨a3,c3,g3,rfl,ho3,hg3,hf3⟩
 have hb3:=ho3.bsR.b2s c3
 have hc23:=(hn2.ext hf3).cell
 simp (implicitDefEqProofs:=false) only [go_sem,hb3,hc23]
 rw [← hcs']
 refine ⟨rfl,?_⟩
 refine (fall_ok (Rep.ext g' (hf12.trans hf3)) hok' hl').mono ?_
 rintro v H4 ⟨a4,c4,g4,rfl,ho4,hg4,hf4⟩
 have hb4:=ho4.bsR.b2s c4
 have hb34:=(ho3.bsR.ext hf4).b2s c3
 simp (implicitDefEqProofs:=false) only [go_sem,hb4,hb34,str_inj]
 refine ⟨?_,(hf12.trans hf3).trans hf4⟩
 congr 1
 by_cases e:m=m'
 ·subst e; rw [eqB_true rfl]; simp
 ·rw [eqB_false e]
  simp only [decide_eq_false_iff_not]
  intro hh
  exact e (tup_inj (encT_inj hok hok' (by omega) hh))
end Go.Proofs.YtdhlibkdcldioaaGreat
end
