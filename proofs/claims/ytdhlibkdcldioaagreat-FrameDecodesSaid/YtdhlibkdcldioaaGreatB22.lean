import Derived.Test.YtdhlibkdcldioaaGreatB16
import Derived.Test.YtdhlibkdcldioaaGreatB13
import Derived.Test.YtdhlibkdcldioaaGreatB18
section
set_option linter.unusedSimpArgs false
set_option linter.unusedVariables false
set_option maxRecDepth 8000
namespace Go.Proofs.YtdhlibkdcldioaaGreat
open Gx Go
def Out (H:Heap) (L:List UInt8) (v:Value) (H':Heap):Prop:=
 ∃ a c g,v= .slice a L.length c∧Own H' 5 1 (.slice a L.length c) L.length (L.map bv) g∧(∀ k,g=some k→H.size≤k)∧Fr [] H H'
theorem Out.of {H H':Heap} {L:List UInt8} {a:Option Addr} {n c:Nat} {xs:List Value} {g:Option Nat} (hn:n=L.length) (hx:xs=L.map bv) (ho:Own H' 5 1 (.slice a n c) n xs g) (hg:∀ k,g=some k→H.size≤k) (hf:Fr [] H H'):Out H L (.slice a n c) H':=by
 subst hn; subst hx
 exact ⟨a,c,g,rfl,ho,hg,hf⟩
theorem rem128 (n:Nat) (h:n < 2^64):IntKind.u8.wrap (IntKind.u8.wrap ((n:Int).tmod 128) + 128)=((UInt8.ofNat (n % 128 + 128)).toNat:Int):=by
 rw [Int.tmod_eq_emod_of_nonneg (by omega),wrap_u8_id ((n:Int) % 128) (by omega) (by omega),wrap_u8_id _ (by omega) (by omega),u8_of _ (by omega)]; omega
theorem app_fr {H H' H3 H4:Heap} {g' g4:Option Nat} (hfr:Fr [] H H') (hg:∀ k,g'=some k→H.size≤k) (hf3:Fr [] H' H3) (hf4:Fr g'.toList H3 H4) (hg4:∀ b,g4=some b→g'=some b∨H3.size≤b) :
 Fr [] H H4∧∀ k,g4=some k→H.size≤k:=by
 refine ⟨(hfr.trans hf3).trans' hf4 (fun k hk=>.inr (hg k (by simpa using hk))),fun k hk=>?_⟩
 rcases hg4 k hk with q | q
 ·exact hg k q
 ·exact Nat.le_trans (hfr.trans hf3).size q
theorem fuint_ok (n:Nat) (hn:n < 2^64) {H:Heap} {a:Option Addr} {c:Nat} {l:List UInt8} (h:BsR H a l) (hl:l.length < 2^38) :
 HCalls Tryz.prog 116 #[.slice a l.length c,.int .u64 n] H (Out H (l ++ enc n)):=by
 refine calls_of_vc (args:=[_,_]) Tryz.func116 c116ok (Nat.le_of_ble_eq_true rfl) ?_
 simp (implicitDefEqProofs:=false) only [go_sem,c116]
 refine NewS_intro fun H1 hn1 hf1 hs1=>?_
 simp (implicitDefEqProofs:=false) only [go_sem]
 refine App_own EB (Own.of_blk hn1 (by simp) (by decide)) ((h.ext hf1).src Tryz.underlying22) (by unfold maxLen; omega) (by omega) fun a2 c2 H2 g2 ho2 hf2 hg2=>?_
 have h12:Fr [] H H2:=hf1.trans' hf2 (by simp)
 have hq2:∀ k,g2=some k→H.size≤k:=by
  intro k hk
  rcases hg2 k hk with q | q
  ·simp at q; omega
  ·have:=hf1.size; omega
 simp (implicitDefEqProofs:=false) only [go_sem]
 refine vc_loop (fun ((m,f,p,a',c',g'):Nat × Nat × List UInt8 × Option Addr × Nat × Option Nat) H'=>m < 2^64∧m < 128^f∧1≤f∧p.length + f≤10∧p ++ encF f m=encF 10 n∧
  Own H' 5 1 (.slice a' (l ++ p).length c') (l ++ p).length ((l ++ p).map bv) g'∧(∀ k,g'=some k→H.size≤k)∧Fr [] H H')
  (fun (m,_,p,a',c',_)=>[(1,.int .u64 m),(5,.slice a' (l ++ p).length c')]) (fun (m,_)=>m) (n,10,[],a2,c2,g2) ?_ ?_ ?_
 ·refine ⟨hn,Nat.lt_of_lt_of_le hn (by decide),by decide,by simp,by simp,by simpa using ho2,hq2,h12⟩
 ·simp (implicitDefEqProofs:=false) only [go_sem]
 ·rintro ⟨m,f,p,a',c',g'⟩ H' ⟨h1,h2,h3,h4,h5,ho,hg,hfr⟩
  have hlen:(l ++ p).length < 2^39:=by simp; omega
  by_cases hm:128≤m
  ·have hm':(128:Int)≤(m:Int):=by omega
   simp (implicitDefEqProofs:=false) only [go_sem,hm',rem128 m h1]
   refine NewS_intro fun H3 hn3 hf3 hs3=>?_
   simp (implicitDefEqProofs:=false) only [go_sem]
   refine App_own EB (ho.fr hf3 (by simp)) (SrcH.blk Tryz.underlying22 hn3 (by simp) (by simp [Value.oneCell'])) (by unfold maxLen; omega) (by omega) fun a4 c4 H4 g4 ho4 hf4 hg4=>?_
   obtain ⟨hfr4,hgr4⟩:=app_fr hfr hg hf3 hf4 hg4
   have hdv:IntKind.u64.wrap ((m:Int).tdiv 128)=((m / 128:Nat):Int):=by rw [Int.tdiv_eq_ediv_of_nonneg (by omega),wrap_u64_id _ (by omega) (by omega)]; omega
   have hf:f=(f - 1) + 1:=by omega
   simp (implicitDefEqProofs:=false) only [go_sem,hdv]
   refine loopK_intro (m / 128,f - 1,p ++ [UInt8.ofNat (m % 128 + 128)],a4,c4,g4) (by show m / 128 < m; omega) ?_ ?_
   ·simp (implicitDefEqProofs:=false) only [go_sem]
    simp [Nat.add_assoc]
   ·refine ⟨by show m / 128 < _; omega,?_,?_,?_,?_,by simpa [bv,Nat.add_assoc] using ho4,hgr4,hfr4⟩
    ·show m / 128 < 128 ^ (f - 1)
     rw [hf,Nat.pow_succ] at h2; omega
    ·show 1≤f - 1
     rcases Nat.lt_or_ge 1 f with h | h
     ·omega
     ·have:f=1:=by omega
      rw [this] at h2; omega
    ·simp; omega
    ·show (p ++ [UInt8.ofNat (m % 128 + 128)]) ++ encF (f - 1) (m / 128)=_
     rw [← h5,hf]
     simp [encF,show ¬ m < 128 by omega]
  ·have hm':¬ (128:Int)≤(m:Int):=by omega
   simp (implicitDefEqProofs:=false) only [go_sem,hm',wrap_u8_lt m (by omega)]
   refine NewS_intro fun H3 hn3 hf3 hs3=>?_
   simp (implicitDefEqProofs:=false) only [go_sem]
   refine App_own EB (ho.fr hf3 (by simp)) (SrcH.blk Tryz.underlying22 hn3 (by simp) (by simp [Value.oneCell'])) (by unfold maxLen; omega) (by omega) fun a4 c4 H4 g4 ho4 hf4 hg4=>?_
   obtain ⟨hfr4,hgr4⟩:=app_fr hfr hg hf3 hf4 hg4
   simp (implicitDefEqProofs:=false) only [go_sem]
   have hf:f=(f - 1) + 1:=by omega
   have e:l ++ enc n=(l ++ p) ++ [UInt8.ofNat m]:=by
    rw [enc,← h5,hf]; simp [encF,show m < 128 by omega]
   rw [e]
   exact Out.of (by simp [Nat.add_assoc]) (by simp [bv]) ho4 hgr4 hfr4
theorem fint_ok (n:Int) (hn:-2^63≤n) (hn':n < 2^63) {H:Heap} {a:Option Addr} {c:Nat} {l:List UInt8} (h:BsR H a l) (hl:l.length < 2^38) :
 HCalls Tryz.prog 115 #[.slice a l.length c,.int .i64 n] H (Out H (l ++ enc (zig n))):=by
 refine calls_of_vc (args:=[_,_]) Tryz.func115 c115ok (Nat.le_of_ble_eq_true rfl) ?_
 have hz:=zig_lt n hn hn'
 by_cases h0:0≤n
 ·have hzz:IntKind.u64.wrap (2 * IntKind.u64.wrap n)=((zig n:Nat):Int):=by
   rw [wrap_u64_id n (by omega) (by omega),wrap_u64_id _ (by omega) (by omega)]; unfold zig; rw [if_pos h0]; omega
  simp (implicitDefEqProofs:=false) only [go_sem,c115,h0,hzz]
  refine (fuint_ok (zig n) hz h hl).mono ?_
  intro v H1 hv
  simp (implicitDefEqProofs:=false) only [go_sem]
  exact hv
 ·have hzz:IntKind.u64.wrap (IntKind.u64.wrap (2 * IntKind.u64.wrap (IntKind.i64.wrap (0 - IntKind.i64.wrap (n + 1)))) + 1)=((zig n:Nat):Int):=by
   rw [wrap_i64_id (n + 1) (by omega) (by omega),wrap_i64_id _ (by omega) (by omega),wrap_u64_id (0 - (n + 1)) (by omega) (by omega),wrap_u64_id (2 * (0 - (n + 1))) (by omega) (by omega),wrap_u64_id _ (by omega) (by omega)]
   unfold zig; rw [if_neg h0]; omega
  simp (implicitDefEqProofs:=false) only [go_sem,c115,h0,hzz]
  refine (fuint_ok (zig n) hz h hl).mono ?_
  intro v H1 hv
  simp (implicitDefEqProofs:=false) only [go_sem]
  exact hv
theorem fbool_ok (x:Bool) {H:Heap} {a:Option Addr} {c:Nat} {l:List UInt8} (h:BsR H a l) (hl:l.length < 2^38) :
 HCalls Tryz.prog 121 #[.slice a l.length c,.bool x] H (Out H (l ++ [if x then 1 else 0])):=by
 refine calls_of_vc (args:=[_,_]) Tryz.func121 c121ok (Nat.le_of_ble_eq_true rfl) ?_
 cases x
 all_goals
  simp (implicitDefEqProofs:=false) only [go_sem,c121]
  refine NewS_intro fun H1 hn1 hf1 hs1=>?_
  simp (implicitDefEqProofs:=false) only [go_sem]
  refine App_own EB (Own.of_blk hn1 (by simp) (by decide)) ((h.ext hf1).src Tryz.underlying22) (by unfold maxLen; omega) (by omega) fun a2 c2 H2 g2 ho2 hf2 hg2=>?_
  rw [Nat.zero_add,List.nil_append] at ho2
  obtain ⟨h12,hq2⟩:=app_fr hf1 (g':=some H.size) (by simp) (Fr.refl _ _) hf2 hg2
  simp (implicitDefEqProofs:=false) only [go_sem]
  refine NewS_intro fun H3 hn3 hf3 hs3=>?_
  simp (implicitDefEqProofs:=false) only [go_sem]
  refine App_own EB (ho2.fr hf3 (by simp)) (SrcH.blk Tryz.underlying22 hn3 (by simp) (by simp [Value.oneCell'])) (by unfold maxLen; omega) (by omega) fun a4 c4 H4 g4 ho4 hf4 hg4=>?_
  obtain ⟨hfr4,hgr4⟩:=app_fr h12 hq2 hf3 hf4 hg4
  simp (implicitDefEqProofs:=false) only [go_sem]
  exact Out.of (by simp [Nat.add_assoc]) (by simp [bv]) ho4 hgr4 hfr4
theorem fbytes_ok (x:List UInt8) {H:Heap} {a ax:Option Addr} {c cx:Nat} {l:List UInt8} (h:BsR H a l) (hx:BsR H ax x) (hl:l.length + x.length < 2^38) :
 HCalls Tryz.prog 117 #[.slice a l.length c,.slice ax x.length cx] H (Out H (l ++ (enc x.length ++ x))):=by
 refine calls_of_vc (args:=[_,_]) Tryz.func117 c117ok (Nat.le_of_ble_eq_true rfl) ?_
 have hw:IntKind.u64.wrap (x.length:Int)=((x.length:Nat):Int):=wrap_u64_id _ (by omega) (by omega)
 simp (implicitDefEqProofs:=false) only [go_sem,c117,hw]
 refine (fuint_ok x.length (by omega) h (by omega)).mono ?_
 rintro v H1 ⟨a1,c1,g1,rfl,ho1,hg1,hf1⟩
 have hle:=length_enc x.length
 simp (implicitDefEqProofs:=false) only [go_sem]
 refine App_own EB ho1 ((hx.ext hf1).src Tryz.underlying22) (by unfold maxLen; simp; omega) (by simp; omega) fun a2 c2 H2 g2 ho2 hf2 hg2=>?_
 obtain ⟨h12,hq2⟩:=app_fr hf1 hg1 (Fr.refl _ _) hf2 hg2
 simp (implicitDefEqProofs:=false) only [go_sem]
 exact Out.of (by simp [Nat.add_assoc]) (by simp) ho2 hq2 h12
theorem ftext_ok (x:List UInt8) {H:Heap} {a:Option Addr} {c:Nat} {l:List UInt8} (h:BsR H a l) (hl:l.length + x.length < 2^38) :
 HCalls Tryz.prog 118 #[.slice a l.length c,.string ⟨⟨x⟩⟩] H (Out H (l ++ (enc x.length ++ x))):=by
 refine calls_of_vc (args:=[_,_]) Tryz.func118 c118ok (Nat.le_of_ble_eq_true rfl) ?_
 have hs:ByteArray.size ⟨⟨x⟩⟩=x.length:=rfl
 have hw:IntKind.u64.wrap (x.length:Int)=((x.length:Nat):Int):=wrap_u64_id _ (by omega) (by omega)
 simp (implicitDefEqProofs:=false) only [go_sem,c118,hs,hw]
 refine (fuint_ok x.length (by omega) h (by omega)).mono ?_
 rintro v H1 ⟨a1,c1,g1,rfl,ho1,hg1,hf1⟩
 have hle:=length_enc x.length
 simp (implicitDefEqProofs:=false) only [go_sem]
 refine App_own EB ho1 (SrcH.str Tryz.underlying9 x) (by unfold maxLen; simp; omega) (by simp; omega) fun a2 c2 H2 g2 ho2 hf2 hg2=>?_
 obtain ⟨h12,hq2⟩:=app_fr hf1 hg1 (Fr.refl _ _) hf2 hg2
 simp (implicitDefEqProofs:=false) only [go_sem]
 exact Out.of (by simp [Nat.add_assoc]) (by simp [bv]) ho2 hq2 h12
end Go.Proofs.YtdhlibkdcldioaaGreat
end
section
set_option linter.unusedSimpArgs false
set_option linter.unusedVariables false
set_option maxRecDepth 8000
namespace Go.Proofs.YtdhlibkdcldioaaGreat
open Gx Go
def wv (x:W32):Value:=.int .u32 (x.toNat:Int)
theorem wrap_u32_id (x:Int) (h:0≤x) (h':x < 4294967296):IntKind.u32.wrap x=x:=by
 simp only [IntKind.wrap,IntKind.bits,IntKind.signed,Bool.false_and,Bool.false_eq_true,if_false]; omega
theorem wrap_u8_mod (n:Nat):IntKind.u8.wrap (n:Int)=((n % 256:Nat):Int):=by
 simp only [IntKind.wrap,IntKind.bits,IntKind.signed,Bool.false_and,Bool.false_eq_true,if_false]; omega
theorem xor_w (x y:W32):bits .xor .u32 (x.toNat:Int) (y.toNat:Int)=((x ^^^ y).toNat:Int):=by
 have hx:BitVec.ofInt 32 (x.toNat:Int)=x:=by apply BitVec.eq_of_toNat_eq; rw [BitVec.toNat_ofInt]; have:=x.isLt; omega
 have hy:BitVec.ofInt 32 (y.toNat:Int)=y:=by apply BitVec.eq_of_toNat_eq; rw [BitVec.toNat_ofInt]; have:=y.isLt; omega
 show IntKind.u32.wrap ((BitVec.ofInt 32 (x.toNat:Int) ^^^ BitVec.ofInt 32 (y.toNat:Int)).toNat:Int)=_
 rw [hx,hy,wrap_u32_id _ (by omega) (by have:=(x ^^^ y).isLt; omega)]
theorem and1_w (x:W32):bits .and .u32 (x.toNat:Int) 1=((x.toNat % 2:Nat):Int):=by
 have hx:BitVec.ofInt 32 (x.toNat:Int)=x:=by apply BitVec.eq_of_toNat_eq; rw [BitVec.toNat_ofInt]; have:=x.isLt; omega
 show IntKind.u32.wrap ((BitVec.ofInt 32 (x.toNat:Int) &&& BitVec.ofInt 32 1).toNat:Int)=_
 have h1:BitVec.ofInt 32 1=1#32:=by decide
 rw [hx,h1,BitVec.toNat_and]
 have:x.toNat &&& 1=x.toNat % 2:=Nat.and_one_is_mod _
 rw [show (1#32:W32).toNat=1 from rfl,this,wrap_u32_id _ (by omega) (by omega)]
theorem shr_u32 (n k:Nat) (hk:k≤32):shrI .u32 (n:Int) (k:Int)=((n / 2^k:Nat):Int):=by
 unfold shrI
 rw [show min (k:Int).toNat IntKind.u32.bits=k by simp only [IntKind.bits,Int.toNat_natCast]; omega]
 rw [Int.fdiv_eq_ediv_of_nonneg _ (Int.pow_nonneg (by decide))]
 norm_cast
theorem shr1_w (x:W32):shrI .u32 (x.toNat:Int) 1=((x >>> 1).toNat:Int):=by
 have:=shr_u32 x.toNat 1 (by omega)
 rw [show ((1:Nat):Int)=1 from rfl] at this
 rw [this,BitVec.toNat_ushiftRight,Nat.shiftRight_eq_div_pow]
theorem bit0 (x:W32):x.getLsbD 0=decide (x.toNat % 2=1):=by
 simp [BitVec.getLsbD,Nat.testBit_zero]
theorem crcT_odd {x:W32} (h:x.toNat % 2=1):crcT x=(x >>> 1) ^^^ crcP:=by
 unfold crcT; rw [bit0,decide_eq_true h,if_pos rfl]
theorem crcT_even {x:W32} (h:¬ x.toNat % 2=1):crcT x=x >>> 1:=by
 unfold crcT; rw [bit0,decide_eq_false h]; simp
theorem byW_nat (b:UInt8):(byW b).toNat=b.toNat:=by
 have:=b.toNat_lt
 simp only [byW,BitVec.toNat_ofNat]; omega
theorem not_w (x:W32):bits .xor .u32 4294967295 (x.toNat:Int)=((~~~x).toNat:Int):=by
 have:=xor_w ones x
 rw [show ((ones.toNat:Nat):Int)=4294967295 from rfl] at this
 rw [this]
 congr 2
theorem xorP_w (x:W32):bits .xor .u32 (x.toNat:Int) 3988292384=((x ^^^ crcP).toNat:Int):=xor_w x crcP
theorem crcS_succ (s:W32) (l:Bs) (i:Nat) (h:i < l.length):crcS s (l.take (i + 1))=crcB (crcS s (l.take i)) l[i]:=by
 rw [List.take_succ_eq_append_getElem h,crcS_append]; rfl
theorem sum_ok {H:Heap} {a:Option Addr} {c:Nat} {l:Bs} (h:BsR H a l) (hl:l.length < 2^40):HCalls Tryz.prog 12 #[.slice a l.length c] H fun v H'=>v=wv (crc l)∧H'=H:=by
 refine calls_of_vc (args:=[_]) Tryz.func12 c12ok (Nat.le_of_ble_eq_true rfl) ?_
 simp (implicitDefEqProofs:=false) only [go_sem,c12]
 refine vc_loop (fun (i:Nat) H'=>i≤l.length∧H'=H)
  (fun i=>[(3,wv (crcS ones (l.take i))),(7,.slice a l.length c),(8,.int .i64 l.length),(9,.int .i64 i)]) (fun i=>l.length - i) 0 ?_ ?_ ?_
 ·exact ⟨Nat.zero_le _,rfl⟩
 ·simp (implicitDefEqProofs:=false) only [go_sem]
  rfl
 ·rintro i H' ⟨hi,rfl⟩
  rcases Nat.lt_or_ge i l.length with hlt | hge
  ·have hlt':(i:Int) < (l.length:Int):=by omega
   have h0:(0:Int)≤(i:Int):=by omega
   have hw1:=succ_i64 i l.length hlt (by omega)
   obtain ⟨b,o,rfl,hc⟩:∃ b o,a=some ⟨b,o,none⟩∧cellB H' b (o + i)=some (bv l[i]):=by
    rcases h with h | ⟨b,o,h1,h2⟩
    ·subst h; simp at hlt
    ·exact ⟨b,o,h1,h2 i hlt⟩
   have hb32:IntKind.u32.wrap (l[i].toNat:Int)=((byW l[i]).toNat:Int):=by
    rw [byW_nat,wrap_u32_id _ (by omega) (by have:=l[i].toNat_lt; omega)]
   simp (implicitDefEqProofs:=false) only [go_sem,hlt',h0,hc,bv,wv,hb32,xor_w]
   refine vc_loop (fun (j:Nat) H''=>j≤8∧H''=H')
    (fun j=>[(3,wv (crcN j (crcS ones (l.take i) ^^^ byW l[i]))),(7,.slice (some ⟨b,o,none⟩) l.length c),(8,.int .i64 l.length),(9,.int .i64 i),(17,.int .i64 j)]) (fun j=>8 - j) 0 ?_ ?_ ?_
   ·exact ⟨Nat.zero_le _,rfl⟩
   ·simp (implicitDefEqProofs:=false) only [go_sem]
    rfl
   ·rintro j H'' ⟨hj,rfl⟩
    rcases Nat.lt_or_ge j 8 with hjlt | hjge
    ·have hj':(j:Int) < 8:=by omega
     have hw2:=succ_i64 j 8 hjlt (by omega)
     have hs:=crcN_succ j (crcS ones (l.take i) ^^^ byW l[i])
     generalize hx:crcN j (crcS ones (l.take i) ^^^ byW l[i])=x at hs ⊢
     by_cases ho:x.toNat % 2=1
     ·have ho':((x.toNat % 2:Nat):Int)=1:=by omega
      rw [crcT_odd ho] at hs
      simp (implicitDefEqProofs:=false) only [go_sem,hj',wv,and1_w,shr1_w,ho',xorP_w]
      refine loopK_intro (j + 1) (by show 8 - (j + 1) < 8 - j; omega) ?_ ⟨hjlt,rfl⟩
      simp (implicitDefEqProofs:=false) only [go_sem,hw2,hs,wv]
     ·have ho':¬ ((x.toNat % 2:Nat):Int)=1:=by omega
      rw [crcT_even ho] at hs
      simp (implicitDefEqProofs:=false) only [go_sem,hj',wv,and1_w,shr1_w,ho']
      refine loopK_intro (j + 1) (by show 8 - (j + 1) < 8 - j; omega) ?_ ⟨hjlt,rfl⟩
      simp (implicitDefEqProofs:=false) only [go_sem,hw2,hs,wv]
    ·have hj':¬ (j:Int) < 8:=by omega
     have hj8:j=8:=by omega
     subst hj8
     simp (implicitDefEqProofs:=false) only [go_sem,hj']
     refine loopK_intro (i + 1) (by show l.length - (i + 1) < l.length - i; omega) ?_ ⟨hlt,rfl⟩
     simp (implicitDefEqProofs:=false) only [go_sem,hw1]
     rw [crcS_succ _ _ _ hlt]; rfl
  ·have hge':¬ (i:Int) < (l.length:Int):=by omega
   rw [List.take_of_length_le hge]
   have hmx:(if IntKind.u32.signed=true then -1 else IntKind.u32.max)=4294967295:=rfl
   simp (implicitDefEqProofs:=false) only [go_sem,hge',wv,hmx,not_w]
   rfl
theorem fsum_ok {H:Heap} {a:Option Addr} {c:Nat} {l:Bs} (h:BsR H a l) (hl:l.length < 2^40):HCalls Tryz.prog 13 #[.slice a l.length c] H fun v H'=>v=wv (crc l)∧H'=H:=by
 refine calls_of_vc (args:=[_]) Tryz.func13 c13ok (Nat.le_of_ble_eq_true rfl) ?_
 simp (implicitDefEqProofs:=false) only [go_sem,c13]
 refine vc_loop (fun (i:Nat) H'=>i≤l.length∧H'=H)
  (fun i=>[(0,.slice a l.length c),(3,wv (crcS ones (l.take i))),(4,.int .i64 i)]) (fun i=>l.length - i) 0 ?_ ?_ ?_
 ·exact ⟨Nat.zero_le _,rfl⟩
 ·simp (implicitDefEqProofs:=false) only [go_sem]
  rfl
 ·rintro i H' ⟨hi,rfl⟩
  rcases Nat.lt_or_ge i l.length with hlt | hge
  ·have hlt':(i:Int) < (l.length:Int):=by omega
   have h0:(0:Int)≤(i:Int):=by omega
   have hw1:=succ_i64 i l.length hlt (by omega)
   obtain ⟨b,o,rfl,hc⟩:∃ b o,a=some ⟨b,o,none⟩∧cellB H' b (o + i)=some (bv l[i]):=by
    rcases h with h | ⟨b,o,h1,h2⟩
    ·subst h; simp at hlt
    ·exact ⟨b,o,h1,h2 i hlt⟩
   have hb32:IntKind.u32.wrap (l[i].toNat:Int)=((byW l[i]).toNat:Int):=by
    rw [byW_nat,wrap_u32_id _ (by omega) (by have:=l[i].toNat_lt; omega)]
   simp (implicitDefEqProofs:=false) only [go_sem,hlt',h0,hc,bv,wv,hb32,xor_w]
   refine vc_loop (fun (j:Nat) H''=>j≤8∧H''=H')
    (fun j=>[(0,.slice (some ⟨b,o,none⟩) l.length c),(3,wv (crcN j (crcS ones (l.take i) ^^^ byW l[i]))),(4,.int .i64 i),(5,.int .i64 j)]) (fun j=>8 - j) 0 ?_ ?_ ?_
   ·exact ⟨Nat.zero_le _,rfl⟩
   ·simp (implicitDefEqProofs:=false) only [go_sem]
    rfl
   ·rintro j H'' ⟨hj,rfl⟩
    rcases Nat.lt_or_ge j 8 with hjlt | hjge
    ·have hj':(j:Int) < 8:=by omega
     have hw2:=succ_i64 j 8 hjlt (by omega)
     have hs:=crcN_succ j (crcS ones (l.take i) ^^^ byW l[i])
     generalize hx:crcN j (crcS ones (l.take i) ^^^ byW l[i])=x at hs ⊢
     by_cases ho:x.toNat % 2=1
     ·have ho':((x.toNat % 2:Nat):Int)=1:=by omega
      rw [crcT_odd ho] at hs
      simp (implicitDefEqProofs:=false) only [go_sem,hj',wv,and1_w,shr1_w,ho',xorP_w]
      refine loopK_intro (j + 1) (by show 8 - (j + 1) < 8 - j; omega) ?_ ⟨hjlt,rfl⟩
      simp (implicitDefEqProofs:=false) only [go_sem,hw2,hs,wv]
     ·have ho':¬ ((x.toNat % 2:Nat):Int)=1:=by omega
      rw [crcT_even ho] at hs
      simp (implicitDefEqProofs:=false) only [go_sem,hj',wv,and1_w,shr1_w,ho']
      refine loopK_intro (j + 1) (by show 8 - (j + 1) < 8 - j; omega) ?_ ⟨hjlt,rfl⟩
      simp (implicitDefEqProofs:=false) only [go_sem,hw2,hs,wv]
    ·have hj':¬ (j:Int) < 8:=by omega
     have hj8:j=8:=by omega
     subst hj8
     simp (implicitDefEqProofs:=false) only [go_sem,hj']
     refine loopK_intro (i + 1) (by show l.length - (i + 1) < l.length - i; omega) ?_ ⟨hlt,rfl⟩
     simp (implicitDefEqProofs:=false) only [go_sem,hw1]
     rw [crcS_succ _ _ _ hlt]; rfl
  ·have hge':¬ (i:Int) < (l.length:Int):=by omega
   rw [List.take_of_length_le hge]
   have hmx:(if IntKind.u32.signed=true then -1 else IntKind.u32.max)=4294967295:=rfl
   simp (implicitDefEqProofs:=false) only [go_sem,hge',wv,hmx,not_w]
   rfl
theorem le4_vals (x:W32):[Value.int .u8 (IntKind.u8.wrap (x.toNat:Int)),Value.int .u8 (IntKind.u8.wrap (shrI .u32 (x.toNat:Int) 8)),Value.int .u8 (IntKind.u8.wrap (shrI .u32 (x.toNat:Int) 16)),Value.int .u8 (IntKind.u8.wrap (shrI .u32 (x.toNat:Int) 24))]=(le4 x).map bv:=by
 have h8:=shr_u32 x.toNat 8 (by omega)
 have h16:=shr_u32 x.toNat 16 (by omega)
 have h24:=shr_u32 x.toNat 24 (by omega)
 rw [show ((8:Nat):Int)=8 from rfl] at h8
 rw [show ((16:Nat):Int)=16 from rfl] at h16
 rw [show ((24:Nat):Int)=24 from rfl] at h24
 rw [h8,h16,h24]
 simp only [wrap_u8_mod,le4,List.map_cons,List.map_nil,bv,Nat.reducePow]
 rw [u8_of _ (by omega),u8_of _ (by omega),u8_of _ (by omega),u8_of _ (by omega)]
theorem le4_len (x:W32):(le4 x).length=4:=rfl
def sealB (l:Bs):Bs:=l ++ le4 (crc l)
theorem sealB_len (l:Bs):(sealB l).length=l.length + 4:=by simp [sealB,le4_len]
theorem sealed_ok {H:Heap} {a:Option Addr} {c:Nat} {l:Bs} (h:BsR H a l) (hl:l.length < 2^37):HCalls Tryz.prog 14 #[.slice a l.length c] H (Out H (sealB l)):=by
 refine calls_of_vc (args:=[_]) Tryz.func14 c14ok (Nat.le_of_ble_eq_true rfl) ?_
 simp (implicitDefEqProofs:=false) only [go_sem,c14]
 refine (fsum_ok h (by omega)).mono ?_
 rintro v H1 ⟨rfl,rfl⟩
 simp (implicitDefEqProofs:=false) only [go_sem]
 refine NewS_intro fun H2 hn2 hf2 hs2=>?_
 simp (implicitDefEqProofs:=false) only [go_sem]
 refine App_own EB (Own.of_blk hn2 (by simp) (by decide)) ((h.ext hf2).src Tryz.underlying22) (by unfold maxLen; omega) (by omega) fun a3 c3 H3 g3 ho3 hf3 hg3=>?_
 rw [Nat.zero_add,List.nil_append] at ho3
 obtain ⟨h12,hq2⟩:=app_fr hf2 (g':=some H1.size) (by simp) (Fr.refl _ _) hf3 hg3
 simp (implicitDefEqProofs:=false) only [go_sem,wv]
 refine NewS_intro fun H4 hn4 hf4 hs4=>?_
 rw [le4_vals] at hn4
 simp (implicitDefEqProofs:=false) only [go_sem]
 refine App_own EB (ho3.fr hf4 (by simp)) (SrcH.blk Tryz.underlying22 hn4 (by simp [le4_len]) (by intro u hu; simp only [List.mem_map] at hu; obtain ⟨b,_,rfl⟩:=hu; rfl)) (by unfold maxLen; omega) (by omega) fun a5 c5 H5 g5 ho5 hf5 hg5=>?_
 obtain ⟨hfr5,hgr5⟩:=app_fr h12 hq2 hf4 hf5 hg5
 simp (implicitDefEqProofs:=false) only [go_sem]
 exact Out.of (by rw [sealB_len]; try omega) (by simp [sealB]) ho5 hgr5 hfr5
end Go.Proofs.YtdhlibkdcldioaaGreat
end
