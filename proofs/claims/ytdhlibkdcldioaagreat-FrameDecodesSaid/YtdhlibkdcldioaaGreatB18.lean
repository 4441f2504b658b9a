import Derived.Test.YtdhlibkdcldioaaGreatB16
import Derived.Test.YtdhlibkdcldioaaGreatB17
import Derived.Test.YtdhlibkdcldioaaGreatB11
section
set_option linter.unusedSimpArgs false
set_option linter.unusedVariables false
set_option maxRecDepth 8000
namespace Go.Proofs.YtdhlibkdcldioaaGreat
open Gx Go
abbrev Pl:=Option Nat
def RdO (H:Heap) (b:Nat) (L:List UInt8) (s:Pl) (g:Option Nat):Prop:=
 match s with
 | some p=>Rd H b L p 0 g
 | none=>∃ p,Rd H b L p 2 g
theorem RdO.fr {M:List Nat} {H H':Heap} {b:Nat} {L:List UInt8} {s:Pl} {g:Option Nat} (h:RdO H b L s g) (hf:Fr M H H') (hb:b ∉ M) (hg:∀ k,g=some k→k ∉ M):RdO H' b L s g:=by
 cases s with
 | some p=>exact Rd.fr h hf hb hg
 | none=>obtain ⟨p,h⟩:=h; exact ⟨p,Rd.fr h hf hb hg⟩
theorem RdO.ext {H H':Heap} {b:Nat} {L:List UInt8} {s:Pl} {g:Option Nat} (h:RdO H b L s g) (hf:Fr [] H H'):RdO H' b L s g:=h.fr hf (by simp) (by simp)
theorem RdO.lt {H:Heap} {b:Nat} {L:List UInt8} {s:Pl} {g:Option Nat} (h:RdO H b L s g):b < H.size:=by
 cases s with
 | some p=>exact Rd.lt h
 | none=>obtain ⟨p,h⟩:=h; exact h.lt
theorem RdO.ltg {H:Heap} {b:Nat} {L:List UInt8} {s:Pl} {g:Option Nat} (h:RdO H b L s g) {k:Nat} (hk:g=some k):k < H.size:=by
 cases s with
 | some p=>exact Rd.ltg h hk
 | none=>obtain ⟨p,h⟩:=h; exact h.ltg hk
theorem RdO.place {H:Heap} {b:Nat} {L:List UInt8} {p:Nat} {g:Option Nat} (h:RdO H b L (some p) g):p≤L.length:=by
 obtain ⟨i,a,c,_,_,h3,_,_⟩:=h; exact h3
def uintO (L:List UInt8):Pl→Nat × Pl
 | some p=>match num (L.drop p) with
   | some (n,k)=>(n,some (p + k))
   | none=>(0,none)
 | none=>(0,none)
def boolO (L:List UInt8):Pl→Bool × Pl
 | some p=>match L.drop p with
   | x :: _=>if 1 < x.toNat then (false,none) else (x.toNat == 1,some (p + 1))
   | []=>(false,none)
 | none=>(false,none)
def bytesO (L:List UInt8):Pl→List UInt8 × Pl
 | some p=>match num (L.drop p) with
   | some (n,k)=>if p + k + n≤L.length then ((L.drop (p + k)).take n,some (p + k + n)) else ([],none)
   | none=>([],none)
 | none=>([],none)
def countO (L:List UInt8):Pl→Nat × Pl
 | some p=>match num (L.drop p) with
   | some (n,k)=>if p + k + n≤L.length then (n,some (p + k)) else (0,none)
   | none=>(0,none)
 | none=>(0,none)
theorem uintO_lt (L:List UInt8) (s:Pl):(uintO L s).1 < 2^64:=by
 unfold uintO
 split
 ·split
  ·rename_i h; exact (num_bound h).1
  ·exact Nat.two_pow_pos 64
 ·exact Nat.two_pow_pos 64
theorem countO_le (L:List UInt8) (s:Pl):(countO L s).1≤L.length:=by
 unfold countO
 split
 ·split
  ·split
   ·show _≤_; omega
   ·exact Nat.zero_le _
  ·exact Nat.zero_le _
 ·exact Nat.zero_le _
section
variable {H:Heap} {b:Nat} {L:List UInt8} {s:Pl} {g:Option Nat}
theorem ruint_o (h:RdO H b L s g):HCalls Tryz.prog 131 #[.pointer (some ⟨b,0,none⟩)] H fun v H'=>v= .int .u64 (uintO L s).1∧RdO H' b L (uintO L s).2 g∧Fr [b] H H':=by
 cases s with
 | some p=>
   refine (ruint_ok h).mono ?_
   rintro v H' ⟨rfl,h1,hf⟩
   unfold uintO
   simp only [uintR,if_true] at h1 ⊢
   cases hn:num (L.drop p) with
   | none=>rw [hn] at h1; exact ⟨rfl,⟨p,h1⟩,hf⟩
   | some x=>rw [hn] at h1; exact ⟨rfl,h1,hf⟩
 | none=>
   obtain ⟨p,h⟩:=h
   refine (ruint_ok h).mono ?_
   rintro v H' ⟨rfl,h1,hf⟩
   exact ⟨rfl,⟨p,h1⟩,hf⟩
theorem rint_o (h:RdO H b L s g):HCalls Tryz.prog 153 #[.pointer (some ⟨b,0,none⟩)] H fun v H'=>v= .int .i64 (zag (uintO L s).1)∧RdO H' b L (uintO L s).2 g∧Fr [b] H H':=by
 cases s with
 | some p=>
   refine (rint_ok h).mono ?_
   rintro v H' ⟨rfl,h1,hf⟩
   unfold uintO
   simp only [uintR,if_true] at h1 ⊢
   cases hn:num (L.drop p) with
   | none=>rw [hn] at h1; exact ⟨rfl,⟨p,h1⟩,hf⟩
   | some x=>rw [hn] at h1; exact ⟨rfl,h1,hf⟩
 | none=>
   obtain ⟨p,h⟩:=h
   refine (rint_ok h).mono ?_
   rintro v H' ⟨rfl,h1,hf⟩
   exact ⟨rfl,⟨p,h1⟩,hf⟩
theorem rbool_o (h:RdO H b L s g):HCalls Tryz.prog 161 #[.pointer (some ⟨b,0,none⟩)] H fun v H'=>v= .bool (boolO L s).1∧RdO H' b L (boolO L s).2 g∧Fr [b] H H':=by
 cases s with
 | some p=>
   refine (rbool_ok h).mono ?_
   rintro v H' ⟨rfl,h1,hf⟩
   unfold boolO
   simp only [boolR,if_true] at h1 ⊢
   cases hn:L.drop p with
   | nil=>rw [hn] at h1; exact ⟨rfl,⟨p,h1⟩,hf⟩
   | cons x r=>
     rw [hn] at h1
     simp only at h1 ⊢
     by_cases hx:1 < x.toNat
     ·simp only [if_pos hx] at h1 ⊢; exact ⟨trivial,⟨p,h1⟩,hf⟩
     ·simp only [if_neg hx] at h1 ⊢; exact ⟨trivial,h1,hf⟩
 | none=>
   obtain ⟨p,h⟩:=h
   refine (rbool_ok h).mono ?_
   rintro v H' ⟨rfl,h1,hf⟩
   exact ⟨rfl,⟨p,h1⟩,hf⟩
theorem rbytes_o (h:RdO H b L s g):HCalls Tryz.prog 156 #[.pointer (some ⟨b,0,none⟩)] H fun v H'=>∃ a c g',v= .slice a (bytesO L s).1.length c∧Own H' 5 1 v (bytesO L s).1.length ((bytesO L s).1.map bv) g'∧(∀ k,g'=some k→H.size≤k)∧RdO H' b L (bytesO L s).2 g∧Fr [b] H H':=by
 cases s with
 | some p=>
   refine (rbytes_ok h).mono ?_
   rintro v H' ⟨a,c,g',e,ho,hg,h1,hf⟩
   unfold bytesO
   simp only [bytesR,if_true] at e ho h1 ⊢
   cases hn:num (L.drop p) with
   | none=>rw [hn] at e ho h1; exact ⟨a,c,g',e,ho,hg,⟨p,h1⟩,hf⟩
   | some x=>
     rw [hn] at e ho h1
     simp only at e ho h1 ⊢
     by_cases hx:p + x.2 + x.1≤L.length
     ·simp only [if_pos hx] at e ho h1 ⊢; exact ⟨a,c,g',e,ho,hg,h1,hf⟩
     ·simp only [if_neg hx] at e ho h1 ⊢; exact ⟨a,c,g',e,ho,hg,⟨p,h1⟩,hf⟩
 | none=>
   obtain ⟨p,h⟩:=h
   refine (rbytes_ok h).mono ?_
   rintro v H' ⟨a,c,g',e,ho,hg,h1,hf⟩
   exact ⟨a,c,g',e,ho,hg,⟨p,h1⟩,hf⟩
theorem rtext_o (h:RdO H b L s g):HCalls Tryz.prog 147 #[.pointer (some ⟨b,0,none⟩)] H fun v H'=>v= .string ⟨⟨(bytesO L s).1⟩⟩∧RdO H' b L (bytesO L s).2 g∧Fr [b] H H':=by
 cases s with
 | some p=>
   refine (rtext_ok h).mono ?_
   rintro v H' ⟨rfl,h1,hf⟩
   unfold bytesO
   simp only [bytesR,if_true] at h1 ⊢
   cases hn:num (L.drop p) with
   | none=>rw [hn] at h1; exact ⟨rfl,⟨p,h1⟩,hf⟩
   | some x=>
     rw [hn] at h1
     simp only at h1 ⊢
     by_cases hx:p + x.2 + x.1≤L.length
     ·simp only [if_pos hx] at h1 ⊢; exact ⟨trivial,h1,hf⟩
     ·simp only [if_neg hx] at h1 ⊢; exact ⟨trivial,⟨p,h1⟩,hf⟩
 | none=>
   obtain ⟨p,h⟩:=h
   refine (rtext_ok h).mono ?_
   rintro v H' ⟨rfl,h1,hf⟩
   exact ⟨rfl,⟨p,h1⟩,hf⟩
theorem rcount_o (h:RdO H b L s g):HCalls Tryz.prog 154 #[.pointer (some ⟨b,0,none⟩)] H fun v H'=>v= .int .i64 (countO L s).1∧RdO H' b L (countO L s).2 g∧Fr [b] H H':=by
 cases s with
 | some p=>
   refine (rcount_ok h).mono ?_
   rintro v H' ⟨rfl,h1,hf⟩
   unfold countO
   simp only [countR,if_true] at h1 ⊢
   cases hn:num (L.drop p) with
   | none=>rw [hn] at h1; exact ⟨rfl,⟨p,h1⟩,hf⟩
   | some x=>
     rw [hn] at h1
     simp only at h1 ⊢
     by_cases hx:p + x.2 + x.1≤L.length
     ·simp only [if_pos hx] at h1 ⊢; exact ⟨trivial,h1,hf⟩
     ·simp only [if_neg hx] at h1 ⊢; exact ⟨trivial,⟨p,h1⟩,hf⟩
 | none=>
   obtain ⟨p,h⟩:=h
   refine (rcount_ok h).mono ?_
   rintro v H' ⟨rfl,h1,hf⟩
   exact ⟨rfl,⟨p,h1⟩,hf⟩
theorem rerr_o (h:RdO H b L s g):HCalls Tryz.prog 163 #[.pointer (some ⟨b,0,none⟩)] H fun v H'=>v= .int .i64 (if s.isSome then 0 else 2)∧H'=H:=by
 cases s with
 | some p=>exact rerr_ok h
 | none=>obtain ⟨p,h⟩:=h; exact rerr_ok h
theorem rend_o (h:RdO H b L s g):HCalls Tryz.prog 100 #[.pointer (some ⟨b,0,none⟩)] H fun v H'=>v= .int .i64 (if s=some L.length then 0 else 2)∧H'=H:=by
 cases s with
 | some p=>
   have hp:=RdO.place h
   refine (rend_ok h).mono ?_
   rintro v H' ⟨rfl,he⟩
   refine ⟨?_,he⟩
   by_cases e:p=L.length
   ·subst e
    rw [if_neg (by omega),if_pos rfl]; rfl
   ·rw [if_pos ⟨rfl,by omega⟩,if_neg (by simpa using e)]
 | none=>
   obtain ⟨p,h⟩:=h
   refine (rend_ok h).mono ?_
   rintro v H' ⟨rfl,he⟩
   exact ⟨by simp,he⟩
end
end Go.Proofs.YtdhlibkdcldioaaGreat
end
section
set_option linter.unusedSimpArgs false
set_option linter.unusedVariables false
set_option maxRecDepth 8000
namespace Go.Proofs.YtdhlibkdcldioaaGreat
open Gx Go
theorem raw_step (x:UInt8) (i n:Nat) (hi:i≤9) (hn:n < 2^(7*i)) (h9:i=9→x.toNat≤1) :
 IntKind.u64.wrap ((n:Int) + shlI .u64 (IntKind.u64.wrap ((x.toNat:Int).tmod 128)) (IntKind.u64.wrap (7 * IntKind.u64.wrap (i:Int))))=((n + (x.toNat % 128) * 2^(7*i):Nat):Int):=by
 have hb:x.toNat % 128 < 128:=Nat.mod_lt _ (by decide)
 have hlt:(x.toNat % 128) * 2^(7*i) < 2^64∧n + (x.toNat % 128) * 2^(7*i) < 2^64:=by
  have hpow:n + (x.toNat % 128) * 2^(7*i) < 2^(7*(i+1)):=by
   have e:2^(7*(i+1))=128 * 2^(7*i):=by rw [Nat.mul_add,Nat.pow_add,Nat.mul_comm]
   rw [e]
   have:(x.toNat % 128) * 2^(7*i)≤127 * 2^(7*i):=Nat.mul_le_mul_right _ (by omega)
   omega
  rcases Nat.lt_or_ge i 9 with h' | h'
  ·have:2^(7*(i+1))≤2^64:=Nat.pow_le_pow_right (by decide) (by omega)
   omega
  ·have:i=9:=by omega
   subst this
   have:=h9 rfl
   have:(x.toNat % 128) * 2^(7*9)≤1 * 2^(7*9):=Nat.mul_le_mul_right _ (by omega)
   have e2:(2:Nat)^(7*9) + 2^(7*9)=2^64:=by decide
   omega
 rw [Int.tmod_eq_emod_of_nonneg (by omega),wrap_u64_id (i:Int) (by omega) (by omega),wrap_u64_id (7 * (i:Int)) (by omega) (by omega),wrap_u64_id ((x.toNat:Int) % 128) (by omega) (by omega)]
 have e2:shlI .u64 ((x.toNat:Int) % 128) (7 * (i:Int))=(((x.toNat % 128) * 2^(7*i):Nat):Int):=by
  rw [show (7 * (i:Int))=((7 * i:Nat):Int) by omega,shlI_eq _ _ (by show 7 * i≤64; omega)]
  rw [show (x.toNat:Int) % 128=((x.toNat % 128:Nat):Int) by omega]
  rw [show ((x.toNat % 128:Nat):Int) * 2 ^ (7 * i)=(((x.toNat % 128) * 2^(7*i):Nat):Int) by simp]
  exact wrap_u64_id _ (by omega) (by omega)
 rw [e2,wrap_u64_id _ (by omega) (by omega)]
 omega
theorem raw_ok {H:Heap} {a:Option Addr} {c at_:Nat} {l:List UInt8} (hb:BsR H a l) (hl:l.length < 2^40) (hat:at_≤l.length) :
 HCalls Tryz.prog 101 #[.slice a l.length c,.int .i64 at_] H fun v H'=>H'=H∧v=match num (l.drop at_) with
  | some (n,k)=>.tuple #[.int .u64 n,.int .i64 (at_ + k:Nat),.bool true]
  | none=>.tuple #[.int .u64 0,.int .i64 at_,.bool false]:=by
 refine calls_of_vc (args:=[_,_]) Tryz.func101 c101ok (Nat.le_of_ble_eq_true rfl) ?_
 simp (implicitDefEqProofs:=false) only [go_sem,c101]
 refine vc_loop (fun ((n,i):Nat × Nat) H'=>H'=H∧i≤10∧n < 2^(7*i)∧at_ + i≤l.length∧numG i n (l.drop (at_ + i))=num (l.drop at_))
  (fun (n,i)=>[(0,.slice a l.length c),(1,.int .i64 at_),(4,.int .u64 n),(7,.int .i64 i)]) (fun (_,i)=>10 - i) (0,0) ?_ ?_ ?_
 ·exact ⟨rfl,by decide,by decide,by omega,rfl⟩
 ·simp (implicitDefEqProofs:=false) only [go_sem]
 ·rintro ⟨n,i⟩ H' ⟨rfl,hi,hn,hai,hnum⟩
  rcases Nat.lt_or_ge i 10 with hlt | hge
  ·have hlt':(i:Int) < 10:=by omega
   have hw:IntKind.i64.wrap ((at_:Int) + (i:Int))=((at_ + i:Nat):Int):=by rw [wrap_i64_id _ (by omega) (by omega)]; omega
   have hw1:IntKind.i64.wrap ((i:Int) + 1)=((i + 1:Nat):Int):=by rw [wrap_i64_id _ (by omega) (by omega)]; omega
   have hw2:IntKind.i64.wrap (((at_ + i:Nat):Int) + 1)=((at_ + (i + 1):Nat):Int):=by rw [wrap_i64_id _ (by omega) (by omega)]; omega
   rcases Nat.lt_or_ge (at_ + i) l.length with hin | hout
   ·obtain ⟨b',o,rfl,hcl⟩:=hb.resolve_left (by rintro rfl; simp at hin)
    have hin':((at_ + i:Nat):Int) < (l.length:Int):=by omega
    have h0':(0:Int)≤((at_ + i:Nat):Int):=by omega
    have hcj:=hcl (at_ + i) hin
    have hdrop:l.drop (at_ + i)=l[at_ + i] :: l.drop (at_ + (i + 1)):=by rw [List.drop_eq_getElem_cons hin]; rfl
    rw [hdrop,numG,if_neg (by omega)] at hnum
    generalize l[at_ + i]=x at *
    by_cases h9:i=9∧1 < x.toNat
    ·rw [if_pos h9] at hnum
     have q2:(1:Int) < (x.toNat:Int):=by omega
     obtain rfl:=h9.1
     have hw9:IntKind.i64.wrap ((at_:Int) + 9)=((at_ + 9:Nat):Int):=hw
     simp (implicitDefEqProofs:=false) only [go_sem,hw9,hin',h0',hcj,bv,q2]
     rw [← hnum]
    rw [if_neg h9] at hnum
    have h9':i=9→x.toNat≤1:=fun q=>by rcases Nat.lt_or_ge 1 x.toNat with h | h; exact absurd ⟨q,h⟩ h9; exact h
    have hst:=raw_step x i n (by omega) hn h9'
    have hg:(if ((i:Int)=9) then (decide ((1:Int) < (x.toNat:Int))) else false)=false:=by
     split
     ·exact decide_eq_false (by have:=h9' (by omega); omega)
     ·rfl
    have hw2':IntKind.i64.wrap (((at_ + i:Nat):Int) + 1)=((at_ + (i + 1):Nat):Int):=hw2
    have tail:∀ (q:Prop) [Decidable q],True:=fun _ _=>trivial
    by_cases hx:x.toNat < 128
    ·have hx':(x.toNat:Int) < 128:=by omega
     rw [if_pos hx] at hnum
     by_cases hz:x.toNat≠0∨i=0
     ·rw [if_pos hz] at hnum
      rcases Nat.lt_or_ge i 9 with hi9 | hi9
      ·have q1:¬ (i:Int)=9:=by omega
       by_cases z:x.toNat=0
       ·have z':(x.toNat:Int)=0:=by omega
        have i0:¬ (0:Int) < (i:Int):=by omega
        rw [z] at hst
        have e0:((0:Nat):Int)=0:=rfl
        rw [e0] at hst
        simp (implicitDefEqProofs:=false) only [go_sem,hlt',hw,hin',h0',hcj,bv,q1,hx',z',i0,hst,hw2]
        rw [← hnum,z]
        try exact ⟨rfl,rfl⟩
       ·have z':¬ (x.toNat:Int)=0:=by omega
        simp (implicitDefEqProofs:=false) only [go_sem,hlt',hw,hin',h0',hcj,bv,q1,hx',z',hst,hw2]
        rw [← hnum]
        try exact ⟨rfl,rfl⟩
      ·have q1:(i:Int)=9:=by omega
       have q2:¬ (1:Int) < (x.toNat:Int):=by have:=h9' (by omega); omega
       have z':¬ (x.toNat:Int)=0:=by omega
       have e9:i=9:=by omega
       subst e9
       have hw9:IntKind.i64.wrap ((at_:Int) + 9)=((at_ + 9:Nat):Int):=hw
       have hst9:IntKind.u64.wrap ((n:Int) + shlI .u64 (IntKind.u64.wrap ((x.toNat:Int).tmod 128)) (IntKind.u64.wrap (7 * IntKind.u64.wrap 9)))=((n + (x.toNat % 128) * 2^(7*9):Nat):Int):=hst
       simp (implicitDefEqProofs:=false) only [go_sem,hw9,hin',h0',hcj,bv,q2,hx',z',hst9,hw2]
       rw [← hnum]
       try exact ⟨rfl,rfl⟩
     ·rw [if_neg hz] at hnum
      have z':(x.toNat:Int)=0:=by omega
      have i0:(0:Int) < (i:Int):=by omega
      have q2:¬ (1:Int) < (x.toNat:Int):=by omega
      by_cases q1:(i:Int)=9
      ·have e9:i=9:=by omega
       subst e9
       have hw9:IntKind.i64.wrap ((at_:Int) + 9)=((at_ + 9:Nat):Int):=hw
       simp (implicitDefEqProofs:=false) only [go_sem,hw9,hin',h0',hcj,bv,q2,hx',z',i0]
       rw [← hnum]
      ·simp (implicitDefEqProofs:=false) only [go_sem,hlt',hw,hin',h0',hcj,bv,q1,hx',z',i0]
       rw [← hnum]
    ·have hx':¬ (x.toNat:Int) < 128:=by omega
     rw [if_neg hx] at hnum
     have q1:¬ (i:Int)=9:=by intro q; have:=h9' (by omega); omega
     have hpow:n + (x.toNat % 128) * 2^(7*i) < 2^(7*(i+1)):=by
      have hb':x.toNat % 128 < 128:=Nat.mod_lt _ (by decide)
      have e:2^(7*(i+1))=128 * 2^(7*i):=by rw [Nat.mul_add,Nat.pow_add,Nat.mul_comm]
      rw [e]
      have:(x.toNat % 128) * 2^(7*i)≤127 * 2^(7*i):=Nat.mul_le_mul_right _ (by omega)
      omega
     simp (implicitDefEqProofs:=false) only [go_sem,hlt',hw,hin',h0',hcj,bv,q1,hx',hst]
     refine loopK_intro (n + (x.toNat % 128) * 2^(7*i),i + 1) (by show 10 - (i + 1) < 10 - i; omega) ?_ ⟨rfl,by show i + 1≤10; omega,hpow,by show at_ + (i + 1)≤_; omega,hnum⟩
     simp (implicitDefEqProofs:=false) only [go_sem,hw1]
   ·have hout':¬ ((at_ + i:Nat):Int) < (l.length:Int):=by omega
    rw [List.drop_eq_nil_of_le hout,numG] at hnum
    simp (implicitDefEqProofs:=false) only [go_sem,hlt',hw,hout']
    rw [← hnum]
  ·have hge':¬ (i:Int) < 10:=by omega
   have:i=10:=by omega
   subst this
   have hnn:num (l.drop at_)=none:=by
    rw [← hnum]; cases l.drop (at_ + 10) <;> simp [numG]
   simp (implicitDefEqProofs:=false) only [go_sem,hge',hnn]
theorem bsR_fr0 {M:List Nat} {H H':Heap} {a:Option Addr} {L:List UInt8} (h:BsR H a L) (hf:Fr M H H') (hM:∀ b o,a=some ⟨b,o,none⟩→L≠[]→b ∉ M):BsR H' a L:=by
 by_cases h0:L=[]
 ·exact .inl h0
 ·exact h.fr hf fun b o e=>hM b o e h0
def InB (H:Heap) (N b:Nat) (L:List UInt8) (at_ last:Nat) (bad:Bool):Prop:=
 ∃ a c,Blk H b 77 [.slice a L.length c,.int .i64 at_,.int .i64 last,.bool bad]∧BsR H a L∧(∀ b' o,a=some ⟨b',o,none⟩→L≠[]→b'≠b∧b' < N)∧at_≤L.length∧last≤L.length∧L.length < 2^40∧L.length≤c
def InO (H:Heap) (N b:Nat) (L:List UInt8) (s:Pl):Prop:=
 match s with
 | some p=>∃ last,InB H N b L p last false
 | none=>∃ p last,InB H N b L p last true
theorem InB.fr {M:List Nat} {H H':Heap} {N b:Nat} {L:List UInt8} {p last:Nat} {bad:Bool} (h:InB H N b L p last bad) (hf:Fr M H H') (hb:b ∉ M) (hM:∀ x ∈ M,N≤x):InB H' N b L p last bad:=by
 obtain ⟨a,c,h1,h2,h3,h4⟩:=h
 refine ⟨a,c,h1.fr hf hb,?_,h3,h4⟩
 by_cases h0:L=[]
 ·exact .inl h0
 ·exact h2.fr hf fun b' o e hm=>by
   have:=(h3 b' o e h0).2
   have:=hM b' hm
   omega
theorem InO.fr {M:List Nat} {H H':Heap} {N b:Nat} {L:List UInt8} {s:Pl} (h:InO H N b L s) (hf:Fr M H H') (hb:b ∉ M) (hM:∀ x ∈ M,N≤x):InO H' N b L s:=by
 cases s with
 | some p=>obtain ⟨l,h⟩:=h; exact ⟨l,h.fr hf hb hM⟩
 | none=>obtain ⟨p,l,h⟩:=h; exact ⟨p,l,h.fr hf hb hM⟩
theorem InO.lt {H:Heap} {N b:Nat} {L:List UInt8} {s:Pl} (h:InO H N b L s):b < H.size:=by
 cases s with
 | some p=>obtain ⟨l,a,c,h,_⟩:=h; exact h.lt
 | none=>obtain ⟨p,l,a,c,h,_⟩:=h; exact h.lt
theorem InO.bad {H:Heap} {N b:Nat} {L:List UInt8} {s:Pl} (h:InO H N b L s):cellB H b 3=some (.bool s.isNone):=by
 cases s with
 | some p=>obtain ⟨l,a,c,h,_⟩:=h; rw [h.cell]; rfl
 | none=>obtain ⟨p,l,a,c,h,_⟩:=h; rw [h.cell]; rfl
theorem InB.upd {H H':Heap} {N b:Nat} {L:List UInt8} {p' last':Nat} {bad':Bool} {a:Option Addr} {c:Nat} (h2:BsR H a L) (h3:∀ b' o,a=some ⟨b',o,none⟩→L≠[]→b'≠b∧b' < N) (hl:L.length < 2^40) (hc:L.length≤c)
 (hb':Blk H' b 77 [.slice a L.length c,.int .i64 p',.int .i64 last',.bool bad']) (hf:Fr [b] H H') (hp:p'≤L.length) (hq:last'≤L.length):InB H' N b L p' last' bad':=
 ⟨a,c,hb',bsR_fr0 h2 hf (fun b1 o e hn=>by have:=(h3 b1 o e hn).1; simpa using this),h3,hp,hq,hl,hc⟩
theorem count_in {n k at_:Nat} {L:List UInt8} (hl:L.length < 2^40) (h1:n < 2^64) (h2:at_ + k≤L.length) :
 (IntKind.u64.wrap (IntKind.i64.wrap ((L.length:Int) - ((at_ + k:Nat):Int))) < (n:Int))↔¬ at_ + k + n≤L.length:=by
 rw [wrap_i64_id _ (by omega) (by omega),wrap_u64_id _ (by omega) (by omega)]; omega
section
variable {H:Heap} {N b:Nat} {L:List UInt8} {s:Pl}
theorem iuint_o (h:InO H N b L s):HCalls Tryz.prog 35 #[.pointer (some ⟨b,0,none⟩)] H fun v H'=>v= .int .u64 (uintO L s).1∧InO H' N b L (uintO L s).2∧Fr [b] H H':=by
 refine calls_of_vc (args:=[_]) Tryz.func35 c35ok (Nat.le_of_ble_eq_true rfl) ?_
 cases s with
 | none=>
   obtain ⟨p,l,a,c,hb,h2,h3,h4,h5,h6,h7⟩:=h
   have hc:=hb.cell
   simp (implicitDefEqProofs:=false) only [go_sem,c35,hc]
   exact ⟨rfl,⟨p,l,a,c,hb,h2,h3,h4,h5,h6,h7⟩,Fr.refl _ _⟩
 | some p=>
   obtain ⟨l,a,c,hb,h2,h3,h4,h5,h6,h7⟩:=h
   have hc:=hb.cell
   simp (implicitDefEqProofs:=false) only [go_sem,c35,hc]
   refine Sto_one hb (by simp) rfl fun H1 hb1 hf1 hs1=>?_
   have hc1:=hb1.cell
   have h21:=bsR_fr0 h2 hf1 (fun b1 o e hn=>by have:=(h3 b1 o e hn).1; simpa using this)
   simp (implicitDefEqProofs:=false) only [go_sem,hc1]
   refine (raw_ok h21 h6 h4).mono ?_
   rintro r H2 ⟨hEq,rfl⟩
   obtain rfl:=hEq.symm
   unfold uintO
   rcases hnum:num (L.drop p) with _ | ⟨n,k⟩
   ·simp (implicitDefEqProofs:=false) only [go_sem,hc1]
    refine Sto_one hb1 (by simp) rfl fun H3 hb3 hf3 hs3=>?_
    simp (implicitDefEqProofs:=false) only [go_sem,hnum]
    first | exact ⟨⟨p,p,InB.upd h21 h3 h6 h7 hb3 hf3 h4 h4⟩,hf1.trans hf3⟩ | exact ⟨rfl,⟨p,p,InB.upd h21 h3 h6 h7 hb3 hf3 h4 h4⟩,hf1.trans hf3⟩
   ·have hbd:=num_bound hnum
    simp only [List.length_drop] at hbd
    simp (implicitDefEqProofs:=false) only [go_sem,hc1]
    refine Sto_one hb1 (by simp) rfl fun H3 hb3 hf3 hs3=>?_
    simp (implicitDefEqProofs:=false) only [go_sem,hnum]
    first | exact ⟨⟨p,InB.upd h21 h3 h6 h7 hb3 hf3 (by omega) h4⟩,hf1.trans hf3⟩ | exact ⟨rfl,⟨p,InB.upd h21 h3 h6 h7 hb3 hf3 (by omega) h4⟩,hf1.trans hf3⟩
theorem zag_half (n:Nat) (h:n < 2^64):zag n=if ((n:Int).tmod 2=0) then IntKind.i64.wrap ((n:Int).tdiv 2) else IntKind.i64.wrap (IntKind.i64.wrap (0 - IntKind.i64.wrap ((n:Int).tdiv 2)) - 1):=by
 rw [Int.tmod_eq_emod_of_nonneg (by omega),Int.tdiv_eq_ediv_of_nonneg (by omega)]
 unfold zag
 by_cases e:n % 2=0
 ·rw [if_pos e,if_pos (by omega),wrap_i64_id _ (by omega) (by omega)]; omega
 ·rw [if_neg e,if_neg (by omega),wrap_i64_id ((n:Int) / 2) (by omega) (by omega),wrap_i64_id (0 - _) (by omega) (by omega),wrap_i64_id _ (by omega) (by omega)]; omega
theorem iint_o (h:InO H N b L s):HCalls Tryz.prog 102 #[.pointer (some ⟨b,0,none⟩)] H fun v H'=>v= .int .i64 (zag (uintO L s).1)∧InO H' N b L (uintO L s).2∧Fr [b] H H':=by
 refine calls_of_vc (args:=[_]) Tryz.func102 c102ok (Nat.le_of_ble_eq_true rfl) ?_
 simp (implicitDefEqProofs:=false) only [go_sem,c102]
 refine (iuint_o h).mono ?_
 rintro r H1 ⟨rfl,h1,hf1⟩
 have hlt:=uintO_lt L s
 have hz:=zag_half _ hlt
 have hw:IntKind.u64.wrap (((uintO L s).1:Int).tdiv 2)=((uintO L s).1:Int).tdiv 2:=wrap_u64_id _ (by rw [Int.tdiv_eq_ediv_of_nonneg (by omega)]; omega) (by rw [Int.tdiv_eq_ediv_of_nonneg (by omega)]; omega)
 by_cases e:((uintO L s).1:Int).tmod 2=0
 ·rw [if_pos e] at hz
  rw [hz]
  simp (implicitDefEqProofs:=false) only [go_sem,e,hw]
  exact ⟨h1,hf1⟩
 ·rw [if_neg e] at hz
  rw [hz]
  simp (implicitDefEqProofs:=false) only [go_sem,e,hw]
  exact ⟨h1,hf1⟩
theorem icount_o (h:InO H N b L s):HCalls Tryz.prog 103 #[.pointer (some ⟨b,0,none⟩)] H fun v H'=>v= .int .i64 (countO L s).1∧InO H' N b L (countO L s).2∧Fr [b] H H':=by
 refine calls_of_vc (args:=[_]) Tryz.func103 c103ok (Nat.le_of_ble_eq_true rfl) ?_
 cases s with
 | none=>
   obtain ⟨p,l,a,c,hb,h2,h3,h4,h5,h6,h7⟩:=h
   have hc:=hb.cell
   simp (implicitDefEqProofs:=false) only [go_sem,c103,hc]
   exact ⟨rfl,⟨p,l,a,c,hb,h2,h3,h4,h5,h6,h7⟩,Fr.refl _ _⟩
 | some p=>
   obtain ⟨l,a,c,hb,h2,h3,h4,h5,h6,h7⟩:=h
   have hc:=hb.cell
   simp (implicitDefEqProofs:=false) only [go_sem,c103,hc]
   refine Sto_one hb (by simp) rfl fun H1 hb1 hf1 hs1=>?_
   have hc1:=hb1.cell
   have h21:=bsR_fr0 h2 hf1 (fun b1 o e hn=>by have:=(h3 b1 o e hn).1; simpa using this)
   simp (implicitDefEqProofs:=false) only [go_sem,hc1]
   refine (raw_ok h21 h6 h4).mono ?_
   rintro r H2 ⟨hEq,rfl⟩
   obtain rfl:=hEq.symm
   unfold countO
   rcases hnum:num (L.drop p) with _ | ⟨n,k⟩
   ·simp (implicitDefEqProofs:=false) only [go_sem,hc1]
    refine Sto_one hb1 (by simp) rfl fun H3 hb3 hf3 hs3=>?_
    simp (implicitDefEqProofs:=false) only [go_sem,hnum]
    first | exact ⟨⟨p,p,InB.upd h21 h3 h6 h7 hb3 hf3 h4 h4⟩,hf1.trans hf3⟩ | exact ⟨rfl,⟨p,p,InB.upd h21 h3 h6 h7 hb3 hf3 h4 h4⟩,hf1.trans hf3⟩
   ·have hbd:=num_bound hnum
    simp only [List.length_drop] at hbd
    have hcn:=count_in (n:=n) (k:=k) (at_:=p) h6 hbd.1 (by omega)
    by_cases hle:p + k + n≤L.length
    ·have hcn':¬ (IntKind.u64.wrap (IntKind.i64.wrap ((L.length:Int) - ((p + k:Nat):Int))) < (n:Int)):=fun q=>(hcn.1 q) hle
     have hw:IntKind.i64.wrap (n:Int)=(n:Int):=wrap_i64_id _ (by omega) (by omega)
     simp (implicitDefEqProofs:=false) only [go_sem,hc1,hcn',hw]
     refine Sto_one hb1 (by simp) rfl fun H3 hb3 hf3 hs3=>?_
     simp (implicitDefEqProofs:=false) only [go_sem,hnum,hle,hw]
     exact ⟨⟨p,InB.upd h21 h3 h6 h7 hb3 hf3 (by omega) h4⟩,hf1.trans hf3⟩
    ·have hcn':=hcn.2 hle
     simp (implicitDefEqProofs:=false) only [go_sem,hc1,hcn']
     refine Sto_one hb1 (by simp) rfl fun H3 hb3 hf3 hs3=>?_
     simp (implicitDefEqProofs:=false) only [go_sem,hnum,hle]
     first | exact ⟨⟨p,p,InB.upd h21 h3 h6 h7 hb3 hf3 h4 h4⟩,hf1.trans hf3⟩ | exact ⟨rfl,⟨p,p,InB.upd h21 h3 h6 h7 hb3 hf3 h4 h4⟩,hf1.trans hf3⟩
theorem ibytes_o (h:InO H N b L s):HCalls Tryz.prog 104 #[.pointer (some ⟨b,0,none⟩)] H fun v H'=>∃ a c g',v= .slice a (bytesO L s).1.length c∧Own H' 5 1 v (bytesO L s).1.length ((bytesO L s).1.map bv) g'∧(∀ k,g'=some k→H.size≤k)∧InO H' N b L (bytesO L s).2∧Fr [b] H H':=by
 refine calls_of_vc (args:=[_]) Tryz.func104 c104ok (Nat.le_of_ble_eq_true rfl) ?_
 cases s with
 | none=>
   obtain ⟨p,l,a,c,hb,h2,h3,h4,h5,h6,h7⟩:=h
   have hc:=hb.cell
   simp (implicitDefEqProofs:=false) only [go_sem,c104,hc]
   exact ⟨none,0,none,rfl,Own.nil _ _ _,by simp,⟨p,l,a,c,hb,h2,h3,h4,h5,h6,h7⟩,Fr.refl _ _⟩
 | some p=>
   obtain ⟨l,a,c,hb,h2,h3,h4,h5,h6,h7⟩:=h
   have hc:=hb.cell
   simp (implicitDefEqProofs:=false) only [go_sem,c104,hc]
   refine Sto_one hb (by simp) rfl fun H1 hb1 hf1 hs1=>?_
   have hc1:=hb1.cell
   have h21:=bsR_fr0 h2 hf1 (fun b1 o e hn=>by have:=(h3 b1 o e hn).1; simpa using this)
   simp (implicitDefEqProofs:=false) only [go_sem,hc1]
   refine (raw_ok h21 h6 h4).mono ?_
   rintro r H2 ⟨hEq,rfl⟩
   obtain rfl:=hEq.symm
   unfold bytesO
   rcases hnum:num (L.drop p) with _ | ⟨n,k⟩
   ·simp (implicitDefEqProofs:=false) only [go_sem,hc1]
    refine Sto_one hb1 (by simp) rfl fun H3 hb3 hf3 hs3=>?_
    simp (implicitDefEqProofs:=false) only [go_sem,hnum]
    exact ⟨none,0,none,rfl,Own.nil _ _ _,by simp,⟨p,p,InB.upd h21 h3 h6 h7 hb3 hf3 h4 h4⟩,hf1.trans hf3⟩
   ·have hbd:=num_bound hnum
    simp only [List.length_drop] at hbd
    have hcn:=count_in (n:=n) (k:=k) (at_:=p) h6 hbd.1 (by omega)
    by_cases hle:p + k + n≤L.length
    ·have hcn':¬ (IntKind.u64.wrap (IntKind.i64.wrap ((L.length:Int) - ((p + k:Nat):Int))) < (n:Int)):=fun q=>(hcn.1 q) hle
     have hw:IntKind.i64.wrap (n:Int)=(n:Int):=wrap_i64_id _ (by omega) (by omega)
     have hw2:IntKind.i64.wrap (((p + k:Nat):Int) + (n:Int))=((p + k + n:Nat):Int):=by rw [wrap_i64_id _ (by omega) (by omega)]; omega
     have z0:(0:Int)≤((p + k:Nat):Int):=by omega
     have z1:(0:Int)≤((p + k + n:Nat):Int):=by omega
     have z2:((p + k + n:Nat):Int)≤(c:Int):=by omega
     have z3:((p + k:Nat):Int)≤((p + k + n:Nat):Int):=by omega
     simp (implicitDefEqProofs:=false) only [go_sem,hc1,hcn',hw,hw2]
     refine Sto_one hb1 (by simp) rfl fun H3 hb3 hf3 hs3=>?_
     have hin:=InB.upd h21 h3 h6 h7 hb3 hf3 hle h4
     have h23:=bsR_fr0 h21 hf3 (fun b1 o e hn=>by have:=(h3 b1 o e hn).1; simpa using this)
     have hc3:=hb3.cell
     simp (implicitDefEqProofs:=false) only [go_sem,hc3,z0,z1,z2,z3]
     refine NewS_intro fun H5 hn5 hf5 hs5=>?_
     have hc5:=(hb3.ext hf5).cell
     simp (implicitDefEqProofs:=false) only [go_sem,hc5]
     have hlen:p + k + n - (p + k)=((L.drop (p + k)).take n).length:=by simp; omega
     have hsub:BsR H5 (if c=p + k then a else Option.map (fun x=>x.add (p + k)) a) ((L.drop (p + k)).take n):=by
      have:=(h23.ext hf5).sub c (lo:=p + k) (hi:=p + k + n) (by omega)
      rwa [show p + k + n - (p + k)=n by omega] at this
     rw [hlen]
     refine App_own EB (Own.of_blk hn5 (by simp) (by decide)) (hsub.src Tryz.underlying22) (by unfold maxLen; omega) (by omega) fun a2 c2 H6 g2 ho6 hf6 hg6=>?_
     have hfr:Fr [] H3 H6:=hf5.trans' hf6 (by simp)
     simp (implicitDefEqProofs:=false) only [go_sem,hnum,hle]
     refine ⟨a2,c2,g2,by simp,by simpa using ho6,?_,?_,(hf1.trans hf3).trans (hfr.mono (by simp))⟩
     ·intro j hj
      have h3:=hf1.size
      have h4:=hf3.size
      rcases hg6 j hj with h | h
      ·simp at h; omega
      ·have:=hf5.size; omega
     ·exact ⟨p,hin.fr hfr (by simp) (by simp)⟩
    ·have hcn':=hcn.2 hle
     simp (implicitDefEqProofs:=false) only [go_sem,hc1,hcn']
     refine Sto_one hb1 (by simp) rfl fun H3 hb3 hf3 hs3=>?_
     simp (implicitDefEqProofs:=false) only [go_sem,hnum,hle]
     exact ⟨none,0,none,rfl,Own.nil _ _ _,by simp,⟨p,p,InB.upd h21 h3 h6 h7 hb3 hf3 h4 h4⟩,hf1.trans hf3⟩
theorem itext_o (h:InO H N b L s):HCalls Tryz.prog 106 #[.pointer (some ⟨b,0,none⟩)] H fun v H'=>v= .string ⟨⟨(bytesO L s).1⟩⟩∧InO H' N b L (bytesO L s).2∧Fr [b] H H':=by
 refine calls_of_vc (args:=[_]) Tryz.func106 c106ok (Nat.le_of_ble_eq_true rfl) ?_
 simp (implicitDefEqProofs:=false) only [go_sem,c106]
 refine (ibytes_o h).mono ?_
 rintro v H1 ⟨a,c,g',rfl,ho,hg,h1,hf1⟩
 simp (implicitDefEqProofs:=false) only [go_sem,ho.bsR.b2s c]
 exact ⟨h1,hf1⟩
theorem iend_o (h:InO H N b L s):HCalls Tryz.prog 46 #[.pointer (some ⟨b,0,none⟩)] H fun v H'=>v= .bool (decide (s=some L.length))∧H'=H:=by
 refine calls_of_vc (args:=[_]) Tryz.func46 c46ok (Nat.le_of_ble_eq_true rfl) ?_
 cases s with
 | none=>
   obtain ⟨p,l,a,c,hb,h2,h3,h4,h5,h6,h7⟩:=h
   have hc:=hb.cell
   simp (implicitDefEqProofs:=false) only [go_sem,c46,hc]
 | some p=>
   obtain ⟨l,a,c,hb,h2,h3,h4,h5,h6,h7⟩:=h
   have hc:=hb.cell
   by_cases e:p=L.length
   ·subst e
    simp (implicitDefEqProofs:=false) only [go_sem,c46,hc]
   ·have e':¬ (p:Int)=(L.length:Int):=by omega
    simp (implicitDefEqProofs:=false) only [go_sem,c46,hc,e',e]
end
end Go.Proofs.YtdhlibkdcldioaaGreat
end
section
set_option linter.unusedSimpArgs false
set_option linter.unusedVariables false
set_option maxRecDepth 8000
namespace Go.Proofs.YtdhlibkdcldioaaGreat
open Gx Go
abbrev Bs:=List UInt8
inductive Ty where
 | num
 | bool
 | bytes
 | text
 | list (t:Ty)
 | pair (a b:Ty)
@[reducible] def den:Ty→Type
  | .num=>Int
  | .bool=>Bool
  | .bytes=>Bs
  | .text=>Bs
  | .list t=>List (den t)
  | .pair a b=>den a × den b
def encT:(t:Ty)→den t→Bs
 | .num,n=>enc (zig n)
 | .bool,b=>[if b then 1 else 0]
 | .bytes,l=>enc l.length ++ l
 | .text,l=>enc l.length ++ l
 | .list t,l=>enc l.length ++ l.flatMap (encT t)
 | .pair a b,d=>encT a d.1 ++ encT b d.2
def okT:(t:Ty)→den t→Prop
 | .num,n=>-2^63≤n∧n < 2^63
 | .bool,_=>True
 | .bytes,l=>l.length < 2^63
 | .text,l=>l.length < 2^63
 | .list t,l=>l.length < 2^63∧∀ x ∈ l,okT t x
 | .pair a b,d=>okT a d.1∧okT b d.2
def repO {α:Type} (f:Pl→α × Pl):Nat→Pl→List α × Pl
 | 0,s=>([],s)
 | _ + 1,none=>([],none)
 | n + 1,some p=>((f (some p)).1 :: (repO f n (f (some p)).2).1,(repO f n (f (some p)).2).2)
def dT (L:Bs):(t:Ty)→Pl→den t × Pl
 | .num,s=>(zag (uintO L s).1,(uintO L s).2)
 | .bool,s=>boolO L s
 | .bytes,s=>bytesO L s
 | .text,s=>bytesO L s
 | .list t,s=>repO (dT L t) (countO L s).1 (countO L s).2
 | .pair a b,s=>(((dT L a s).1,(dT L b (dT L a s).2).1),(dT L b (dT L a s).2).2)
def AtL (L:Bs) (p:Nat) (w:Bs):Prop:=∃ r,L.drop p=w ++ r
theorem AtL.left {L:Bs} {p:Nat} {u v:Bs} (h:AtL L p (u ++ v)):AtL L p u:=by
 obtain ⟨r,h⟩:=h
 exact ⟨v ++ r,by rw [h,List.append_assoc]⟩
theorem AtL.right {L:Bs} {p:Nat} {u v:Bs} (h:AtL L p (u ++ v)):AtL L (p + u.length) v:=by
 obtain ⟨r,h⟩:=h
 refine ⟨r,?_⟩
 rw [← List.drop_drop,h,List.append_assoc,List.drop_left]
theorem AtL.le {L:Bs} {p:Nat} {w:Bs} (h:AtL L p w) (h0:0 < w.length):p + w.length≤L.length:=by
 obtain ⟨r,h⟩:=h
 have:=congrArg List.length h
 simp only [List.length_drop,List.length_append] at this
 omega
theorem num_at {L:Bs} {p n:Nat} (h:AtL L p (enc n)) (hn:n < 2^64):num (L.drop p)=some (n,(enc n).length):=by
 obtain ⟨r,h⟩:=h
 rw [h]; exact num_enc n hn r
theorem uintO_at {L:Bs} {p n:Nat} (h:AtL L p (enc n)) (hn:n < 2^64):uintO L (some p)=(n,some (p + (enc n).length)):=by
 simp only [uintO,num_at h hn]
theorem countO_at {L:Bs} {p n:Nat} {u:Bs} (h:AtL L p (enc n ++ u)) (hn:n≤u.length) (hL:L.length < 2^64):countO L (some p)=(n,some (p + (enc n).length)):=by
 have h1:=len_enc_pos n
 have h2:=h.le (by simp; omega)
 simp only [List.length_append] at h2
 have:num (L.drop p)=some (n,(enc n).length):=num_at h.left (by omega)
 simp only [countO,this]
 rw [if_pos (by omega)]
theorem bytesO_at {L:Bs} {p:Nat} {s:Bs} (h:AtL L p (enc s.length ++ s)) (hL:L.length < 2^64):bytesO L (some p)=(s,some (p + (enc s.length ++ s).length)):=by
 have h1:=len_enc_pos s.length
 have h2:=h.le (by simp; omega)
 simp only [List.length_append] at h2
 have h3:num (L.drop p)=some (s.length,(enc s.length).length):=num_at h.left (by omega)
 simp only [bytesO,h3]
 rw [if_pos (by omega)]
 obtain ⟨r,h4⟩:=h.right
 rw [h4,List.take_left,List.length_append,Nat.add_assoc]
theorem flat_len {α:Type} {f:α→Bs} (hf:∀ x,1≤(f x).length):∀ l:List α,l.length≤(l.flatMap f).length
 | []=>by simp
 | x :: l=>by
   have h1:=flat_len hf l
   have h2:=hf x
   simp only [List.flatMap_cons,List.length_append,List.length_cons]; omega
theorem encT_pos:∀ (t:Ty) (d:den t),1≤(encT t d).length
 | .num,n=>len_enc_pos _
 | .bool,b=>by simp [encT]
 | .bytes,l=>by have:=len_enc_pos l.length; simp only [encT,List.length_append]; omega
 | .text,l=>by have:=len_enc_pos l.length; simp only [encT,List.length_append]; omega
 | .list t,l=>by have:=len_enc_pos (List.length l); simp only [encT,List.length_append]; omega
 | .pair a b,d=>by have:=encT_pos a d.1; simp only [encT,List.length_append]; omega
theorem repO_none {α:Type} (f:Pl→α × Pl) (n:Nat):repO f n none=([],none):=by cases n <;> rfl
theorem repO_succ {α:Type} (f:Pl→α × Pl) (n p:Nat):repO f (n + 1) (some p)=((f (some p)).1 :: (repO f n (f (some p)).2).1,(repO f n (f (some p)).2).2):=rfl
theorem dT_none (L:Bs):∀ t:Ty,(dT L t none).2=none
 | .num=>rfl
 | .bool=>rfl
 | .bytes=>rfl
 | .text=>rfl
 | .list t=>by show (repO (dT L t) 0 none).2=none; rfl
 | .pair a b=>by show (dT L b (dT L a none).2).2=none; rw [dT_none L a]; exact dT_none L b
theorem repO_at {L:Bs} {α:Type} {f:Pl→α × Pl} {e:α→Bs}:∀ (l:List α),(∀ x ∈ l,∀ p,AtL L p (e x)→f (some p)=(x,some (p + (e x).length)))→∀ {p:Nat},AtL L p (l.flatMap e)→repO f l.length (some p)=(l,some (p + (l.flatMap e).length))
 | [],_,p,_=>by simp [repO]
 | x :: l,hf,p,h=>by
   rw [List.flatMap_cons] at h
   have h1:=hf x (by simp) p h.left
   have h2:=repO_at l (fun y hy=>hf y (by simp [hy])) h.right
   simp only [List.length_cons,repO_succ,h1,h2,List.flatMap_cons,List.length_append,Nat.add_assoc]
theorem dT_at {L:Bs} (hL:L.length < 2^63):∀ (t:Ty) (d:den t),okT t d→∀ {p:Nat},AtL L p (encT t d)→dT L t (some p)=(d,some (p + (encT t d).length))
 | .num,n,ho,p,h=>by
   simp only [encT] at h
   simp only [dT,uintO_at h (zig_lt n ho.1 ho.2),zag_zig,encT]
 | .bool,b,_,p,h=>by
   obtain ⟨r,h⟩:=h
   simp only [encT,List.cons_append,List.nil_append] at h
   simp only [dT,boolO,h]
   cases b <;> simp [encT]
 | .bytes,l,_,p,h=>bytesO_at h (by omega)
 | .text,l,_,p,h=>bytesO_at h (by omega)
 | .list t,l,ho,p,h=>by
   simp only [encT] at h
   have h1:=countO_at h (flat_len (encT_pos t) l) (by omega)
   have h2:=repO_at (L:=L) (f:=dT L t) (e:=encT t) l (fun x hx p hp=>dT_at hL t x (ho.2 x hx) hp) h.right
   simp only [dT,h1,h2,encT,List.length_append,Nat.add_assoc]
 | .pair a b,d,ho,p,h=>by
   simp only [encT] at h
   have h1:=dT_at hL a d.1 ho.1 h.left
   have h2:=dT_at hL b d.2 ho.2 h.right
   simp only [dT,h1,h2,encT,List.length_append,Nat.add_assoc]
def Span (L:Bs) (s:Pl) (w:Bs) (q:Nat):Prop:=∃ p,s=some p∧AtL L p w∧q=p + w.length
theorem Span.app {L:Bs} {s:Pl} {u v:Bs} {m q:Nat} (h1:Span L s u m) (h2:Span L (some m) v q):Span L s (u ++ v) q:=by
 obtain ⟨p,rfl,⟨r,h3⟩,rfl⟩:=h1
 obtain ⟨p',e,⟨r',h4⟩,rfl⟩:=h2
 cases e
 refine ⟨p,rfl,⟨r',?_⟩,by rw [List.length_append]; omega⟩
 rw [← List.drop_drop,h3,List.drop_left] at h4
 rw [h3,h4,List.append_assoc]
theorem Span.nil (L:Bs) (p:Nat):Span L (some p) [] p:=⟨p,rfl,⟨L.drop p,rfl⟩,rfl⟩
theorem enc_len' {l:Bs} {n k:Nat} (h:num l=some (n,k)):(enc n).length=k:=by
 have h1:=num_canon h
 have h2:=(num_bound h).2.2.1
 rw [← h1,List.length_take]; omega
theorem span_num {L:Bs} {p n k:Nat} (h:num (L.drop p)=some (n,k)):Span L (some p) (enc n) (p + k):=by
 refine ⟨p,rfl,⟨(L.drop p).drop k,?_⟩,by rw [enc_len' h]⟩
 rw [← num_canon h,List.take_append_drop]
theorem span_uint {L:Bs} {s:Pl} {n q:Nat} (h:uintO L s=(n,some q)):Span L s (enc n) q:=by
 unfold uintO at h
 split at h
 ·split at h
  ·rename_i p n' k e
   simp only [Prod.mk.injEq,Option.some.injEq] at h
   obtain ⟨rfl,rfl⟩:=h
   exact span_num e
  ·cases h
 ·cases h
theorem span_count {L:Bs} {s:Pl} {n q:Nat} (h:countO L s=(n,some q)):Span L s (enc n) q:=by
 unfold countO at h
 split at h
 ·split at h
  ·rename_i p n' k e
   split at h
   ·simp only [Prod.mk.injEq,Option.some.injEq] at h
    obtain ⟨rfl,rfl⟩:=h
    exact span_num e
   ·cases h
  ·cases h
 ·cases h
theorem span_bytes {L:Bs} {s:Pl} {x:Bs} {q:Nat} (h:bytesO L s=(x,some q)):Span L s (enc x.length ++ x) q:=by
 unfold bytesO at h
 split at h
 ·split at h
  ·rename_i _ p _ n k e
   split at h
   ·rename_i hle
    simp only [Prod.mk.injEq,Option.some.injEq] at h
    obtain ⟨rfl,rfl⟩:=h
    have hl:((L.drop (p + k)).take n).length=n:=by rw [List.length_take,List.length_drop]; omega
    rw [hl]
    refine (span_num e).app ⟨p + k,rfl,⟨(L.drop (p + k)).drop n,?_⟩,by rw [hl]⟩
    rw [List.take_append_drop]
   ·cases h
  ·cases h
 ·cases h
theorem span_bool {L:Bs} {s:Pl} {x:Bool} {q:Nat} (h:boolO L s=(x,some q)):Span L s [if x then 1 else 0] q:=by
 unfold boolO at h
 split at h
 ·split at h
  ·rename_i p _ y r e
   split at h
   ·cases h
   ·rename_i hle
    simp only [Prod.mk.injEq,Option.some.injEq] at h
    obtain ⟨rfl,rfl⟩:=h
    refine ⟨p,rfl,⟨r,?_⟩,rfl⟩
    rw [e]
    have hy:y=0∨y=1:=by
     have:y.toNat=0∨y.toNat=1:=by omega
     rcases this with h | h
     ·exact .inl (UInt8.toNat_inj.1 (by rw [h]; rfl))
     ·exact .inr (UInt8.toNat_inj.1 (by rw [h]; rfl))
    rcases hy with rfl | rfl <;> rfl
  ·cases h
 ·cases h
theorem repO_span {L:Bs} {α:Type} {f:Pl→α × Pl} {e:α→Bs} (hf:∀ {s x q},f s=(x,some q)→Span L s (e x) q):∀ (n:Nat) {s:Pl} {l:List α} {q:Nat},repO f n s=(l,some q)→Span L s (l.flatMap e) q∧l.length=n
 | 0,s,l,q,h=>by
   simp only [repO,Prod.mk.injEq] at h
   obtain ⟨rfl,rfl⟩:=h
   exact ⟨Span.nil L q,rfl⟩
 | n + 1,none,l,q,h=>by rw [repO_none] at h; cases h
 | n + 1,some p,l,q,h=>by
   rw [repO_succ] at h
   simp only [Prod.mk.injEq] at h
   obtain ⟨rfl,h⟩:=h
   cases e1:f (some p) with
   | mk x m=>
     rw [e1] at h
     cases m with
     | none=>rw [repO_none] at h; cases h
     | some m=>
       obtain ⟨h1,h2⟩:=repO_span hf n (s:=some m) (l:=(repO f n (some m)).1) (q:=q) (by rw [← h])
       refine ⟨?_,by simp [h2]⟩
       rw [List.flatMap_cons]
       exact (hf e1).app h1
theorem dT_span (L:Bs):∀ (t:Ty) {s:Pl} {d:den t} {q:Nat},dT L t s=(d,some q)→Span L s (encT t d) q
 | .num,s,d,q,h=>by
   simp only [dT,Prod.mk.injEq] at h
   obtain ⟨rfl,h⟩:=h
   simp only [encT,zig_zag]
   exact span_uint (n:=(uintO L s).1) (by rw [← h])
 | .bool,s,d,q,h=>span_bool h
 | .bytes,s,d,q,h=>span_bytes h
 | .text,s,d,q,h=>span_bytes h
 | .list t,s,d,q,h=>by
   simp only [dT] at h
   cases e:countO L s with
   | mk n m=>
     rw [e] at h
     cases m with
     | none=>rw [repO_none] at h; cases h
     | some m=>
       obtain ⟨h1,h2⟩:=repO_span (e:=encT t) (fun h=>dT_span L t h) _ h
       simp only [encT,h2]
       exact (span_count e).app h1
 | .pair a b,s,d,q,h=>by
   simp only [dT,Prod.mk.injEq] at h
   obtain ⟨rfl,h⟩:=h
   cases e:(dT L a s).2 with
   | none=>rw [e,dT_none] at h; cases h
   | some m=>
     rw [e] at h
     simp only [encT,e]
     refine (dT_span L a (d:=(dT L a s).1) (q:=m) (by rw [← e])).app (dT_span L b (d:=(dT L b (some m)).1) (q:=q) (by rw [← h]))
theorem zag_in {n:Nat} (h:n < 2^64):-2^63≤zag n∧zag n < 2^63:=by unfold zag; split <;> omega
theorem bytesO_le (L:Bs) (s:Pl):(bytesO L s).1.length≤L.length:=by
 unfold bytesO
 split
 ·split
  ·split
   ·simp only [List.length_take,List.length_drop]; omega
   ·simp
  ·simp
 ·simp
theorem repO_len {α:Type} (f:Pl→α × Pl):∀ (n:Nat) (s:Pl),(repO f n s).1.length≤n
 | 0,s=>by simp [repO]
 | n + 1,none=>by simp [repO]
 | n + 1,some p=>by
   have:=repO_len f n (f (some p)).2
   simp only [repO_succ,List.length_cons]; omega
theorem repO_all {α:Type} {f:Pl→α × Pl} {P:α→Prop} (hf:∀ s,P (f s).1):∀ (n:Nat) (s:Pl),∀ x ∈ (repO f n s).1,P x
 | 0,s,x,h=>by simp [repO] at h
 | n + 1,none,x,h=>by simp [repO] at h
 | n + 1,some p,x,h=>by
   simp only [repO_succ,List.mem_cons] at h
   rcases h with rfl | h
   ·exact hf _
   ·exact repO_all hf n _ x h
theorem dT_ok {L:Bs} (hL:L.length < 2^63):∀ (t:Ty) (s:Pl),okT t (dT L t s).1
 | .num,s=>zag_in (uintO_lt L s)
 | .bool,s=>trivial
 | .bytes,s=>Nat.lt_of_le_of_lt (bytesO_le L s) hL
 | .text,s=>Nat.lt_of_le_of_lt (bytesO_le L s) hL
 | .list t,s=>⟨Nat.lt_of_le_of_lt (Nat.le_trans (repO_len _ _ _) (countO_le L s)) hL,repO_all (fun s=>dT_ok hL t s) _ _⟩
 | .pair a b,s=>⟨dT_ok hL a s,dT_ok hL b _⟩
theorem encT_free {t:Ty} {d d':den t} (h:okT t d) (h':okT t d') {r r':Bs} (hl:(encT t d ++ r).length < 2^63) (he:encT t d ++ r=encT t d' ++ r'):d=d'∧r=r':=by
 have h1:=dT_at (L:=encT t d ++ r) hl t d h (p:=0) ⟨r,rfl⟩
 have h2:=dT_at (L:=encT t d ++ r) hl t d' h' (p:=0) ⟨r',by rw [← he]; rfl⟩
 rw [h1] at h2
 simp only [Prod.mk.injEq] at h2
 obtain ⟨rfl,_⟩:=h2
 exact ⟨rfl,List.append_cancel_left he⟩
theorem encT_inj {t:Ty} {d d':den t} (h:okT t d) (h':okT t d') (hl:(encT t d).length < 2^63) (he:encT t d=encT t d'):d=d':=
 (encT_free (r:=[]) (r':=[]) h h' (by simpa using hl) (by simpa using he)).1
def wid:Ty→Nat
 | .pair a b=>wid a + wid b
 | _=>1
def datT:(t:Ty)→den t→Dat
 | .num,n=>.v (.int .i64 n)
 | .bool,b=>.v (.bool b)
 | .bytes,l=>.list 1 (l.map fun b=>.v (bv b))
 | .text,l=>.v (.string ⟨⟨l⟩⟩)
 | .list t,l=>.list (wid t) (l.map (datT t))
 | .pair a b,d=>.agg [datT a d.1,datT b d.2]
theorem wid_pos:∀ t,0 < wid t
 | .num | .bool | .bytes | .text | .list _=>Nat.one_pos
 | .pair a b=>by have:=wid_pos a; simp only [wid]; omega
theorem rep_pair {H:Heap} {M:List Nat} {x y:Dat} {cs:List Value}:Rep H M (.agg [x,y]) cs↔∃ c d,cs=c ++ d∧Rep H M x c∧Rep H M y d:=by
 simp only [Rep,Reps]
 constructor
 ·rintro ⟨css,h1,c,xs,rfl,h2,d,ys,rfl,h3,rfl⟩
  exact ⟨c,d,by simpa using h1,h2,h3⟩
 ·rintro ⟨c,d,rfl,h2,h3⟩
  exact ⟨[c,d],by simp,c,[d],rfl,h2,d,[],rfl,h3,rfl⟩
theorem rep_wid {H:Heap} {M:List Nat}:∀ {t:Ty} {d:den t} {cs:List Value},Rep H M (datT t d) cs→cs.length=wid t
 | .num,d,cs,h=>by simp only [datT,Rep] at h; subst h; rfl
 | .bool,d,cs,h=>by simp only [datT,Rep] at h; subst h; rfl
 | .text,d,cs,h=>by simp only [datT,Rep] at h; subst h; rfl
 | .bytes,d,cs,h=>by simp only [datT,Rep] at h; obtain ⟨a,c,css,h,_⟩:=h; subst h; rfl
 | .list t,d,cs,h=>by simp only [datT,Rep] at h; obtain ⟨a,c,css,h,_⟩:=h; subst h; rfl
 | .pair a b,d,cs,h=>by
   simp only [datT] at h
   obtain ⟨c,e,rfl,h1,h2⟩:=rep_pair.1 h
   rw [List.length_append,rep_wid h1,rep_wid h2]; rfl
theorem rep_bytes {H:Heap} {M:List Nat} {l:Bs} {cs:List Value}:Rep H M (datT .bytes l) cs↔∃ a c,cs=[.slice a l.length c]∧l.length≤c∧c≤maxLen∧CsA H M a (l.map bv):=by
 simp only [datT,Rep,List.length_map]
 have key:∀ {l:Bs} {css:List (List Value)},Reps H M (l.map fun b=>.v (bv b)) css↔css=l.map fun b=>[bv b]:=by
  intro l
  induction l with
  | nil=>intro css; simp [Reps]
  | cons b l ih=>
    intro css
    simp only [List.map_cons,Reps,Rep,ih]
    constructor
    ·rintro ⟨x,xs,rfl,rfl,rfl⟩; rfl
    ·rintro rfl; exact ⟨_,_,rfl,rfl,rfl⟩
 have key2:∀ l:Bs,(l.map fun b=>[bv b]).flatten=l.map bv:=fun l=>by
  induction l with
  | nil=>rfl
  | cons b l ih=>simp [ih]
 constructor
 ·rintro ⟨a,c,css,h1,h2,h3,h4,h5,h6⟩
  rw [key] at h4; subst h4
  rw [key2] at h6
  exact ⟨a,c,h1,h2,h3,h6⟩
 ·rintro ⟨a,c,h1,h2,h3,h6⟩
  refine ⟨a,c,_,h1,h2,h3,key.2 rfl,?_,by rw [key2]; exact h6⟩
  intro x hx
  simp only [List.mem_map] at hx
  obtain ⟨b,_,rfl⟩:=hx
  rfl
theorem csR_bsR {H:Heap} {a:Option Addr} {l:Bs}:CsR H a (l.map bv)↔BsR H a l:=by
 unfold CsR BsR
 constructor
 ·rintro (h | ⟨b,o,h1,h2⟩)
  ·exact .inl (by simpa using h)
  ·exact .inr ⟨b,o,h1,fun j hj=>by have:=h2 j (by simpa using hj); simpa using this⟩
 ·rintro (h | ⟨b,o,h1,h2⟩)
  ·exact .inl (by simp [h])
  ·exact .inr ⟨b,o,h1,fun j hj=>by have:=h2 j (by simpa using hj); simpa using this⟩
abbrev tRound:Ty:=.pair .num (.pair .num .num)
abbrev tRead:Ty:=.pair .num (.pair .num .bytes)
abbrev tWrite:Ty:=.pair .text .bytes
abbrev tCmd:Ty:=.pair .num (.pair .num (.pair .num (.pair (.list tWrite) (.pair .num .bytes))))
abbrev tAck:Ty:=.pair .num .bytes
abbrev tCert:Ty:=.pair tRound (.pair (.list tRead) (.pair (.list tCmd) (.pair (.list tCmd) (.pair .num (.pair .bytes (.list tAck))))))
abbrev tBase:Ty:=.pair (.list tCert) (.list tCmd)
abbrev tProof:Ty:=.pair (.list tCert) tCert
abbrev tDigest:Ty:=.pair .bytes (.pair .bytes .num)
abbrev tItem:Ty:=.pair .text (.pair .bool (.pair .bytes (.list .bytes)))
abbrev tMsg:Ty:=.pair .num (.pair .num (.pair .num (.pair tRound (.pair (.list tRead) (.pair (.list tBase) (.pair (.list tCmd) (.pair (.list tAck) (.pair (.list tProof) (.pair (.list tDigest) (.pair (.list .text) (.pair .num (.list tItem))))))))))))
end Go.Proofs.YtdhlibkdcldioaaGreat
end
section
set_option linter.unusedSimpArgs false
set_option linter.unusedVariables false
set_option maxRecDepth 8000
namespace Go.Proofs.YtdhlibkdcldioaaGreat
open Gx Go
theorem succ_i64 (i n:Nat) (h:i < n) (hn:n < 2^63):IntKind.i64.wrap ((i:Int) + 1)=((i + 1:Nat):Int):=by
 rw [wrap_i64_id _ (by omega) (by omega)]; omega
theorem flat_split {α:Type} (f:α→Bs) (ls:List α) (i:Nat) (h:i < ls.length):ls.flatMap f=(ls.take i).flatMap f ++ (f ls[i] ++ (ls.drop (i + 1)).flatMap f):=
 calc ls.flatMap f=(ls.take i ++ ls[i] :: ls.drop (i + 1)).flatMap f:=by rw [← List.drop_eq_getElem_cons h,List.take_append_drop]
  _=_:=by rw [List.flatMap_append,List.flatMap_cons]
theorem flat_succ {α:Type} (f:α→Bs) (ls:List α) (i:Nat) (h:i < ls.length):(ls.take (i + 1)).flatMap f=(ls.take i).flatMap f ++ f ls[i]:=by
 rw [List.take_succ_eq_append_getElem h,List.flatMap_append,List.flatMap_cons,List.flatMap_nil,List.append_nil]
theorem WrStep.refl {H:Heap} {b:Nat} {l:Bs} {g:Option Nat} (h:Wr H b l g):WrStep H b g H l g:=⟨h,Fr.refl _ _,fun k hk=>.inl hk⟩
theorem WrStep.pre {H H1 H':Heap} {b:Nat} {l:List UInt8} {g g':Option Nat} (hf:Fr [] H H1) (h:WrStep H1 b g H' l g'):WrStep H b g H' l g':=
 ⟨h.1,(hf.mono (by simp)).trans h.2.1,fun k hk=>(h.2.2 k hk).imp id fun q=>Nat.le_trans hf.size q⟩
theorem WrStep.post {H H1 H':Heap} {b:Nat} {l:List UInt8} {g g':Option Nat} (h:WrStep H b g H1 l g') (hf:Fr [] H1 H'):WrStep H b g H' l g':=
 ⟨h.1.fr hf (by simp) (by simp),h.2.1.trans (hf.mono (by simp)),h.2.2⟩
theorem Rep.wr {H H':Heap} {b:Nat} {g g':Option Nat} {l:Bs} {d:Dat} {cs:List Value} (h:Rep H (b :: g.toList) d cs) (hs:WrStep H b g H' l g'):Rep H' (b :: g'.toList) d cs:=by
 refine Rep.stay h fun x hx hn=>?_
 refine ⟨?_,hs.2.1.same x hx hn⟩
 simp only [List.mem_cons,not_or] at hn ⊢
 refine ⟨hn.1,fun hm=>?_⟩
 rcases hs.2.2 x (by simpa using hm) with q | q
 ·exact hn.2 (by simp [q])
 ·omega
theorem Blk.wr {H H':Heap} {b x t:Nat} {g g':Option Nat} {l:Bs} {cs:List Value} (h:Blk H x t cs) (hs:WrStep H b g H' l g') (hb:x≠b) (hg:∀ k,g=some k→x≠k):Blk H' x t cs:=by
 refine h.fr hs.2.1 ?_
 simp only [List.mem_cons,not_or]
 refine ⟨hb,fun hm=>?_⟩
 exact hg x (by simpa using hm) rfl
theorem new_fr {H H1 H2:Heap} (hf1:Fr [] H H1) (hf2:Fr [H.size] H1 H2):Fr [] H H2:=hf1.trans' hf2 (by simp)
theorem Wr.ne {H:Heap} {b:Nat} {l:Bs} {g:Option Nat} (h:Wr H b l g):H.size≠b∧∀ k,g=some k→H.size≠k:=by
 refine ⟨by have:=h.lt; omega,fun k hk=>?_⟩
 obtain ⟨aa,cc,_,ho⟩:=h
 have:=ho.lt hk
 omega
theorem rep_one {H:Heap} {M:List Nat}:∀ {t:Ty} {d:den t} {cs:List Value},Rep H M (datT t d) cs→∀ v ∈ cs,v.oneCell'=true
 | .num,d,cs,h=>by simp only [datT,Rep] at h; subst h; simp [Value.oneCell']
 | .bool,d,cs,h=>by simp only [datT,Rep] at h; subst h; simp [Value.oneCell']
 | .text,d,cs,h=>by simp only [datT,Rep] at h; subst h; simp [Value.oneCell']
 | .bytes,d,cs,h=>by obtain ⟨a,c,rfl,_⟩:=rep_bytes.1 h; simp [Value.oneCell']
 | .list t,d,cs,h=>by simp only [datT,Rep] at h; obtain ⟨a,c,css,rfl,_⟩:=h; simp [Value.oneCell']
 | .pair a b,d,cs,h=>by
   obtain ⟨c,e,rfl,h1,h2⟩:=rep_pair.1 h
   intro v hv
   rcases List.mem_append.1 hv with hv | hv
   ·exact rep_one h1 v hv
   ·exact rep_one h2 v hv
theorem rep_num {H:Heap} {M:List Nat} {n:den .num} {cs:List Value} (h:Rep H M (datT .num n) cs):cs=[.int .i64 n]:=by simpa only [datT,Rep] using h
theorem rep_bool {H:Heap} {M:List Nat} {n:den .bool} {cs:List Value} (h:Rep H M (datT .bool n) cs):cs=[.bool n]:=by simpa only [datT,Rep] using h
theorem rep_text {H:Heap} {M:List Nat} {n:den .text} {cs:List Value} (h:Rep H M (datT .text n) cs):cs=[.string ⟨⟨n⟩⟩]:=by simpa only [datT,Rep] using h
theorem rep_list {H:Heap} {M:List Nat} {t:Ty} {ls:den (.list t)} {cs:List Value} (h:Rep H M (datT (.list t) ls) cs):∃ a c,cs=[.slice a ls.length c]∧ls.length≤c∧c≤maxLen:=by
 simp only [datT,Rep,List.length_map] at h
 obtain ⟨a,c,css,h1,h2,h3,_⟩:=h
 exact ⟨a,c,h1,h2,h3⟩
theorem rep_at {H:Heap} {M:List Nat} {t:Ty} {ls:den (.list t)} {v:Value} (h:Rep H M (datT (.list t) ls) [v]) (i:Nat) (hi:i < ls.length) :
 ∃ b o c x,v= .slice (some ⟨b,o,none⟩) ls.length c∧b ∉ M∧x.length=wid t∧(∀ k,k < wid t→cellB H b (o + i * wid t + k)=x[k]?)∧Rep H M (datT t ls[i]) x:=by
 obtain ⟨b,o,c,x,h1,h2,h3,h4,h5⟩:=Rep.at (m:=wid t) (l:=ls.map (datT t)) h i (by simpa using hi) (wid_pos t)
 exact ⟨b,o,c,x,by simpa using h1,h2,h3,h4,by simpa using h5⟩
theorem len1 {x:List Value} (h:x.length=1):∃ x0,x=[x0]:=by
 match x,h with
 | [x0],_=>exact ⟨x0,rfl⟩
theorem len2 {x:List Value} (h:x.length=2):∃ x0 x1,x=[x0,x1]:=by
 match x,h with
 | [x0,x1],_=>exact ⟨x0,x1,rfl⟩
theorem len3 {x:List Value} (h:x.length=3):∃ x0 x1 x2,x=[x0,x1,x2]:=by
 match x,h with
 | [x0,x1,x2],_=>exact ⟨x0,x1,x2,rfl⟩
theorem len4 {x:List Value} (h:x.length=4):∃ x0 x1 x2 x3,x=[x0,x1,x2,x3]:=by
 match x,h with
 | [x0,x1,x2,x3],_=>exact ⟨x0,x1,x2,x3,rfl⟩
theorem len6 {x:List Value} (h:x.length=6):∃ x0 x1 x2 x3 x4 x5,x=[x0,x1,x2,x3,x4,x5]:=by
 match x,h with
 | [x0,x1,x2,x3,x4,x5],_=>exact ⟨x0,x1,x2,x3,x4,x5,rfl⟩
theorem len9 {x:List Value} (h:x.length=9):∃ x0 x1 x2 x3 x4 x5 x6 x7 x8,x=[x0,x1,x2,x3,x4,x5,x6,x7,x8]:=by
 match x,h with
 | [x0,x1,x2,x3,x4,x5,x6,x7,x8],_=>exact ⟨x0,x1,x2,x3,x4,x5,x6,x7,x8,rfl⟩
theorem len10 {x:List Value} (h:x.length=10):∃ x0 x1 x2 x3 x4 x5 x6 x7 x8 x9,x=[x0,x1,x2,x3,x4,x5,x6,x7,x8,x9]:=by
 match x,h with
 | [x0,x1,x2,x3,x4,x5,x6,x7,x8,x9],_=>exact ⟨x0,x1,x2,x3,x4,x5,x6,x7,x8,x9,rfl⟩
def argOf:Ty→List Value→Value
 | .pair _ _,cs=>.agg cs.toArray
 | _,[v]=>v
 | _,_=>undef
@[go_sem] theorem argOf_pair (a b:Ty) (cs:List Value):argOf (.pair a b) cs= .agg cs.toArray:=rfl
def WOk (f:Nat) (t:Ty):Prop:=hasBody Tryz.prog f=true∧∀ (d:den t),okT t d→∀ {H:Heap} {b:Nat} {l:Bs} {g:Option Nat} {cs:List Value},Wr H b l g→Rep H (b :: g.toList) (datT t d) cs→l.length + (encT t d).length < 2^38→
 HCalls Tryz.prog f #[.pointer (some ⟨b,0,none⟩),argOf t cs] H fun r H'=>r= .tuple #[]∧∃ g',WrStep H b g H' (l ++ encT t d) g'
theorem wnum_ok (n:Int) (hn:-2^63≤n∧n < 2^63) {H:Heap} {b:Nat} {l:List UInt8} {g:Option Nat} (h:Wr H b l g) (hl:l.length < 2^40) :
 HCalls Tryz.prog 78 #[.pointer (some ⟨b,0,none⟩),.int .i64 n] H fun r H'=>r= .tuple #[]∧∃ g',WrStep H b g H' (l ++ encT .num n) g':=by
 refine calls_of_vc (args:=[_,_]) Tryz.func78 c78ok (Nat.le_of_ble_eq_true rfl) ?_
 have hx:IntKind.i64.wrap n=n:=wrap_i64_id n hn.1 hn.2
 simp (implicitDefEqProofs:=false) only [go_sem,c78,hx]
 refine (int_ok n hn.1 hn.2 h hl).mono ?_
 rintro r H1 ⟨rfl,g1,w1⟩
 simp (implicitDefEqProofs:=false) only [go_sem]
 exact ⟨g1,w1⟩
end Go.Proofs.YtdhlibkdcldioaaGreat
end
section
set_option linter.unusedSimpArgs false
set_option linter.unusedVariables false
set_option maxRecDepth 8000
namespace Go.Proofs.YtdhlibkdcldioaaGreat
open Gx Go
@[go_sem] theorem argOf_list (t:Ty) (v:Value):argOf (.list t) [v]=v:=rfl
@[go_sem] theorem argOf_bytes (v:Value):argOf .bytes [v]=v:=rfl
def dmg:Chain:=[{ v:=.iface 154 (.agg #[]),recovered:=false }]
def pF (b:Nat):Value:=.pointer (some ⟨b,0,none⟩)
def pR (b:Nat):Value:=.agg #[.pointer (some ⟨b,0,none⟩)]
def RdR (H:Heap) (b:Nat) (L:Bs) (s:Pl) (g:Option Nat) (t:Ty) (v:Value) (H':Heap):Prop:=
 ∃ cs,v=argOf t cs∧RepP H' (fun x=>x < H.size) (datT t (dT L t s).1) cs∧RdO H' b L (dT L t s).2 g∧Fr [b] H H'
def RdE (H:Heap) (b:Nat) (L:Bs) (s:Pl) (t:Ty) (c:Chain) (H':Heap):Prop:=c=dmg∧(dT L t s).2=none∧Fr [b] H H'
def ROk (f:Nat) (t:Ty) (k:Nat→Value):Prop:=hasBody Tryz.prog f=true∧∀ {H:Heap} {b:Nat} {L:Bs} {s:Pl} {g:Option Nat},L.length < 2^36→RdO H b L s g→
 PCalls Tryz.prog f #[k b] H (RdR H b L s g t) (RdE H b L s t)
theorem RepP.pair {H:Heap} {B:Nat→Prop} {x y:Dat} {c d:List Value} (h1:RepP H B x c) (h2:RepP H B y d):RepP H B (.agg [x,y]) (c ++ d):=fun M hM=>rep_pair.2 ⟨c,d,rfl,h1 M hM,h2 M hM⟩
theorem RepP.bytes {H:Heap} {B:Nat→Prop} {l:Bs} {a:Option Addr} {c:Nat} {g:Option Nat} (h:Own H 5 1 (.slice a l.length c) l.length (l.map bv) g) (hg:∀ k,g=some k→¬ B k):RepP H B (datT .bytes l) [.slice a l.length c]:=fun M hM=>by
 rw [rep_bytes]
 have h':=h
 rcases h.2 with ⟨_,h2,h0⟩ | ⟨b,cap,cur,hb,h2,hc,h4,h5,h6,h7⟩
 ·simp only [Value.slice.injEq] at h2
  obtain ⟨rfl,_,rfl⟩:=h2
  have:l=[]:=List.eq_nil_of_length_eq_zero h0
  subst this
  exact ⟨none,0,rfl,by simp,by decide,.inl rfl⟩
 ·simp only [Value.slice.injEq] at h2
  obtain ⟨rfl,_,rfl⟩:=h2
  refine ⟨_,c,rfl,h4,h5,?_⟩
  rcases Own.csR h' with h8 | ⟨b',o,h8,h9⟩
  ·exact .inl h8
  ·simp at h8; obtain ⟨rfl,rfl⟩:=h8
   exact .inr ⟨b,0,rfl,fun hm=>hg b hb (hM b hm),h9⟩
theorem rnum_ok {H:Heap} {b:Nat} {L:Bs} {s:Pl} {g:Option Nat} (h:RdO H b L s g) :
 HCalls Tryz.prog 132 #[pR b] H fun v H'=>v= .int .i64 (dT L .num s).1∧RdO H' b L (dT L .num s).2 g∧Fr [b] H H':=by
 refine calls_of_vc (args:=[_]) Tryz.func132 c132ok (Nat.le_of_ble_eq_true rfl) ?_
 have hz:=zag_in (uintO_lt L s)
 have hx:IntKind.i64.wrap (zag (uintO L s).1)=zag (uintO L s).1:=wrap_i64_id _ hz.1 hz.2
 simp (implicitDefEqProofs:=false) only [go_sem,c132,pR]
 refine NewP_intro fun H1 hn1 hf1 hs1=>?_
 have hc1:=hn1.cell
 simp (implicitDefEqProofs:=false) only [go_sem,hc1]
 refine (rint_o (h.ext hf1)).mono ?_
 rintro v H2 ⟨rfl,h2,hf2⟩
 simp (implicitDefEqProofs:=false) only [go_sem,hx]
 exact ⟨rfl,h2,(hf1.mono (by simp)).trans hf2⟩
theorem check_ok {H:Heap} {b:Nat} {L:Bs} {s:Pl} {g:Option Nat} (h:RdO H b L s g) :
 PCalls Tryz.prog 155 #[pR b] H (fun v H'=>v= .tuple #[]∧s.isSome=true∧RdO H' b L s g∧Fr [] H H') (fun c H'=>c=dmg∧s=none∧Fr [] H H'):=by
 refine pcalls_of_vc (args:=[_]) Tryz.func155 c155ok (Nat.le_of_ble_eq_true rfl) ?_
 simp (implicitDefEqProofs:=false) only [go_sem,c155,pR]
 refine NewP_intro fun H1 hn1 hf1 hs1=>?_
 have hc1:=hn1.cell
 simp (implicitDefEqProofs:=false) only [go_sem,hc1]
 refine (rerr_o (h.ext hf1)).mono ?_
 rintro v H2 ⟨rfl,rfl⟩
 cases s with
 | some p=>
   simp (implicitDefEqProofs:=false) only [go_sem]
   exact ⟨h.ext hf1,hf1⟩
 | none=>
   simp (implicitDefEqProofs:=false) only [go_sem]
   exact ⟨rfl,hf1⟩
theorem rbytes_ok':ROk 156 .bytes pF:=by
 refine ⟨by kernel_rfl,fun {H b L s g} hL h=>?_⟩
 refine (rbytes_o h).mono ?_
 rintro v H' ⟨a,c,g',rfl,ho,hg,h1,hf⟩
 exact ⟨_,rfl,RepP.bytes ho fun k hk=>by have:=hg k hk; omega,h1,hf⟩
theorem rtext_ok':ROk 147 .text pF:=by
 refine ⟨by kernel_rfl,fun {H b L s g} hL h=>?_⟩
 refine (rtext_o h).mono ?_
 rintro v H' ⟨rfl,h1,hf⟩
 exact ⟨_,rfl,RepP.v _,h1,hf⟩
theorem RepP.on {H H':Heap} {d:Dat} {cs:List Value} {n m:Nat} {M:List Nat} (h:RepP H (fun x=>x < n) d cs) (hf:Fr M H H') (hm:∀ x ∈ M,x < n∨H.size≤x) (hn:m≤n):RepP H' (fun x=>x < m) d cs:=
 RepP.fr h hf hm fun x hx=>.inl (Nat.lt_of_lt_of_le hx hn)
theorem dT_pair (L:Bs) (a b:Ty) (s:Pl):dT L (.pair a b) s=(((dT L a s).1,(dT L b (dT L a s).2).1),(dT L b (dT L a s).2).2):=rfl
theorem repO_end {α:Type} {f:Pl→α × Pl} {n i p:Nat} (hi:i < n) (h:(f (some p)).2=none):(repO f (n - i) (some p)).2=none:=by
 rw [show n - i=(n - (i + 1)) + 1 by omega,repO_succ,h,repO_none]
theorem repO_step {α:Type} {f:Pl→α × Pl} {n i p q:Nat} {x:α} (hi:i < n) (h:f (some p)=(x,some q)):repO f (n - i) (some p)=(x :: (repO f (n - (i + 1)) (some q)).1,(repO f (n - (i + 1)) (some q)).2):=by
 rw [show n - i=(n - (i + 1)) + 1 by omega,repO_succ,h]
end Go.Proofs.YtdhlibkdcldioaaGreat
end
section
set_option linter.unusedSimpArgs false
set_option linter.unusedVariables false
set_option maxRecDepth 8000
namespace Go.Proofs.YtdhlibkdcldioaaGreat
open Gx Go
theorem EReadID:ElemOk Tryz.prog 30 92 3 40 (.agg #[.int .i64 0,.int .i64 0,.slice none 0 0]):=⟨Tryz.underlying30,by kernel_rfl,rfl,by decide⟩
set_option maxHeartbeats 1000000 in
theorem elemsReadID_ok {f:Nat} {t:Ty} {k:Nat→Value} (hw:wid t=3) (hp:∀ cs,argOf t cs= .agg cs.toArray) (hf:ROk f t k) {H:Heap} {b:Nat} {L:Bs} {s:Pl} {g:Option Nat} (hL:L.length < 2^36) (h:RdO H b L s g) :
 PCalls Tryz.prog 134 #[pR b,.func (.func f) #[k b] #[]] H (RdR H b L s g (.list t)) (RdE H b L s (.list t)):=by
 refine pcalls_of_vc (args:=[_,_]) Tryz.func134 c134ok (Nat.le_of_ble_eq_true rfl) ?_
 simp (implicitDefEqProofs:=false) only [go_sem,c134,pR]
 refine NewP_intro fun H1 hn1 hf1 hs1=>?_
 have hc1:=hn1.cell
 have hbx:H.size≠b:=by have:=h.lt; omega
 have hbH:b < H.size:=h.lt
 simp (implicitDefEqProofs:=false) only [go_sem,hc1]
 refine (rcount_o (h.ext hf1)).mono ?_
 rintro v H2 ⟨rfl,h2,hf2⟩
 have hb2:=hn1.fr hf2 (by simpa using hbx)
 have hc2:=hb2.cell
 simp (implicitDefEqProofs:=false) only [go_sem,hc2]
 have hck:=check_ok h2
 rw [pR] at hck
 refine PCalls.mono hck ?_ ?_
 rotate_left
 ·rintro c H3 ⟨rfl,hn,hf3⟩
  refine ⟨rfl,?_,(hf1.mono (by simp)).trans (hf2.trans (hf3.mono (by simp)))⟩
  simp only [dT,hn,repO_none]
 rintro v H3 ⟨rfl,hs,h3,hf3⟩
 obtain ⟨p,hp'⟩:=Option.isSome_iff_exists.1 hs
 obtain ⟨n,hn⟩:∃ n,n=(countO L s).1:=⟨_,rfl⟩
 have hnL:n≤L.length:=by rw [hn]; exact countO_le L s
 have hD:dT L (.list t) s=repO (dT L t) n (some p):=by simp only [dT,← hp',hn]
 rw [hp'] at h3
 rw [← hn]
 have hf13:Fr [b] H1 H3:=hf2.trans (hf3.mono (by simp))
 simp (implicitDefEqProofs:=false) only [go_sem]
 refine vc_loop (fun (x:Nat × List (den t) × Nat × Value × Option Nat) H'=>x.1≤n∧x.2.1.length=x.1∧LsO H' (fun y=>y < H1.size) 92 3 x.2.2.2.1 (x.2.1.map (datT t)) x.2.2.2.2∧(∀ k,x.2.2.2.2=some k→H1.size≤k)∧RdO H' b L (some x.2.2.1) g∧Fr [b] H1 H'∧
  repO (dT L t) n (some p)=(x.2.1 ++ (repO (dT L t) (n - x.1) (some x.2.2.1)).1,(repO (dT L t) (n - x.1) (some x.2.2.1)).2))
  (fun x=>[(1,.func (.func f) #[k b] #[]),(2,.pointer (some ⟨H.size,0,none⟩)),(5,x.2.2.2.1),(12,.int .i64 n),(13,.int .i64 x.1)]) (fun x=>n - x.1) (0,[],p,.slice none 0 0,none) ?_ ?_ ?_
 ·exact ⟨Nat.zero_le _,rfl,LsO.nil,by simp,h3,hf13,by simp⟩
 ·simp (implicitDefEqProofs:=false) only [go_sem]
 ·rintro ⟨i,ds,q,vo,go⟩ H' ⟨hi,hdl,hls,hgo,hrd,hfr,hrep⟩
  simp only at hi hdl hls hgo hrd hfr hrep
  rcases Nat.lt_or_ge i n with hlt | hge
  ·have hlt':(i:Int) < (n:Int):=by omega
   have hw1:=succ_i64 i n hlt (by omega)
   simp (implicitDefEqProofs:=false) only [go_sem,hlt']
   refine ⟨hf.1,PCalls.mono (hf.2 hL hrd) ?_ ?_⟩
   rotate_left
   ·rintro c H5 ⟨rfl,he,hf5⟩
    refine ⟨rfl,?_,(hf1.mono (by simp)).trans (hfr.trans hf5)⟩
    rw [hD,hrep]
    exact repO_end hlt he
   rintro v H5 ⟨cs,rfl,hr5,hrd5,hf5⟩
   have hxl:=rep_wid hr5.rep
   rw [hw] at hxl
   obtain ⟨x0,x1,x2,rfl⟩:=len3 hxl
   rw [hp]
   simp (implicitDefEqProofs:=false) only [go_sem]
   refine NewS_intro fun H6 hn6 hf6 hs6=>?_
   have hsz1:=hfr.size
   have hsz5:=hf5.size
   have hb1:b < H1.size:=by omega
   have hls6:LsO H6 (fun y=>y < H1.size) 92 3 vo (ds.map (datT t)) go:=(hls.fr hf5 (fun x hx=>.inl (by simp at hx; omega)) (fun k hk=>by have:=hgo k hk; simp; omega) (fun x hx=>.inl hx)).ext hf6 fun x hx=>.inl hx
   have hd6:RepP H6 (fun y=>y < H1.size∨go=some y) (datT t (dT L t (some q)).1) [x0,x1,x2]:=by
    refine RepP.ext hr5 hf6 fun x hx=>.inl ?_
    rcases hx with hx | hx
    ·omega
    ·exact hls.lt hx
   simp (implicitDefEqProofs:=false) only [go_sem]
   refine App_ls EReadID hls6 Tryz.underlying30 hn6 rfl (rep_one hr5.rep) hd6 rfl (by simp only [List.length_map]; unfold maxLen; omega) (by simp only [List.length_map]; omega) fun a c H7 g7 hl7 hf7 hg7=>?_
   have hg71:∀ k,g7=some k→H1.size≤k:=by
    intro k hk
    rcases hg7 k hk with q | q
    ·exact hgo k q
    ·have:=hf6.size; omega
   have hrd7:RdO H7 b L (dT L t (some q)).2 g:=(hrd5.ext hf6).fr hf7 (fun hm=>by have:=hgo b (by simpa using hm); omega) (fun k hk hm=>by
    have h1:=hgo k (by simpa using hm)
    have h2:=h.ltg hk
    omega)
   have hf17:Fr [b] H1 H7:=(hfr.trans (hf5.trans (hf6.mono (by simp)))).trans' hf7 fun x hx=>.inr (hgo x (by simpa using hx))
   have hb7:=hn1.fr hf17 (by simpa using hbx)
   have hc7:=hb7.cell
   simp (implicitDefEqProofs:=false) only [go_sem,hc7]
   have hck7:=check_ok hrd7
   rw [pR] at hck7
   refine PCalls.mono hck7 ?_ ?_
   rotate_left
   ·rintro c H8 ⟨rfl,he,hf8⟩
    refine ⟨rfl,?_,(hf1.mono (by simp)).trans (hf17.trans (hf8.mono (by simp)))⟩
    rw [hD,hrep]
    exact repO_end hlt he
   rintro v H8 ⟨rfl,hs8,h8,hf8⟩
   obtain ⟨q',hq'⟩:=Option.isSome_iff_exists.1 hs8
   rw [hq'] at h8
   have hstep:=repO_step (f:=dT L t) (p:=q) (x:=(dT L t (some q)).1) (q:=q') hlt (by rw [← hq'])
   simp (implicitDefEqProofs:=false) only [go_sem]
   refine loopK_intro (i + 1,ds ++ [(dT L t (some q)).1],q',.slice a ((ds.map (datT t)).length + 1) c,g7) (by show n - (i + 1) < n - i; omega) ?_ ?_
   ·simp (implicitDefEqProofs:=false) only [go_sem,hw1]
   ·refine ⟨hlt,by simp [hdl],?_,hg71,h8,hf17.trans (hf8.mono (by simp)),?_⟩
    ·have:=hl7.ext hf8 (B':=fun y=>y < H1.size) fun x hx=>.inl hx
     simpa using this
    ·rw [hrep,hstep]; simp
  ·have hge':¬ (i:Int) < (n:Int):=by omega
   have hin:i=n:=by omega
   subst hin
   simp (implicitDefEqProofs:=false) only [go_sem,hge']
   rw [Nat.sub_self] at hrep
   simp only [repO,List.append_nil] at hrep
   refine ⟨[vo],rfl,?_,?_,(hf1.mono (by simp)).trans hfr⟩
   ·rw [hD,hrep]
    have hr:=hls.rep fun b hb hx=>by have:=hgo b hb; omega
    have hE:datT (.list t) ds= .list 3 (ds.map (datT t)):=by simp only [datT,hw]
    rw [hE]
    exact hr.more fun x hx=>.inl (by have:=hf1.size; omega)
   ·rw [hD,hrep]; exact hrd
theorem EBase:ElemOk Tryz.prog 31 60 2 48 (.agg #[.slice none 0 0,.slice none 0 0]):=⟨Tryz.underlying31,by kernel_rfl,rfl,by decide⟩
set_option maxHeartbeats 1000000 in
theorem elemsBase_ok {f:Nat} {t:Ty} {k:Nat→Value} (hw:wid t=2) (hp:∀ cs,argOf t cs= .agg cs.toArray) (hf:ROk f t k) {H:Heap} {b:Nat} {L:Bs} {s:Pl} {g:Option Nat} (hL:L.length < 2^36) (h:RdO H b L s g) :
 PCalls Tryz.prog 136 #[pR b,.func (.func f) #[k b] #[]] H (RdR H b L s g (.list t)) (RdE H b L s (.list t)):=by
 refine pcalls_of_vc (args:=[_,_]) Tryz.func136 c136ok (Nat.le_of_ble_eq_true rfl) ?_
 simp (implicitDefEqProofs:=false) only [go_sem,c136,pR]
 refine NewP_intro fun H1 hn1 hf1 hs1=>?_
 have hc1:=hn1.cell
 have hbx:H.size≠b:=by have:=h.lt; omega
 have hbH:b < H.size:=h.lt
 simp (implicitDefEqProofs:=false) only [go_sem,hc1]
 refine (rcount_o (h.ext hf1)).mono ?_
 rintro v H2 ⟨rfl,h2,hf2⟩
 have hb2:=hn1.fr hf2 (by simpa using hbx)
 have hc2:=hb2.cell
 simp (implicitDefEqProofs:=false) only [go_sem,hc2]
 have hck:=check_ok h2
 rw [pR] at hck
 refine PCalls.mono hck ?_ ?_
 rotate_left
 ·rintro c H3 ⟨rfl,hn,hf3⟩
  refine ⟨rfl,?_,(hf1.mono (by simp)).trans (hf2.trans (hf3.mono (by simp)))⟩
  simp only [dT,hn,repO_none]
 rintro v H3 ⟨rfl,hs,h3,hf3⟩
 obtain ⟨p,hp'⟩:=Option.isSome_iff_exists.1 hs
 obtain ⟨n,hn⟩:∃ n,n=(countO L s).1:=⟨_,rfl⟩
 have hnL:n≤L.length:=by rw [hn]; exact countO_le L s
 have hD:dT L (.list t) s=repO (dT L t) n (some p):=by simp only [dT,← hp',hn]
 rw [hp'] at h3
 rw [← hn]
 have hf13:Fr [b] H1 H3:=hf2.trans (hf3.mono (by simp))
 simp (implicitDefEqProofs:=false) only [go_sem]
 refine vc_loop (fun (x:Nat × List (den t) × Nat × Value × Option Nat) H'=>x.1≤n∧x.2.1.length=x.1∧LsO H' (fun y=>y < H1.size) 60 2 x.2.2.2.1 (x.2.1.map (datT t)) x.2.2.2.2∧(∀ k,x.2.2.2.2=some k→H1.size≤k)∧RdO H' b L (some x.2.2.1) g∧Fr [b] H1 H'∧
  repO (dT L t) n (some p)=(x.2.1 ++ (repO (dT L t) (n - x.1) (some x.2.2.1)).1,(repO (dT L t) (n - x.1) (some x.2.2.1)).2))
  (fun x=>[(1,.func (.func f) #[k b] #[]),(2,.pointer (some ⟨H.size,0,none⟩)),(5,x.2.2.2.1),(12,.int .i64 n),(13,.int .i64 x.1)]) (fun x=>n - x.1) (0,[],p,.slice none 0 0,none) ?_ ?_ ?_
 ·exact ⟨Nat.zero_le _,rfl,LsO.nil,by simp,h3,hf13,by simp⟩
 ·simp (implicitDefEqProofs:=false) only [go_sem]
 ·rintro ⟨i,ds,q,vo,go⟩ H' ⟨hi,hdl,hls,hgo,hrd,hfr,hrep⟩
  simp only at hi hdl hls hgo hrd hfr hrep
  rcases Nat.lt_or_ge i n with hlt | hge
  ·have hlt':(i:Int) < (n:Int):=by omega
   have hw1:=succ_i64 i n hlt (by omega)
   simp (implicitDefEqProofs:=false) only [go_sem,hlt']
   refine ⟨hf.1,PCalls.mono (hf.2 hL hrd) ?_ ?_⟩
   rotate_left
   ·rintro c H5 ⟨rfl,he,hf5⟩
    refine ⟨rfl,?_,(hf1.mono (by simp)).trans (hfr.trans hf5)⟩
    rw [hD,hrep]
    exact repO_end hlt he
   rintro v H5 ⟨cs,rfl,hr5,hrd5,hf5⟩
   have hxl:=rep_wid hr5.rep
   rw [hw] at hxl
   obtain ⟨x0,x1,rfl⟩:=len2 hxl
   rw [hp]
   simp (implicitDefEqProofs:=false) only [go_sem]
   refine NewS_intro fun H6 hn6 hf6 hs6=>?_
   have hsz1:=hfr.size
   have hsz5:=hf5.size
   have hb1:b < H1.size:=by omega
   have hls6:LsO H6 (fun y=>y < H1.size) 60 2 vo (ds.map (datT t)) go:=(hls.fr hf5 (fun x hx=>.inl (by simp at hx; omega)) (fun k hk=>by have:=hgo k hk; simp; omega) (fun x hx=>.inl hx)).ext hf6 fun x hx=>.inl hx
   have hd6:RepP H6 (fun y=>y < H1.size∨go=some y) (datT t (dT L t (some q)).1) [x0,x1]:=by
    refine RepP.ext hr5 hf6 fun x hx=>.inl ?_
    rcases hx with hx | hx
    ·omega
    ·exact hls.lt hx
   simp (implicitDefEqProofs:=false) only [go_sem]
   refine App_ls EBase hls6 Tryz.underlying31 hn6 rfl (rep_one hr5.rep) hd6 rfl (by simp only [List.length_map]; unfold maxLen; omega) (by simp only [List.length_map]; omega) fun a c H7 g7 hl7 hf7 hg7=>?_
   have hg71:∀ k,g7=some k→H1.size≤k:=by
    intro k hk
    rcases hg7 k hk with q | q
    ·exact hgo k q
    ·have:=hf6.size; omega
   have hrd7:RdO H7 b L (dT L t (some q)).2 g:=(hrd5.ext hf6).fr hf7 (fun hm=>by have:=hgo b (by simpa using hm); omega) (fun k hk hm=>by
    have h1:=hgo k (by simpa using hm)
    have h2:=h.ltg hk
    omega)
   have hf17:Fr [b] H1 H7:=(hfr.trans (hf5.trans (hf6.mono (by simp)))).trans' hf7 fun x hx=>.inr (hgo x (by simpa using hx))
   have hb7:=hn1.fr hf17 (by simpa using hbx)
   have hc7:=hb7.cell
   simp (implicitDefEqProofs:=false) only [go_sem,hc7]
   have hck7:=check_ok hrd7
   rw [pR] at hck7
   refine PCalls.mono hck7 ?_ ?_
   rotate_left
   ·rintro c H8 ⟨rfl,he,hf8⟩
    refine ⟨rfl,?_,(hf1.mono (by simp)).trans (hf17.trans (hf8.mono (by simp)))⟩
    rw [hD,hrep]
    exact repO_end hlt he
   rintro v H8 ⟨rfl,hs8,h8,hf8⟩
   obtain ⟨q',hq'⟩:=Option.isSome_iff_exists.1 hs8
   rw [hq'] at h8
   have hstep:=repO_step (f:=dT L t) (p:=q) (x:=(dT L t (some q)).1) (q:=q') hlt (by rw [← hq'])
   simp (implicitDefEqProofs:=false) only [go_sem]
   refine loopK_intro (i + 1,ds ++ [(dT L t (some q)).1],q',.slice a ((ds.map (datT t)).length + 1) c,g7) (by show n - (i + 1) < n - i; omega) ?_ ?_
   ·simp (implicitDefEqProofs:=false) only [go_sem,hw1]
   ·refine ⟨hlt,by simp [hdl],?_,hg71,h8,hf17.trans (hf8.mono (by simp)),?_⟩
    ·have:=hl7.ext hf8 (B':=fun y=>y < H1.size) fun x hx=>.inl hx
     simpa using this
    ·rw [hrep,hstep]; simp
  ·have hge':¬ (i:Int) < (n:Int):=by omega
   have hin:i=n:=by omega
   subst hin
   simp (implicitDefEqProofs:=false) only [go_sem,hge']
   rw [Nat.sub_self] at hrep
   simp only [repO,List.append_nil] at hrep
   refine ⟨[vo],rfl,?_,?_,(hf1.mono (by simp)).trans hfr⟩
   ·rw [hD,hrep]
    have hr:=hls.rep fun b hb hx=>by have:=hgo b hb; omega
    have hE:datT (.list t) ds= .list 2 (ds.map (datT t)):=by simp only [datT,hw]
    rw [hE]
    exact hr.more fun x hx=>.inl (by have:=hf1.size; omega)
   ·rw [hD,hrep]; exact hrd
theorem ECommand:ElemOk Tryz.prog 32 99 6 80 (.agg #[.int .i64 0,.int .i64 0,.int .i64 0,.slice none 0 0,.int .i64 0,.slice none 0 0]):=⟨Tryz.underlying32,by kernel_rfl,rfl,by decide⟩
set_option maxHeartbeats 1000000 in
theorem elemsCommand_ok {f:Nat} {t:Ty} {k:Nat→Value} (hw:wid t=6) (hp:∀ cs,argOf t cs= .agg cs.toArray) (hf:ROk f t k) {H:Heap} {b:Nat} {L:Bs} {s:Pl} {g:Option Nat} (hL:L.length < 2^36) (h:RdO H b L s g) :
 PCalls Tryz.prog 138 #[pR b,.func (.func f) #[k b] #[]] H (RdR H b L s g (.list t)) (RdE H b L s (.list t)):=by
 refine pcalls_of_vc (args:=[_,_]) Tryz.func138 c138ok (Nat.le_of_ble_eq_true rfl) ?_
 simp (implicitDefEqProofs:=false) only [go_sem,c138,pR]
 refine NewP_intro fun H1 hn1 hf1 hs1=>?_
 have hc1:=hn1.cell
 have hbx:H.size≠b:=by have:=h.lt; omega
 have hbH:b < H.size:=h.lt
 simp (implicitDefEqProofs:=false) only [go_sem,hc1]
 refine (rcount_o (h.ext hf1)).mono ?_
 rintro v H2 ⟨rfl,h2,hf2⟩
 have hb2:=hn1.fr hf2 (by simpa using hbx)
 have hc2:=hb2.cell
 simp (implicitDefEqProofs:=false) only [go_sem,hc2]
 have hck:=check_ok h2
 rw [pR] at hck
 refine PCalls.mono hck ?_ ?_
 rotate_left
 ·rintro c H3 ⟨rfl,hn,hf3⟩
  refine ⟨rfl,?_,(hf1.mono (by simp)).trans (hf2.trans (hf3.mono (by simp)))⟩
  simp only [dT,hn,repO_none]
 rintro v H3 ⟨rfl,hs,h3,hf3⟩
 obtain ⟨p,hp'⟩:=Option.isSome_iff_exists.1 hs
 obtain ⟨n,hn⟩:∃ n,n=(countO L s).1:=⟨_,rfl⟩
 have hnL:n≤L.length:=by rw [hn]; exact countO_le L s
 have hD:dT L (.list t) s=repO (dT L t) n (some p):=by simp only [dT,← hp',hn]
 rw [hp'] at h3
 rw [← hn]
 have hf13:Fr [b] H1 H3:=hf2.trans (hf3.mono (by simp))
 simp (implicitDefEqProofs:=false) only [go_sem]
 refine vc_loop (fun (x:Nat × List (den t) × Nat × Value × Option Nat) H'=>x.1≤n∧x.2.1.length=x.1∧LsO H' (fun y=>y < H1.size) 99 6 x.2.2.2.1 (x.2.1.map (datT t)) x.2.2.2.2∧(∀ k,x.2.2.2.2=some k→H1.size≤k)∧RdO H' b L (some x.2.2.1) g∧Fr [b] H1 H'∧
  repO (dT L t) n (some p)=(x.2.1 ++ (repO (dT L t) (n - x.1) (some x.2.2.1)).1,(repO (dT L t) (n - x.1) (some x.2.2.1)).2))
  (fun x=>[(1,.func (.func f) #[k b] #[]),(2,.pointer (some ⟨H.size,0,none⟩)),(5,x.2.2.2.1),(12,.int .i64 n),(13,.int .i64 x.1)]) (fun x=>n - x.1) (0,[],p,.slice none 0 0,none) ?_ ?_ ?_
 ·exact ⟨Nat.zero_le _,rfl,LsO.nil,by simp,h3,hf13,by simp⟩
 ·simp (implicitDefEqProofs:=false) only [go_sem]
 ·rintro ⟨i,ds,q,vo,go⟩ H' ⟨hi,hdl,hls,hgo,hrd,hfr,hrep⟩
  simp only at hi hdl hls hgo hrd hfr hrep
  rcases Nat.lt_or_ge i n with hlt | hge
  ·have hlt':(i:Int) < (n:Int):=by omega
   have hw1:=succ_i64 i n hlt (by omega)
   simp (implicitDefEqProofs:=false) only [go_sem,hlt']
   refine ⟨hf.1,PCalls.mono (hf.2 hL hrd) ?_ ?_⟩
   rotate_left
   ·rintro c H5 ⟨rfl,he,hf5⟩
    refine ⟨rfl,?_,(hf1.mono (by simp)).trans (hfr.trans hf5)⟩
    rw [hD,hrep]
    exact repO_end hlt he
   rintro v H5 ⟨cs,rfl,hr5,hrd5,hf5⟩
   have hxl:=rep_wid hr5.rep
   rw [hw] at hxl
   obtain ⟨x0,x1,x2,x3,x4,x5,rfl⟩:=len6 hxl
   rw [hp]
   simp (implicitDefEqProofs:=false) only [go_sem]
   refine NewS_intro fun H6 hn6 hf6 hs6=>?_
   have hsz1:=hfr.size
   have hsz5:=hf5.size
   have hb1:b < H1.size:=by omega
   have hls6:LsO H6 (fun y=>y < H1.size) 99 6 vo (ds.map (datT t)) go:=(hls.fr hf5 (fun x hx=>.inl (by simp at hx; omega)) (fun k hk=>by have:=hgo k hk; simp; omega) (fun x hx=>.inl hx)).ext hf6 fun x hx=>.inl hx
   have hd6:RepP H6 (fun y=>y < H1.size∨go=some y) (datT t (dT L t (some q)).1) [x0,x1,x2,x3,x4,x5]:=by
    refine RepP.ext hr5 hf6 fun x hx=>.inl ?_
    rcases hx with hx | hx
    ·omega
    ·exact hls.lt hx
   simp (implicitDefEqProofs:=false) only [go_sem]
   refine App_ls ECommand hls6 Tryz.underlying32 hn6 rfl (rep_one hr5.rep) hd6 rfl (by simp only [List.length_map]; unfold maxLen; omega) (by simp only [List.length_map]; omega) fun a c H7 g7 hl7 hf7 hg7=>?_
   have hg71:∀ k,g7=some k→H1.size≤k:=by
    intro k hk
    rcases hg7 k hk with q | q
    ·exact hgo k q
    ·have:=hf6.size; omega
   have hrd7:RdO H7 b L (dT L t (some q)).2 g:=(hrd5.ext hf6).fr hf7 (fun hm=>by have:=hgo b (by simpa using hm); omega) (fun k hk hm=>by
    have h1:=hgo k (by simpa using hm)
    have h2:=h.ltg hk
    omega)
   have hf17:Fr [b] H1 H7:=(hfr.trans (hf5.trans (hf6.mono (by simp)))).trans' hf7 fun x hx=>.inr (hgo x (by simpa using hx))
   have hb7:=hn1.fr hf17 (by simpa using hbx)
   have hc7:=hb7.cell
   simp (implicitDefEqProofs:=false) only [go_sem,hc7]
   have hck7:=check_ok hrd7
   rw [pR] at hck7
   refine PCalls.mono hck7 ?_ ?_
   rotate_left
   ·rintro c H8 ⟨rfl,he,hf8⟩
    refine ⟨rfl,?_,(hf1.mono (by simp)).trans (hf17.trans (hf8.mono (by simp)))⟩
    rw [hD,hrep]
    exact repO_end hlt he
   rintro v H8 ⟨rfl,hs8,h8,hf8⟩
   obtain ⟨q',hq'⟩:=Option.isSome_iff_exists.1 hs8
   rw [hq'] at h8
   have hstep:=repO_step (f:=dT L t) (p:=q) (x:=(dT L t (some q)).1) (q:=q') hlt (by rw [← hq'])
   simp (implicitDefEqProofs:=false) only [go_sem]
   refine loopK_intro (i + 1,ds ++ [(dT L t (some q)).1],q',.slice a ((ds.map (datT t)).length + 1) c,g7) (by show n - (i + 1) < n - i; omega) ?_ ?_
   ·simp (implicitDefEqProofs:=false) only [go_sem,hw1]
   ·refine ⟨hlt,by simp [hdl],?_,hg71,h8,hf17.trans (hf8.mono (by simp)),?_⟩
    ·have:=hl7.ext hf8 (B':=fun y=>y < H1.size) fun x hx=>.inl hx
     simpa using this
    ·rw [hrep,hstep]; simp
  ·have hge':¬ (i:Int) < (n:Int):=by omega
   have hin:i=n:=by omega
   subst hin
   simp (implicitDefEqProofs:=false) only [go_sem,hge']
   rw [Nat.sub_self] at hrep
   simp only [repO,List.append_nil] at hrep
   refine ⟨[vo],rfl,?_,?_,(hf1.mono (by simp)).trans hfr⟩
   ·rw [hD,hrep]
    have hr:=hls.rep fun b hb hx=>by have:=hgo b hb; omega
    have hE:datT (.list t) ds= .list 6 (ds.map (datT t)):=by simp only [datT,hw]
    rw [hE]
    exact hr.more fun x hx=>.inl (by have:=hf1.size; omega)
   ·rw [hD,hrep]; exact hrd
theorem EAck:ElemOk Tryz.prog 33 103 2 32 (.agg #[.int .i64 0,.slice none 0 0]):=⟨Tryz.underlying33,by kernel_rfl,rfl,by decide⟩
set_option maxHeartbeats 1000000 in
theorem elemsAck_ok {f:Nat} {t:Ty} {k:Nat→Value} (hw:wid t=2) (hp:∀ cs,argOf t cs= .agg cs.toArray) (hf:ROk f t k) {H:Heap} {b:Nat} {L:Bs} {s:Pl} {g:Option Nat} (hL:L.length < 2^36) (h:RdO H b L s g) :
 PCalls Tryz.prog 140 #[pR b,.func (.func f) #[k b] #[]] H (RdR H b L s g (.list t)) (RdE H b L s (.list t)):=by
 refine pcalls_of_vc (args:=[_,_]) Tryz.func140 c140ok (Nat.le_of_ble_eq_true rfl) ?_
 simp (implicitDefEqProofs:=false) only [go_sem,c140,pR]
 refine NewP_intro fun H1 hn1 hf1 hs1=>?_
 have hc1:=hn1.cell
 have hbx:H.size≠b:=by have:=h.lt; omega
 have hbH:b < H.size:=h.lt
 simp (implicitDefEqProofs:=false) only [go_sem,hc1]
 refine (rcount_o (h.ext hf1)).mono ?_
 rintro v H2 ⟨rfl,h2,hf2⟩
 have hb2:=hn1.fr hf2 (by simpa using hbx)
 have hc2:=hb2.cell
 simp (implicitDefEqProofs:=false) only [go_sem,hc2]
 have hck:=check_ok h2
 rw [pR] at hck
 refine PCalls.mono hck ?_ ?_
 rotate_left
 ·rintro c H3 ⟨rfl,hn,hf3⟩
  refine ⟨rfl,?_,(hf1.mono (by simp)).trans (hf2.trans (hf3.mono (by simp)))⟩
  simp only [dT,hn,repO_none]
 rintro v H3 ⟨rfl,hs,h3,hf3⟩
 obtain ⟨p,hp'⟩:=Option.isSome_iff_exists.1 hs
 obtain ⟨n,hn⟩:∃ n,n=(countO L s).1:=⟨_,rfl⟩
 have hnL:n≤L.length:=by rw [hn]; exact countO_le L s
 have hD:dT L (.list t) s=repO (dT L t) n (some p):=by simp only [dT,← hp',hn]
 rw [hp'] at h3
 rw [← hn]
 have hf13:Fr [b] H1 H3:=hf2.trans (hf3.mono (by simp))
 simp (implicitDefEqProofs:=false) only [go_sem]
 refine vc_loop (fun (x:Nat × List (den t) × Nat × Value × Option Nat) H'=>x.1≤n∧x.2.1.length=x.1∧LsO H' (fun y=>y < H1.size) 103 2 x.2.2.2.1 (x.2.1.map (datT t)) x.2.2.2.2∧(∀ k,x.2.2.2.2=some k→H1.size≤k)∧RdO H' b L (some x.2.2.1) g∧Fr [b] H1 H'∧
  repO (dT L t) n (some p)=(x.2.1 ++ (repO (dT L t) (n - x.1) (some x.2.2.1)).1,(repO (dT L t) (n - x.1) (some x.2.2.1)).2))
  (fun x=>[(1,.func (.func f) #[k b] #[]),(2,.pointer (some ⟨H.size,0,none⟩)),(5,x.2.2.2.1),(12,.int .i64 n),(13,.int .i64 x.1)]) (fun x=>n - x.1) (0,[],p,.slice none 0 0,none) ?_ ?_ ?_
 ·exact ⟨Nat.zero_le _,rfl,LsO.nil,by simp,h3,hf13,by simp⟩
 ·simp (implicitDefEqProofs:=false) only [go_sem]
 ·rintro ⟨i,ds,q,vo,go⟩ H' ⟨hi,hdl,hls,hgo,hrd,hfr,hrep⟩
  simp only at hi hdl hls hgo hrd hfr hrep
  rcases Nat.lt_or_ge i n with hlt | hge
  ·have hlt':(i:Int) < (n:Int):=by omega
   have hw1:=succ_i64 i n hlt (by omega)
   simp (implicitDefEqProofs:=false) only [go_sem,hlt']
   refine ⟨hf.1,PCalls.mono (hf.2 hL hrd) ?_ ?_⟩
   rotate_left
   ·rintro c H5 ⟨rfl,he,hf5⟩
    refine ⟨rfl,?_,(hf1.mono (by simp)).trans (hfr.trans hf5)⟩
    rw [hD,hrep]
    exact repO_end hlt he
   rintro v H5 ⟨cs,rfl,hr5,hrd5,hf5⟩
   have hxl:=rep_wid hr5.rep
   rw [hw] at hxl
   obtain ⟨x0,x1,rfl⟩:=len2 hxl
   rw [hp]
   simp (implicitDefEqProofs:=false) only [go_sem]
   refine NewS_intro fun H6 hn6 hf6 hs6=>?_
   have hsz1:=hfr.size
   have hsz5:=hf5.size
   have hb1:b < H1.size:=by omega
   have hls6:LsO H6 (fun y=>y < H1.size) 103 2 vo (ds.map (datT t)) go:=(hls.fr hf5 (fun x hx=>.inl (by simp at hx; omega)) (fun k hk=>by have:=hgo k hk; simp; omega) (fun x hx=>.inl hx)).ext hf6 fun x hx=>.inl hx
   have hd6:RepP H6 (fun y=>y < H1.size∨go=some y) (datT t (dT L t (some q)).1) [x0,x1]:=by
    refine RepP.ext hr5 hf6 fun x hx=>.inl ?_
    rcases hx with hx | hx
    ·omega
    ·exact hls.lt hx
   simp (implicitDefEqProofs:=false) only [go_sem]
   refine App_ls EAck hls6 Tryz.underlying33 hn6 rfl (rep_one hr5.rep) hd6 rfl (by simp only [List.length_map]; unfold maxLen; omega) (by simp only [List.length_map]; omega) fun a c H7 g7 hl7 hf7 hg7=>?_
   have hg71:∀ k,g7=some k→H1.size≤k:=by
    intro k hk
    rcases hg7 k hk with q | q
    ·exact hgo k q
    ·have:=hf6.size; omega
   have hrd7:RdO H7 b L (dT L t (some q)).2 g:=(hrd5.ext hf6).fr hf7 (fun hm=>by have:=hgo b (by simpa using hm); omega) (fun k hk hm=>by
    have h1:=hgo k (by simpa using hm)
    have h2:=h.ltg hk
    omega)
   have hf17:Fr [b] H1 H7:=(hfr.trans (hf5.trans (hf6.mono (by simp)))).trans' hf7 fun x hx=>.inr (hgo x (by simpa using hx))
   have hb7:=hn1.fr hf17 (by simpa using hbx)
   have hc7:=hb7.cell
   simp (implicitDefEqProofs:=false) only [go_sem,hc7]
   have hck7:=check_ok hrd7
   rw [pR] at hck7
   refine PCalls.mono hck7 ?_ ?_
   rotate_left
   ·rintro c H8 ⟨rfl,he,hf8⟩
    refine ⟨rfl,?_,(hf1.mono (by simp)).trans (hf17.trans (hf8.mono (by simp)))⟩
    rw [hD,hrep]
    exact repO_end hlt he
   rintro v H8 ⟨rfl,hs8,h8,hf8⟩
   obtain ⟨q',hq'⟩:=Option.isSome_iff_exists.1 hs8
   rw [hq'] at h8
   have hstep:=repO_step (f:=dT L t) (p:=q) (x:=(dT L t (some q)).1) (q:=q') hlt (by rw [← hq'])
   simp (implicitDefEqProofs:=false) only [go_sem]
   refine loopK_intro (i + 1,ds ++ [(dT L t (some q)).1],q',.slice a ((ds.map (datT t)).length + 1) c,g7) (by show n - (i + 1) < n - i; omega) ?_ ?_
   ·simp (implicitDefEqProofs:=false) only [go_sem,hw1]
   ·refine ⟨hlt,by simp [hdl],?_,hg71,h8,hf17.trans (hf8.mono (by simp)),?_⟩
    ·have:=hl7.ext hf8 (B':=fun y=>y < H1.size) fun x hx=>.inl hx
     simpa using this
    ·rw [hrep,hstep]; simp
  ·have hge':¬ (i:Int) < (n:Int):=by omega
   have hin:i=n:=by omega
   subst hin
   simp (implicitDefEqProofs:=false) only [go_sem,hge']
   rw [Nat.sub_self] at hrep
   simp only [repO,List.append_nil] at hrep
   refine ⟨[vo],rfl,?_,?_,(hf1.mono (by simp)).trans hfr⟩
   ·rw [hD,hrep]
    have hr:=hls.rep fun b hb hx=>by have:=hgo b hb; omega
    have hE:datT (.list t) ds= .list 2 (ds.map (datT t)):=by simp only [datT,hw]
    rw [hE]
    exact hr.more fun x hx=>.inl (by have:=hf1.size; omega)
   ·rw [hD,hrep]; exact hrd
theorem EProof:ElemOk Tryz.prog 34 66 10 176 (.agg #[.slice none 0 0,.int .i64 0,.int .i64 0,.int .i64 0,.slice none 0 0,.slice none 0 0,.slice none 0 0,.int .i64 0,.slice none 0 0,.slice none 0 0]):=⟨Tryz.underlying34,by kernel_rfl,rfl,by decide⟩
set_option maxHeartbeats 1000000 in
theorem elemsProof_ok {f:Nat} {t:Ty} {k:Nat→Value} (hw:wid t=10) (hp:∀ cs,argOf t cs= .agg cs.toArray) (hf:ROk f t k) {H:Heap} {b:Nat} {L:Bs} {s:Pl} {g:Option Nat} (hL:L.length < 2^36) (h:RdO H b L s g) :
 PCalls Tryz.prog 142 #[pR b,.func (.func f) #[k b] #[]] H (RdR H b L s g (.list t)) (RdE H b L s (.list t)):=by
 refine pcalls_of_vc (args:=[_,_]) Tryz.func142 c142ok (Nat.le_of_ble_eq_true rfl) ?_
 simp (implicitDefEqProofs:=false) only [go_sem,c142,pR]
 refine NewP_intro fun H1 hn1 hf1 hs1=>?_
 have hc1:=hn1.cell
 have hbx:H.size≠b:=by have:=h.lt; omega
 have hbH:b < H.size:=h.lt
 simp (implicitDefEqProofs:=false) only [go_sem,hc1]
 refine (rcount_o (h.ext hf1)).mono ?_
 rintro v H2 ⟨rfl,h2,hf2⟩
 have hb2:=hn1.fr hf2 (by simpa using hbx)
 have hc2:=hb2.cell
 simp (implicitDefEqProofs:=false) only [go_sem,hc2]
 have hck:=check_ok h2
 rw [pR] at hck
 refine PCalls.mono hck ?_ ?_
 rotate_left
 ·rintro c H3 ⟨rfl,hn,hf3⟩
  refine ⟨rfl,?_,(hf1.mono (by simp)).trans (hf2.trans (hf3.mono (by simp)))⟩
  simp only [dT,hn,repO_none]
 rintro v H3 ⟨rfl,hs,h3,hf3⟩
 obtain ⟨p,hp'⟩:=Option.isSome_iff_exists.1 hs
 obtain ⟨n,hn⟩:∃ n,n=(countO L s).1:=⟨_,rfl⟩
 have hnL:n≤L.length:=by rw [hn]; exact countO_le L s
 have hD:dT L (.list t) s=repO (dT L t) n (some p):=by simp only [dT,← hp',hn]
 rw [hp'] at h3
 rw [← hn]
 have hf13:Fr [b] H1 H3:=hf2.trans (hf3.mono (by simp))
 simp (implicitDefEqProofs:=false) only [go_sem]
 refine vc_loop (fun (x:Nat × List (den t) × Nat × Value × Option Nat) H'=>x.1≤n∧x.2.1.length=x.1∧LsO H' (fun y=>y < H1.size) 66 10 x.2.2.2.1 (x.2.1.map (datT t)) x.2.2.2.2∧(∀ k,x.2.2.2.2=some k→H1.size≤k)∧RdO H' b L (some x.2.2.1) g∧Fr [b] H1 H'∧
  repO (dT L t) n (some p)=(x.2.1 ++ (repO (dT L t) (n - x.1) (some x.2.2.1)).1,(repO (dT L t) (n - x.1) (some x.2.2.1)).2))
  (fun x=>[(1,.func (.func f) #[k b] #[]),(2,.pointer (some ⟨H.size,0,none⟩)),(5,x.2.2.2.1),(12,.int .i64 n),(13,.int .i64 x.1)]) (fun x=>n - x.1) (0,[],p,.slice none 0 0,none) ?_ ?_ ?_
 ·exact ⟨Nat.zero_le _,rfl,LsO.nil,by simp,h3,hf13,by simp⟩
 ·simp (implicitDefEqProofs:=false) only [go_sem]
 ·rintro ⟨i,ds,q,vo,go⟩ H' ⟨hi,hdl,hls,hgo,hrd,hfr,hrep⟩
  simp only at hi hdl hls hgo hrd hfr hrep
  rcases Nat.lt_or_ge i n with hlt | hge
  ·have hlt':(i:Int) < (n:Int):=by omega
   have hw1:=succ_i64 i n hlt (by omega)
   simp (implicitDefEqProofs:=false) only [go_sem,hlt']
   refine ⟨hf.1,PCalls.mono (hf.2 hL hrd) ?_ ?_⟩
   rotate_left
   ·rintro c H5 ⟨rfl,he,hf5⟩
    refine ⟨rfl,?_,(hf1.mono (by simp)).trans (hfr.trans hf5)⟩
    rw [hD,hrep]
    exact repO_end hlt he
   rintro v H5 ⟨cs,rfl,hr5,hrd5,hf5⟩
   have hxl:=rep_wid hr5.rep
   rw [hw] at hxl
   obtain ⟨x0,x1,x2,x3,x4,x5,x6,x7,x8,x9,rfl⟩:=len10 hxl
   rw [hp]
   simp (implicitDefEqProofs:=false) only [go_sem]
   refine NewS_intro fun H6 hn6 hf6 hs6=>?_
   have hsz1:=hfr.size
   have hsz5:=hf5.size
   have hb1:b < H1.size:=by omega
   have hls6:LsO H6 (fun y=>y < H1.size) 66 10 vo (ds.map (datT t)) go:=(hls.fr hf5 (fun x hx=>.inl (by simp at hx; omega)) (fun k hk=>by have:=hgo k hk; simp; omega) (fun x hx=>.inl hx)).ext hf6 fun x hx=>.inl hx
   have hd6:RepP H6 (fun y=>y < H1.size∨go=some y) (datT t (dT L t (some q)).1) [x0,x1,x2,x3,x4,x5,x6,x7,x8,x9]:=by
    refine RepP.ext hr5 hf6 fun x hx=>.inl ?_
    rcases hx with hx | hx
    ·omega
    ·exact hls.lt hx
   simp (implicitDefEqProofs:=false) only [go_sem]
   refine App_ls EProof hls6 Tryz.underlying34 hn6 rfl (rep_one hr5.rep) hd6 rfl (by simp only [List.length_map]; unfold maxLen; omega) (by simp only [List.length_map]; omega) fun a c H7 g7 hl7 hf7 hg7=>?_
   have hg71:∀ k,g7=some k→H1.size≤k:=by
    intro k hk
    rcases hg7 k hk with q | q
    ·exact hgo k q
    ·have:=hf6.size; omega
   have hrd7:RdO H7 b L (dT L t (some q)).2 g:=(hrd5.ext hf6).fr hf7 (fun hm=>by have:=hgo b (by simpa using hm); omega) (fun k hk hm=>by
    have h1:=hgo k (by simpa using hm)
    have h2:=h.ltg hk
    omega)
   have hf17:Fr [b] H1 H7:=(hfr.trans (hf5.trans (hf6.mono (by simp)))).trans' hf7 fun x hx=>.inr (hgo x (by simpa using hx))
   have hb7:=hn1.fr hf17 (by simpa using hbx)
   have hc7:=hb7.cell
   simp (implicitDefEqProofs:=false) only [go_sem,hc7]
   have hck7:=check_ok hrd7
   rw [pR] at hck7
   refine PCalls.mono hck7 ?_ ?_
   rotate_left
   ·rintro c H8 ⟨rfl,he,hf8⟩
    refine ⟨rfl,?_,(hf1.mono (by simp)).trans (hf17.trans (hf8.mono (by simp)))⟩
    rw [hD,hrep]
    exact repO_end hlt he
   rintro v H8 ⟨rfl,hs8,h8,hf8⟩
   obtain ⟨q',hq'⟩:=Option.isSome_iff_exists.1 hs8
   rw [hq'] at h8
   have hstep:=repO_step (f:=dT L t) (p:=q) (x:=(dT L t (some q)).1) (q:=q') hlt (by rw [← hq'])
   simp (implicitDefEqProofs:=false) only [go_sem]
   refine loopK_intro (i + 1,ds ++ [(dT L t (some q)).1],q',.slice a ((ds.map (datT t)).length + 1) c,g7) (by show n - (i + 1) < n - i; omega) ?_ ?_
   ·simp (implicitDefEqProofs:=false) only [go_sem,hw1]
   ·refine ⟨hlt,by simp [hdl],?_,hg71,h8,hf17.trans (hf8.mono (by simp)),?_⟩
    ·have:=hl7.ext hf8 (B':=fun y=>y < H1.size) fun x hx=>.inl hx
     simpa using this
    ·rw [hrep,hstep]; simp
  ·have hge':¬ (i:Int) < (n:Int):=by omega
   have hin:i=n:=by omega
   subst hin
   simp (implicitDefEqProofs:=false) only [go_sem,hge']
   rw [Nat.sub_self] at hrep
   simp only [repO,List.append_nil] at hrep
   refine ⟨[vo],rfl,?_,?_,(hf1.mono (by simp)).trans hfr⟩
   ·rw [hD,hrep]
    have hr:=hls.rep fun b hb hx=>by have:=hgo b hb; omega
    have hE:datT (.list t) ds= .list 10 (ds.map (datT t)):=by simp only [datT,hw]
    rw [hE]
    exact hr.more fun x hx=>.inl (by have:=hf1.size; omega)
   ·rw [hD,hrep]; exact hrd
theorem EDigest:ElemOk Tryz.prog 35 68 3 56 (.agg #[.slice none 0 0,.slice none 0 0,.int .i64 0]):=⟨Tryz.underlying35,by kernel_rfl,rfl,by decide⟩
set_option maxHeartbeats 1000000 in
theorem elemsDigest_ok {f:Nat} {t:Ty} {k:Nat→Value} (hw:wid t=3) (hp:∀ cs,argOf t cs= .agg cs.toArray) (hf:ROk f t k) {H:Heap} {b:Nat} {L:Bs} {s:Pl} {g:Option Nat} (hL:L.length < 2^36) (h:RdO H b L s g) :
 PCalls Tryz.prog 144 #[pR b,.func (.func f) #[k b] #[]] H (RdR H b L s g (.list t)) (RdE H b L s (.list t)):=by
 refine pcalls_of_vc (args:=[_,_]) Tryz.func144 c144ok (Nat.le_of_ble_eq_true rfl) ?_
 simp (implicitDefEqProofs:=false) only [go_sem,c144,pR]
 refine NewP_intro fun H1 hn1 hf1 hs1=>?_
 have hc1:=hn1.cell
 have hbx:H.size≠b:=by have:=h.lt; omega
 have hbH:b < H.size:=h.lt
 simp (implicitDefEqProofs:=false) only [go_sem,hc1]
 refine (rcount_o (h.ext hf1)).mono ?_
 rintro v H2 ⟨rfl,h2,hf2⟩
 have hb2:=hn1.fr hf2 (by simpa using hbx)
 have hc2:=hb2.cell
 simp (implicitDefEqProofs:=false) only [go_sem,hc2]
 have hck:=check_ok h2
 rw [pR] at hck
 refine PCalls.mono hck ?_ ?_
 rotate_left
 ·rintro c H3 ⟨rfl,hn,hf3⟩
  refine ⟨rfl,?_,(hf1.mono (by simp)).trans (hf2.trans (hf3.mono (by simp)))⟩
  simp only [dT,hn,repO_none]
 rintro v H3 ⟨rfl,hs,h3,hf3⟩
 obtain ⟨p,hp'⟩:=Option.isSome_iff_exists.1 hs
 obtain ⟨n,hn⟩:∃ n,n=(countO L s).1:=⟨_,rfl⟩
 have hnL:n≤L.length:=by rw [hn]; exact countO_le L s
 have hD:dT L (.list t) s=repO (dT L t) n (some p):=by simp only [dT,← hp',hn]
 rw [hp'] at h3
 rw [← hn]
 have hf13:Fr [b] H1 H3:=hf2.trans (hf3.mono (by simp))
 simp (implicitDefEqProofs:=false) only [go_sem]
 refine vc_loop (fun (x:Nat × List (den t) × Nat × Value × Option Nat) H'=>x.1≤n∧x.2.1.length=x.1∧LsO H' (fun y=>y < H1.size) 68 3 x.2.2.2.1 (x.2.1.map (datT t)) x.2.2.2.2∧(∀ k,x.2.2.2.2=some k→H1.size≤k)∧RdO H' b L (some x.2.2.1) g∧Fr [b] H1 H'∧
  repO (dT L t) n (some p)=(x.2.1 ++ (repO (dT L t) (n - x.1) (some x.2.2.1)).1,(repO (dT L t) (n - x.1) (some x.2.2.1)).2))
  (fun x=>[(1,.func (.func f) #[k b] #[]),(2,.pointer (some ⟨H.size,0,none⟩)),(5,x.2.2.2.1),(12,.int .i64 n),(13,.int .i64 x.1)]) (fun x=>n - x.1) (0,[],p,.slice none 0 0,none) ?_ ?_ ?_
 ·exact ⟨Nat.zero_le _,rfl,LsO.nil,by simp,h3,hf13,by simp⟩
 ·simp (implicitDefEqProofs:=false) only [go_sem]
 ·rintro ⟨i,ds,q,vo,go⟩ H' ⟨hi,hdl,hls,hgo,hrd,hfr,hrep⟩
  simp only at hi hdl hls hgo hrd hfr hrep
  rcases Nat.lt_or_ge i n with hlt | hge
  ·have hlt':(i:Int) < (n:Int):=by omega
   have hw1:=succ_i64 i n hlt (by omega)
   simp (implicitDefEqProofs:=false) only [go_sem,hlt']
   refine ⟨hf.1,PCalls.mono (hf.2 hL hrd) ?_ ?_⟩
   rotate_left
   ·rintro c H5 ⟨rfl,he,hf5⟩
    refine ⟨rfl,?_,(hf1.mono (by simp)).trans (hfr.trans hf5)⟩
    rw [hD,hrep]
    exact repO_end hlt he
   rintro v H5 ⟨cs,rfl,hr5,hrd5,hf5⟩
   have hxl:=rep_wid hr5.rep
   rw [hw] at hxl
   obtain ⟨x0,x1,x2,rfl⟩:=len3 hxl
   rw [hp]
   simp (implicitDefEqProofs:=false) only [go_sem]
   refine NewS_intro fun H6 hn6 hf6 hs6=>?_
   have hsz1:=hfr.size
   have hsz5:=hf5.size
   have hb1:b < H1.size:=by omega
   have hls6:LsO H6 (fun y=>y < H1.size) 68 3 vo (ds.map (datT t)) go:=(hls.fr hf5 (fun x hx=>.inl (by simp at hx; omega)) (fun k hk=>by have:=hgo k hk; simp; omega) (fun x hx=>.inl hx)).ext hf6 fun x hx=>.inl hx
   have hd6:RepP H6 (fun y=>y < H1.size∨go=some y) (datT t (dT L t (some q)).1) [x0,x1,x2]:=by
    refine RepP.ext hr5 hf6 fun x hx=>.inl ?_
    rcases hx with hx | hx
    ·omega
    ·exact hls.lt hx
   simp (implicitDefEqProofs:=false) only [go_sem]
   refine App_ls EDigest hls6 Tryz.underlying35 hn6 rfl (rep_one hr5.rep) hd6 rfl (by simp only [List.length_map]; unfold maxLen; omega) (by simp only [List.length_map]; omega) fun a c H7 g7 hl7 hf7 hg7=>?_
   have hg71:∀ k,g7=some k→H1.size≤k:=by
    intro k hk
    rcases hg7 k hk with q | q
    ·exact hgo k q
    ·have:=hf6.size; omega
   have hrd7:RdO H7 b L (dT L t (some q)).2 g:=(hrd5.ext hf6).fr hf7 (fun hm=>by have:=hgo b (by simpa using hm); omega) (fun k hk hm=>by
    have h1:=hgo k (by simpa using hm)
    have h2:=h.ltg hk
    omega)
   have hf17:Fr [b] H1 H7:=(hfr.trans (hf5.trans (hf6.mono (by simp)))).trans' hf7 fun x hx=>.inr (hgo x (by simpa using hx))
   have hb7:=hn1.fr hf17 (by simpa using hbx)
   have hc7:=hb7.cell
   simp (implicitDefEqProofs:=false) only [go_sem,hc7]
   have hck7:=check_ok hrd7
   rw [pR] at hck7
   refine PCalls.mono hck7 ?_ ?_
   rotate_left
   ·rintro c H8 ⟨rfl,he,hf8⟩
    refine ⟨rfl,?_,(hf1.mono (by simp)).trans (hf17.trans (hf8.mono (by simp)))⟩
    rw [hD,hrep]
    exact repO_end hlt he
   rintro v H8 ⟨rfl,hs8,h8,hf8⟩
   obtain ⟨q',hq'⟩:=Option.isSome_iff_exists.1 hs8
   rw [hq'] at h8
   have hstep:=repO_step (f:=dT L t) (p:=q) (x:=(dT L t (some q)).1) (q:=q') hlt (by rw [← hq'])
   simp (implicitDefEqProofs:=false) only [go_sem]
   refine loopK_intro (i + 1,ds ++ [(dT L t (some q)).1],q',.slice a ((ds.map (datT t)).length + 1) c,g7) (by show n - (i + 1) < n - i; omega) ?_ ?_
   ·simp (implicitDefEqProofs:=false) only [go_sem,hw1]
   ·refine ⟨hlt,by simp [hdl],?_,hg71,h8,hf17.trans (hf8.mono (by simp)),?_⟩
    ·have:=hl7.ext hf8 (B':=fun y=>y < H1.size) fun x hx=>.inl hx
     simpa using this
    ·rw [hrep,hstep]; simp
  ·have hge':¬ (i:Int) < (n:Int):=by omega
   have hin:i=n:=by omega
   subst hin
   simp (implicitDefEqProofs:=false) only [go_sem,hge']
   rw [Nat.sub_self] at hrep
   simp only [repO,List.append_nil] at hrep
   refine ⟨[vo],rfl,?_,?_,(hf1.mono (by simp)).trans hfr⟩
   ·rw [hD,hrep]
    have hr:=hls.rep fun b hb hx=>by have:=hgo b hb; omega
    have hE:datT (.list t) ds= .list 3 (ds.map (datT t)):=by simp only [datT,hw]
    rw [hE]
    exact hr.more fun x hx=>.inl (by have:=hf1.size; omega)
   ·rw [hD,hrep]; exact hrd
theorem EStr:ElemOk Tryz.prog 36 9 1 16 (.string ⟨⟨[]⟩⟩):=⟨Tryz.underlying36,by kernel_rfl,rfl,by decide⟩
set_option maxHeartbeats 1000000 in
theorem elemsStr_ok {f:Nat} {t:Ty} {k:Nat→Value} (hw:wid t=1) (hp:∀ v,argOf t [v]=v) (ht:t= .text) (hf:ROk f t k) {H:Heap} {b:Nat} {L:Bs} {s:Pl} {g:Option Nat} (hL:L.length < 2^36) (h:RdO H b L s g) :
 PCalls Tryz.prog 146 #[pR b,.func (.func f) #[k b] #[]] H (RdR H b L s g (.list t)) (RdE H b L s (.list t)):=by
 refine pcalls_of_vc (args:=[_,_]) Tryz.func146 c146ok (Nat.le_of_ble_eq_true rfl) ?_
 simp (implicitDefEqProofs:=false) only [go_sem,c146,pR]
 refine NewP_intro fun H1 hn1 hf1 hs1=>?_
 have hc1:=hn1.cell
 have hbx:H.size≠b:=by have:=h.lt; omega
 have hbH:b < H.size:=h.lt
 simp (implicitDefEqProofs:=false) only [go_sem,hc1]
 refine (rcount_o (h.ext hf1)).mono ?_
 rintro v H2 ⟨rfl,h2,hf2⟩
 have hb2:=hn1.fr hf2 (by simpa using hbx)
 have hc2:=hb2.cell
 simp (implicitDefEqProofs:=false) only [go_sem,hc2]
 have hck:=check_ok h2
 rw [pR] at hck
 refine PCalls.mono hck ?_ ?_
 rotate_left
 ·rintro c H3 ⟨rfl,hn,hf3⟩
  refine ⟨rfl,?_,(hf1.mono (by simp)).trans (hf2.trans (hf3.mono (by simp)))⟩
  simp only [dT,hn,repO_none]
 rintro v H3 ⟨rfl,hs,h3,hf3⟩
 obtain ⟨p,hp'⟩:=Option.isSome_iff_exists.1 hs
 obtain ⟨n,hn⟩:∃ n,n=(countO L s).1:=⟨_,rfl⟩
 have hnL:n≤L.length:=by rw [hn]; exact countO_le L s
 have hD:dT L (.list t) s=repO (dT L t) n (some p):=by simp only [dT,← hp',hn]
 rw [hp'] at h3
 rw [← hn]
 have hf13:Fr [b] H1 H3:=hf2.trans (hf3.mono (by simp))
 simp (implicitDefEqProofs:=false) only [go_sem]
 refine vc_loop (fun (x:Nat × List (den t) × Nat × Value × Option Nat) H'=>x.1≤n∧x.2.1.length=x.1∧LsO H' (fun y=>y < H1.size) 9 1 x.2.2.2.1 (x.2.1.map (datT t)) x.2.2.2.2∧(∀ k,x.2.2.2.2=some k→H1.size≤k)∧RdO H' b L (some x.2.2.1) g∧Fr [b] H1 H'∧
  repO (dT L t) n (some p)=(x.2.1 ++ (repO (dT L t) (n - x.1) (some x.2.2.1)).1,(repO (dT L t) (n - x.1) (some x.2.2.1)).2))
  (fun x=>[(1,.func (.func f) #[k b] #[]),(2,.pointer (some ⟨H.size,0,none⟩)),(5,x.2.2.2.1),(12,.int .i64 n),(13,.int .i64 x.1)]) (fun x=>n - x.1) (0,[],p,.slice none 0 0,none) ?_ ?_ ?_
 ·exact ⟨Nat.zero_le _,rfl,LsO.nil,by simp,h3,hf13,by simp⟩
 ·simp (implicitDefEqProofs:=false) only [go_sem]
 ·rintro ⟨i,ds,q,vo,go⟩ H' ⟨hi,hdl,hls,hgo,hrd,hfr,hrep⟩
  simp only at hi hdl hls hgo hrd hfr hrep
  rcases Nat.lt_or_ge i n with hlt | hge
  ·have hlt':(i:Int) < (n:Int):=by omega
   have hw1:=succ_i64 i n hlt (by omega)
   simp (implicitDefEqProofs:=false) only [go_sem,hlt']
   refine ⟨hf.1,PCalls.mono (hf.2 hL hrd) ?_ ?_⟩
   rotate_left
   ·rintro c H5 ⟨rfl,he,hf5⟩
    refine ⟨rfl,?_,(hf1.mono (by simp)).trans (hfr.trans hf5)⟩
    rw [hD,hrep]
    exact repO_end hlt he
   rintro v H5 ⟨cs,rfl,hr5,hrd5,hf5⟩
   have hxl:=rep_wid hr5.rep
   rw [hw] at hxl
   obtain ⟨x0,rfl⟩:=len1 hxl
   obtain ⟨y,rfl⟩:∃ y,x0=Value.string y:=by
    subst ht
    have h:=rep_text hr5.rep
    simp only [List.cons.injEq,and_true] at h
    exact ⟨_,h⟩
   rw [hp]
   simp (implicitDefEqProofs:=false) only [go_sem]
   refine NewS_intro fun H6 hn6 hf6 hs6=>?_
   have hsz1:=hfr.size
   have hsz5:=hf5.size
   have hb1:b < H1.size:=by omega
   have hls6:LsO H6 (fun y=>y < H1.size) 9 1 vo (ds.map (datT t)) go:=(hls.fr hf5 (fun x hx=>.inl (by simp at hx; omega)) (fun k hk=>by have:=hgo k hk; simp; omega) (fun x hx=>.inl hx)).ext hf6 fun x hx=>.inl hx
   have hd6:RepP H6 (fun y=>y < H1.size∨go=some y) (datT t (dT L t (some q)).1) [Value.string y]:=by
    refine RepP.ext hr5 hf6 fun x hx=>.inl ?_
    rcases hx with hx | hx
    ·omega
    ·exact hls.lt hx
   simp (implicitDefEqProofs:=false) only [go_sem]
   refine App_ls EStr hls6 Tryz.underlying36 hn6 rfl (rep_one hr5.rep) hd6 rfl (by simp only [List.length_map]; unfold maxLen; omega) (by simp only [List.length_map]; omega) fun a c H7 g7 hl7 hf7 hg7=>?_
   have hg71:∀ k,g7=some k→H1.size≤k:=by
    intro k hk
    rcases hg7 k hk with q | q
    ·exact hgo k q
    ·have:=hf6.size; omega
   have hrd7:RdO H7 b L (dT L t (some q)).2 g:=(hrd5.ext hf6).fr hf7 (fun hm=>by have:=hgo b (by simpa using hm); omega) (fun k hk hm=>by
    have h1:=hgo k (by simpa using hm)
    have h2:=h.ltg hk
    omega)
   have hf17:Fr [b] H1 H7:=(hfr.trans (hf5.trans (hf6.mono (by simp)))).trans' hf7 fun x hx=>.inr (hgo x (by simpa using hx))
   have hb7:=hn1.fr hf17 (by simpa using hbx)
   have hc7:=hb7.cell
   simp (implicitDefEqProofs:=false) only [go_sem,hc7]
   have hck7:=check_ok hrd7
   rw [pR] at hck7
   refine PCalls.mono hck7 ?_ ?_
   rotate_left
   ·rintro c H8 ⟨rfl,he,hf8⟩
    refine ⟨rfl,?_,(hf1.mono (by simp)).trans (hf17.trans (hf8.mono (by simp)))⟩
    rw [hD,hrep]
    exact repO_end hlt he
   rintro v H8 ⟨rfl,hs8,h8,hf8⟩
   obtain ⟨q',hq'⟩:=Option.isSome_iff_exists.1 hs8
   rw [hq'] at h8
   have hstep:=repO_step (f:=dT L t) (p:=q) (x:=(dT L t (some q)).1) (q:=q') hlt (by rw [← hq'])
   simp (implicitDefEqProofs:=false) only [go_sem]
   refine loopK_intro (i + 1,ds ++ [(dT L t (some q)).1],q',.slice a ((ds.map (datT t)).length + 1) c,g7) (by show n - (i + 1) < n - i; omega) ?_ ?_
   ·simp (implicitDefEqProofs:=false) only [go_sem,hw1]
   ·refine ⟨hlt,by simp [hdl],?_,hg71,h8,hf17.trans (hf8.mono (by simp)),?_⟩
    ·have:=hl7.ext hf8 (B':=fun y=>y < H1.size) fun x hx=>.inl hx
     simpa using this
    ·rw [hrep,hstep]; simp
  ·have hge':¬ (i:Int) < (n:Int):=by omega
   have hin:i=n:=by omega
   subst hin
   simp (implicitDefEqProofs:=false) only [go_sem,hge']
   rw [Nat.sub_self] at hrep
   simp only [repO,List.append_nil] at hrep
   refine ⟨[vo],rfl,?_,?_,(hf1.mono (by simp)).trans hfr⟩
   ·rw [hD,hrep]
    have hr:=hls.rep fun b hb hx=>by have:=hgo b hb; omega
    have hE:datT (.list t) ds= .list 1 (ds.map (datT t)):=by simp only [datT,hw]
    rw [hE]
    exact hr.more fun x hx=>.inl (by have:=hf1.size; omega)
   ·rw [hD,hrep]; exact hrd
theorem EItem:ElemOk Tryz.prog 37 71 4 72 (.agg #[.string ⟨⟨[]⟩⟩,.bool false,.slice none 0 0,.slice none 0 0]):=⟨Tryz.underlying37,by kernel_rfl,rfl,by decide⟩
set_option maxHeartbeats 1000000 in
theorem elemsItem_ok {f:Nat} {t:Ty} {k:Nat→Value} (hw:wid t=4) (hp:∀ cs,argOf t cs= .agg cs.toArray) (hf:ROk f t k) {H:Heap} {b:Nat} {L:Bs} {s:Pl} {g:Option Nat} (hL:L.length < 2^36) (h:RdO H b L s g) :
 PCalls Tryz.prog 148 #[pR b,.func (.func f) #[k b] #[]] H (RdR H b L s g (.list t)) (RdE H b L s (.list t)):=by
 refine pcalls_of_vc (args:=[_,_]) Tryz.func148 c148ok (Nat.le_of_ble_eq_true rfl) ?_
 simp (implicitDefEqProofs:=false) only [go_sem,c148,pR]
 refine NewP_intro fun H1 hn1 hf1 hs1=>?_
 have hc1:=hn1.cell
 have hbx:H.size≠b:=by have:=h.lt; omega
 have hbH:b < H.size:=h.lt
 simp (implicitDefEqProofs:=false) only [go_sem,hc1]
 refine (rcount_o (h.ext hf1)).mono ?_
 rintro v H2 ⟨rfl,h2,hf2⟩
 have hb2:=hn1.fr hf2 (by simpa using hbx)
 have hc2:=hb2.cell
 simp (implicitDefEqProofs:=false) only [go_sem,hc2]
 have hck:=check_ok h2
 rw [pR] at hck
 refine PCalls.mono hck ?_ ?_
 rotate_left
 ·rintro c H3 ⟨rfl,hn,hf3⟩
  refine ⟨rfl,?_,(hf1.mono (by simp)).trans (hf2.trans (hf3.mono (by simp)))⟩
  simp only [dT,hn,repO_none]
 rintro v H3 ⟨rfl,hs,h3,hf3⟩
 obtain ⟨p,hp'⟩:=Option.isSome_iff_exists.1 hs
 obtain ⟨n,hn⟩:∃ n,n=(countO L s).1:=⟨_,rfl⟩
 have hnL:n≤L.length:=by rw [hn]; exact countO_le L s
 have hD:dT L (.list t) s=repO (dT L t) n (some p):=by simp only [dT,← hp',hn]
 rw [hp'] at h3
 rw [← hn]
 have hf13:Fr [b] H1 H3:=hf2.trans (hf3.mono (by simp))
 simp (implicitDefEqProofs:=false) only [go_sem]
 refine vc_loop (fun (x:Nat × List (den t) × Nat × Value × Option Nat) H'=>x.1≤n∧x.2.1.length=x.1∧LsO H' (fun y=>y < H1.size) 71 4 x.2.2.2.1 (x.2.1.map (datT t)) x.2.2.2.2∧(∀ k,x.2.2.2.2=some k→H1.size≤k)∧RdO H' b L (some x.2.2.1) g∧Fr [b] H1 H'∧
  repO (dT L t) n (some p)=(x.2.1 ++ (repO (dT L t) (n - x.1) (some x.2.2.1)).1,(repO (dT L t) (n - x.1) (some x.2.2.1)).2))
  (fun x=>[(1,.func (.func f) #[k b] #[]),(2,.pointer (some ⟨H.size,0,none⟩)),(5,x.2.2.2.1),(12,.int .i64 n),(13,.int .i64 x.1)]) (fun x=>n - x.1) (0,[],p,.slice none 0 0,none) ?_ ?_ ?_
 ·exact ⟨Nat.zero_le _,rfl,LsO.nil,by simp,h3,hf13,by simp⟩
 ·simp (implicitDefEqProofs:=false) only [go_sem]
 ·rintro ⟨i,ds,q,vo,go⟩ H' ⟨hi,hdl,hls,hgo,hrd,hfr,hrep⟩
  simp only at hi hdl hls hgo hrd hfr hrep
  rcases Nat.lt_or_ge i n with hlt | hge
  ·have hlt':(i:Int) < (n:Int):=by omega
   have hw1:=succ_i64 i n hlt (by omega)
   simp (implicitDefEqProofs:=false) only [go_sem,hlt']
   refine ⟨hf.1,PCalls.mono (hf.2 hL hrd) ?_ ?_⟩
   rotate_left
   ·rintro c H5 ⟨rfl,he,hf5⟩
    refine ⟨rfl,?_,(hf1.mono (by simp)).trans (hfr.trans hf5)⟩
    rw [hD,hrep]
    exact repO_end hlt he
   rintro v H5 ⟨cs,rfl,hr5,hrd5,hf5⟩
   have hxl:=rep_wid hr5.rep
   rw [hw] at hxl
   obtain ⟨x0,x1,x2,x3,rfl⟩:=len4 hxl
   rw [hp]
   simp (implicitDefEqProofs:=false) only [go_sem]
   refine NewS_intro fun H6 hn6 hf6 hs6=>?_
   have hsz1:=hfr.size
   have hsz5:=hf5.size
   have hb1:b < H1.size:=by omega
   have hls6:LsO H6 (fun y=>y < H1.size) 71 4 vo (ds.map (datT t)) go:=(hls.fr hf5 (fun x hx=>.inl (by simp at hx; omega)) (fun k hk=>by have:=hgo k hk; simp; omega) (fun x hx=>.inl hx)).ext hf6 fun x hx=>.inl hx
   have hd6:RepP H6 (fun y=>y < H1.size∨go=some y) (datT t (dT L t (some q)).1) [x0,x1,x2,x3]:=by
    refine RepP.ext hr5 hf6 fun x hx=>.inl ?_
    rcases hx with hx | hx
    ·omega
    ·exact hls.lt hx
   simp (implicitDefEqProofs:=false) only [go_sem]
   refine App_ls EItem hls6 Tryz.underlying37 hn6 rfl (rep_one hr5.rep) hd6 rfl (by simp only [List.length_map]; unfold maxLen; omega) (by simp only [List.length_map]; omega) fun a c H7 g7 hl7 hf7 hg7=>?_
   have hg71:∀ k,g7=some k→H1.size≤k:=by
    intro k hk
    rcases hg7 k hk with q | q
    ·exact hgo k q
    ·have:=hf6.size; omega
   have hrd7:RdO H7 b L (dT L t (some q)).2 g:=(hrd5.ext hf6).fr hf7 (fun hm=>by have:=hgo b (by simpa using hm); omega) (fun k hk hm=>by
    have h1:=hgo k (by simpa using hm)
    have h2:=h.ltg hk
    omega)
   have hf17:Fr [b] H1 H7:=(hfr.trans (hf5.trans (hf6.mono (by simp)))).trans' hf7 fun x hx=>.inr (hgo x (by simpa using hx))
   have hb7:=hn1.fr hf17 (by simpa using hbx)
   have hc7:=hb7.cell
   simp (implicitDefEqProofs:=false) only [go_sem,hc7]
   have hck7:=check_ok hrd7
   rw [pR] at hck7
   refine PCalls.mono hck7 ?_ ?_
   rotate_left
   ·rintro c H8 ⟨rfl,he,hf8⟩
    refine ⟨rfl,?_,(hf1.mono (by simp)).trans (hf17.trans (hf8.mono (by simp)))⟩
    rw [hD,hrep]
    exact repO_end hlt he
   rintro v H8 ⟨rfl,hs8,h8,hf8⟩
   obtain ⟨q',hq'⟩:=Option.isSome_iff_exists.1 hs8
   rw [hq'] at h8
   have hstep:=repO_step (f:=dT L t) (p:=q) (x:=(dT L t (some q)).1) (q:=q') hlt (by rw [← hq'])
   simp (implicitDefEqProofs:=false) only [go_sem]
   refine loopK_intro (i + 1,ds ++ [(dT L t (some q)).1],q',.slice a ((ds.map (datT t)).length + 1) c,g7) (by show n - (i + 1) < n - i; omega) ?_ ?_
   ·simp (implicitDefEqProofs:=false) only [go_sem,hw1]
   ·refine ⟨hlt,by simp [hdl],?_,hg71,h8,hf17.trans (hf8.mono (by simp)),?_⟩
    ·have:=hl7.ext hf8 (B':=fun y=>y < H1.size) fun x hx=>.inl hx
     simpa using this
    ·rw [hrep,hstep]; simp
  ·have hge':¬ (i:Int) < (n:Int):=by omega
   have hin:i=n:=by omega
   subst hin
   simp (implicitDefEqProofs:=false) only [go_sem,hge']
   rw [Nat.sub_self] at hrep
   simp only [repO,List.append_nil] at hrep
   refine ⟨[vo],rfl,?_,?_,(hf1.mono (by simp)).trans hfr⟩
   ·rw [hD,hrep]
    have hr:=hls.rep fun b hb hx=>by have:=hgo b hb; omega
    have hE:datT (.list t) ds= .list 4 (ds.map (datT t)):=by simp only [datT,hw]
    rw [hE]
    exact hr.more fun x hx=>.inl (by have:=hf1.size; omega)
   ·rw [hD,hrep]; exact hrd
theorem ECertificate:ElemOk Tryz.prog 58 64 9 152 (.agg #[.int .i64 0,.int .i64 0,.int .i64 0,.slice none 0 0,.slice none 0 0,.slice none 0 0,.int .i64 0,.slice none 0 0,.slice none 0 0]):=⟨Tryz.underlying58,by kernel_rfl,rfl,by decide⟩
set_option maxHeartbeats 1000000 in
theorem elemsCertificate_ok {f:Nat} {t:Ty} {k:Nat→Value} (hw:wid t=9) (hp:∀ cs,argOf t cs= .agg cs.toArray) (hf:ROk f t k) {H:Heap} {b:Nat} {L:Bs} {s:Pl} {g:Option Nat} (hL:L.length < 2^36) (h:RdO H b L s g) :
 PCalls Tryz.prog 157 #[pR b,.func (.func f) #[k b] #[]] H (RdR H b L s g (.list t)) (RdE H b L s (.list t)):=by
 refine pcalls_of_vc (args:=[_,_]) Tryz.func157 c157ok (Nat.le_of_ble_eq_true rfl) ?_
 simp (implicitDefEqProofs:=false) only [go_sem,c157,pR]
 refine NewP_intro fun H1 hn1 hf1 hs1=>?_
 have hc1:=hn1.cell
 have hbx:H.size≠b:=by have:=h.lt; omega
 have hbH:b < H.size:=h.lt
 simp (implicitDefEqProofs:=false) only [go_sem,hc1]
 refine (rcount_o (h.ext hf1)).mono ?_
 rintro v H2 ⟨rfl,h2,hf2⟩
 have hb2:=hn1.fr hf2 (by simpa using hbx)
 have hc2:=hb2.cell
 simp (implicitDefEqProofs:=false) only [go_sem,hc2]
 have hck:=check_ok h2
 rw [pR] at hck
 refine PCalls.mono hck ?_ ?_
 rotate_left
 ·rintro c H3 ⟨rfl,hn,hf3⟩
  refine ⟨rfl,?_,(hf1.mono (by simp)).trans (hf2.trans (hf3.mono (by simp)))⟩
  simp only [dT,hn,repO_none]
 rintro v H3 ⟨rfl,hs,h3,hf3⟩
 obtain ⟨p,hp'⟩:=Option.isSome_iff_exists.1 hs
 obtain ⟨n,hn⟩:∃ n,n=(countO L s).1:=⟨_,rfl⟩
 have hnL:n≤L.length:=by rw [hn]; exact countO_le L s
 have hD:dT L (.list t) s=repO (dT L t) n (some p):=by simp only [dT,← hp',hn]
 rw [hp'] at h3
 rw [← hn]
 have hf13:Fr [b] H1 H3:=hf2.trans (hf3.mono (by simp))
 simp (implicitDefEqProofs:=false) only [go_sem]
 refine vc_loop (fun (x:Nat × List (den t) × Nat × Value × Option Nat) H'=>x.1≤n∧x.2.1.length=x.1∧LsO H' (fun y=>y < H1.size) 64 9 x.2.2.2.1 (x.2.1.map (datT t)) x.2.2.2.2∧(∀ k,x.2.2.2.2=some k→H1.size≤k)∧RdO H' b L (some x.2.2.1) g∧Fr [b] H1 H'∧
  repO (dT L t) n (some p)=(x.2.1 ++ (repO (dT L t) (n - x.1) (some x.2.2.1)).1,(repO (dT L t) (n - x.1) (some x.2.2.1)).2))
  (fun x=>[(1,.func (.func f) #[k b] #[]),(2,.pointer (some ⟨H.size,0,none⟩)),(5,x.2.2.2.1),(12,.int .i64 n),(13,.int .i64 x.1)]) (fun x=>n - x.1) (0,[],p,.slice none 0 0,none) ?_ ?_ ?_
 ·exact ⟨Nat.zero_le _,rfl,LsO.nil,by simp,h3,hf13,by simp⟩
 ·simp (implicitDefEqProofs:=false) only [go_sem]
 ·rintro ⟨i,ds,q,vo,go⟩ H' ⟨hi,hdl,hls,hgo,hrd,hfr,hrep⟩
  simp only at hi hdl hls hgo hrd hfr hrep
  rcases Nat.lt_or_ge i n with hlt | hge
  ·have hlt':(i:Int) < (n:Int):=by omega
   have hw1:=succ_i64 i n hlt (by omega)
   simp (implicitDefEqProofs:=false) only [go_sem,hlt']
   refine ⟨hf.1,PCalls.mono (hf.2 hL hrd) ?_ ?_⟩
   rotate_left
   ·rintro c H5 ⟨rfl,he,hf5⟩
    refine ⟨rfl,?_,(hf1.mono (by simp)).trans (hfr.trans hf5)⟩
    rw [hD,hrep]
    exact repO_end hlt he
   rintro v H5 ⟨cs,rfl,hr5,hrd5,hf5⟩
   have hxl:=rep_wid hr5.rep
   rw [hw] at hxl
   obtain ⟨x0,x1,x2,x3,x4,x5,x6,x7,x8,rfl⟩:=len9 hxl
   rw [hp]
   simp (implicitDefEqProofs:=false) only [go_sem]
   refine NewS_intro fun H6 hn6 hf6 hs6=>?_
   have hsz1:=hfr.size
   have hsz5:=hf5.size
   have hb1:b < H1.size:=by omega
   have hls6:LsO H6 (fun y=>y < H1.size) 64 9 vo (ds.map (datT t)) go:=(hls.fr hf5 (fun x hx=>.inl (by simp at hx; omega)) (fun k hk=>by have:=hgo k hk; simp; omega) (fun x hx=>.inl hx)).ext hf6 fun x hx=>.inl hx
   have hd6:RepP H6 (fun y=>y < H1.size∨go=some y) (datT t (dT L t (some q)).1) [x0,x1,x2,x3,x4,x5,x6,x7,x8]:=by
    refine RepP.ext hr5 hf6 fun x hx=>.inl ?_
    rcases hx with hx | hx
    ·omega
    ·exact hls.lt hx
   simp (implicitDefEqProofs:=false) only [go_sem]
   refine App_ls ECertificate hls6 Tryz.underlying58 hn6 rfl (rep_one hr5.rep) hd6 rfl (by simp only [List.length_map]; unfold maxLen; omega) (by simp only [List.length_map]; omega) fun a c H7 g7 hl7 hf7 hg7=>?_
   have hg71:∀ k,g7=some k→H1.size≤k:=by
    intro k hk
    rcases hg7 k hk with q | q
    ·exact hgo k q
    ·have:=hf6.size; omega
   have hrd7:RdO H7 b L (dT L t (some q)).2 g:=(hrd5.ext hf6).fr hf7 (fun hm=>by have:=hgo b (by simpa using hm); omega) (fun k hk hm=>by
    have h1:=hgo k (by simpa using hm)
    have h2:=h.ltg hk
    omega)
   have hf17:Fr [b] H1 H7:=(hfr.trans (hf5.trans (hf6.mono (by simp)))).trans' hf7 fun x hx=>.inr (hgo x (by simpa using hx))
   have hb7:=hn1.fr hf17 (by simpa using hbx)
   have hc7:=hb7.cell
   simp (implicitDefEqProofs:=false) only [go_sem,hc7]
   have hck7:=check_ok hrd7
   rw [pR] at hck7
   refine PCalls.mono hck7 ?_ ?_
   rotate_left
   ·rintro c H8 ⟨rfl,he,hf8⟩
    refine ⟨rfl,?_,(hf1.mono (by simp)).trans (hf17.trans (hf8.mono (by simp)))⟩
    rw [hD,hrep]
    exact repO_end hlt he
   rintro v H8 ⟨rfl,hs8,h8,hf8⟩
   obtain ⟨q',hq'⟩:=Option.isSome_iff_exists.1 hs8
   rw [hq'] at h8
   have hstep:=repO_step (f:=dT L t) (p:=q) (x:=(dT L t (some q)).1) (q:=q') hlt (by rw [← hq'])
   simp (implicitDefEqProofs:=false) only [go_sem]
   refine loopK_intro (i + 1,ds ++ [(dT L t (some q)).1],q',.slice a ((ds.map (datT t)).length + 1) c,g7) (by show n - (i + 1) < n - i; omega) ?_ ?_
   ·simp (implicitDefEqProofs:=false) only [go_sem,hw1]
   ·refine ⟨hlt,by simp [hdl],?_,hg71,h8,hf17.trans (hf8.mono (by simp)),?_⟩
    ·have:=hl7.ext hf8 (B':=fun y=>y < H1.size) fun x hx=>.inl hx
     simpa using this
    ·rw [hrep,hstep]; simp
  ·have hge':¬ (i:Int) < (n:Int):=by omega
   have hin:i=n:=by omega
   subst hin
   simp (implicitDefEqProofs:=false) only [go_sem,hge']
   rw [Nat.sub_self] at hrep
   simp only [repO,List.append_nil] at hrep
   refine ⟨[vo],rfl,?_,?_,(hf1.mono (by simp)).trans hfr⟩
   ·rw [hD,hrep]
    have hr:=hls.rep fun b hb hx=>by have:=hgo b hb; omega
    have hE:datT (.list t) ds= .list 9 (ds.map (datT t)):=by simp only [datT,hw]
    rw [hE]
    exact hr.more fun x hx=>.inl (by have:=hf1.size; omega)
   ·rw [hD,hrep]; exact hrd
theorem EWrite:ElemOk Tryz.prog 97 113 2 40 (.agg #[.string ⟨⟨[]⟩⟩,.slice none 0 0]):=⟨Tryz.underlying97,by kernel_rfl,rfl,by decide⟩
set_option maxHeartbeats 1000000 in
theorem elemsWrite_ok {f:Nat} {t:Ty} {k:Nat→Value} (hw:wid t=2) (hp:∀ cs,argOf t cs= .agg cs.toArray) (hf:ROk f t k) {H:Heap} {b:Nat} {L:Bs} {s:Pl} {g:Option Nat} (hL:L.length < 2^36) (h:RdO H b L s g) :
 PCalls Tryz.prog 159 #[pR b,.func (.func f) #[k b] #[]] H (RdR H b L s g (.list t)) (RdE H b L s (.list t)):=by
 refine pcalls_of_vc (args:=[_,_]) Tryz.func159 c159ok (Nat.le_of_ble_eq_true rfl) ?_
 simp (implicitDefEqProofs:=false) only [go_sem,c159,pR]
 refine NewP_intro fun H1 hn1 hf1 hs1=>?_
 have hc1:=hn1.cell
 have hbx:H.size≠b:=by have:=h.lt; omega
 have hbH:b < H.size:=h.lt
 simp (implicitDefEqProofs:=false) only [go_sem,hc1]
 refine (rcount_o (h.ext hf1)).mono ?_
 rintro v H2 ⟨rfl,h2,hf2⟩
 have hb2:=hn1.fr hf2 (by simpa using hbx)
 have hc2:=hb2.cell
 simp (implicitDefEqProofs:=false) only [go_sem,hc2]
 have hck:=check_ok h2
 rw [pR] at hck
 refine PCalls.mono hck ?_ ?_
 rotate_left
 ·rintro c H3 ⟨rfl,hn,hf3⟩
  refine ⟨rfl,?_,(hf1.mono (by simp)).trans (hf2.trans (hf3.mono (by simp)))⟩
  simp only [dT,hn,repO_none]
 rintro v H3 ⟨rfl,hs,h3,hf3⟩
 obtain ⟨p,hp'⟩:=Option.isSome_iff_exists.1 hs
 obtain ⟨n,hn⟩:∃ n,n=(countO L s).1:=⟨_,rfl⟩
 have hnL:n≤L.length:=by rw [hn]; exact countO_le L s
 have hD:dT L (.list t) s=repO (dT L t) n (some p):=by simp only [dT,← hp',hn]
 rw [hp'] at h3
 rw [← hn]
 have hf13:Fr [b] H1 H3:=hf2.trans (hf3.mono (by simp))
 simp (implicitDefEqProofs:=false) only [go_sem]
 refine vc_loop (fun (x:Nat × List (den t) × Nat × Value × Option Nat) H'=>x.1≤n∧x.2.1.length=x.1∧LsO H' (fun y=>y < H1.size) 113 2 x.2.2.2.1 (x.2.1.map (datT t)) x.2.2.2.2∧(∀ k,x.2.2.2.2=some k→H1.size≤k)∧RdO H' b L (some x.2.2.1) g∧Fr [b] H1 H'∧
  repO (dT L t) n (some p)=(x.2.1 ++ (repO (dT L t) (n - x.1) (some x.2.2.1)).1,(repO (dT L t) (n - x.1) (some x.2.2.1)).2))
  (fun x=>[(1,.func (.func f) #[k b] #[]),(2,.pointer (some ⟨H.size,0,none⟩)),(5,x.2.2.2.1),(12,.int .i64 n),(13,.int .i64 x.1)]) (fun x=>n - x.1) (0,[],p,.slice none 0 0,none) ?_ ?_ ?_
 ·exact ⟨Nat.zero_le _,rfl,LsO.nil,by simp,h3,hf13,by simp⟩
 ·simp (implicitDefEqProofs:=false) only [go_sem]
 ·rintro ⟨i,ds,q,vo,go⟩ H' ⟨hi,hdl,hls,hgo,hrd,hfr,hrep⟩
  simp only at hi hdl hls hgo hrd hfr hrep
  rcases Nat.lt_or_ge i n with hlt | hge
  ·have hlt':(i:Int) < (n:Int):=by omega
   have hw1:=succ_i64 i n hlt (by omega)
   simp (implicitDefEqProofs:=false) only [go_sem,hlt']
   refine ⟨hf.1,PCalls.mono (hf.2 hL hrd) ?_ ?_⟩
   rotate_left
   ·rintro c H5 ⟨rfl,he,hf5⟩
    refine ⟨rfl,?_,(hf1.mono (by simp)).trans (hfr.trans hf5)⟩
    rw [hD,hrep]
    exact repO_end hlt he
   rintro v H5 ⟨cs,rfl,hr5,hrd5,hf5⟩
   have hxl:=rep_wid hr5.rep
   rw [hw] at hxl
   obtain ⟨x0,x1,rfl⟩:=len2 hxl
   rw [hp]
   simp (implicitDefEqProofs:=false) only [go_sem]
   refine NewS_intro fun H6 hn6 hf6 hs6=>?_
   have hsz1:=hfr.size
   have hsz5:=hf5.size
   have hb1:b < H1.size:=by omega
   have hls6:LsO H6 (fun y=>y < H1.size) 113 2 vo (ds.map (datT t)) go:=(hls.fr hf5 (fun x hx=>.inl (by simp at hx; omega)) (fun k hk=>by have:=hgo k hk; simp; omega) (fun x hx=>.inl hx)).ext hf6 fun x hx=>.inl hx
   have hd6:RepP H6 (fun y=>y < H1.size∨go=some y) (datT t (dT L t (some q)).1) [x0,x1]:=by
    refine RepP.ext hr5 hf6 fun x hx=>.inl ?_
    rcases hx with hx | hx
    ·omega
    ·exact hls.lt hx
   simp (implicitDefEqProofs:=false) only [go_sem]
   refine App_ls EWrite hls6 Tryz.underlying97 hn6 rfl (rep_one hr5.rep) hd6 rfl (by simp only [List.length_map]; unfold maxLen; omega) (by simp only [List.length_map]; omega) fun a c H7 g7 hl7 hf7 hg7=>?_
   have hg71:∀ k,g7=some k→H1.size≤k:=by
    intro k hk
    rcases hg7 k hk with q | q
    ·exact hgo k q
    ·have:=hf6.size; omega
   have hrd7:RdO H7 b L (dT L t (some q)).2 g:=(hrd5.ext hf6).fr hf7 (fun hm=>by have:=hgo b (by simpa using hm); omega) (fun k hk hm=>by
    have h1:=hgo k (by simpa using hm)
    have h2:=h.ltg hk
    omega)
   have hf17:Fr [b] H1 H7:=(hfr.trans (hf5.trans (hf6.mono (by simp)))).trans' hf7 fun x hx=>.inr (hgo x (by simpa using hx))
   have hb7:=hn1.fr hf17 (by simpa using hbx)
   have hc7:=hb7.cell
   simp (implicitDefEqProofs:=false) only [go_sem,hc7]
   have hck7:=check_ok hrd7
   rw [pR] at hck7
   refine PCalls.mono hck7 ?_ ?_
   rotate_left
   ·rintro c H8 ⟨rfl,he,hf8⟩
    refine ⟨rfl,?_,(hf1.mono (by simp)).trans (hf17.trans (hf8.mono (by simp)))⟩
    rw [hD,hrep]
    exact repO_end hlt he
   rintro v H8 ⟨rfl,hs8,h8,hf8⟩
   obtain ⟨q',hq'⟩:=Option.isSome_iff_exists.1 hs8
   rw [hq'] at h8
   have hstep:=repO_step (f:=dT L t) (p:=q) (x:=(dT L t (some q)).1) (q:=q') hlt (by rw [← hq'])
   simp (implicitDefEqProofs:=false) only [go_sem]
   refine loopK_intro (i + 1,ds ++ [(dT L t (some q)).1],q',.slice a ((ds.map (datT t)).length + 1) c,g7) (by show n - (i + 1) < n - i; omega) ?_ ?_
   ·simp (implicitDefEqProofs:=false) only [go_sem,hw1]
   ·refine ⟨hlt,by simp [hdl],?_,hg71,h8,hf17.trans (hf8.mono (by simp)),?_⟩
    ·have:=hl7.ext hf8 (B':=fun y=>y < H1.size) fun x hx=>.inl hx
     simpa using this
    ·rw [hrep,hstep]; simp
  ·have hge':¬ (i:Int) < (n:Int):=by omega
   have hin:i=n:=by omega
   subst hin
   simp (implicitDefEqProofs:=false) only [go_sem,hge']
   rw [Nat.sub_self] at hrep
   simp only [repO,List.append_nil] at hrep
   refine ⟨[vo],rfl,?_,?_,(hf1.mono (by simp)).trans hfr⟩
   ·rw [hD,hrep]
    have hr:=hls.rep fun b hb hx=>by have:=hgo b hb; omega
    have hE:datT (.list t) ds= .list 2 (ds.map (datT t)):=by simp only [datT,hw]
    rw [hE]
    exact hr.more fun x hx=>.inl (by have:=hf1.size; omega)
   ·rw [hD,hrep]; exact hrd
theorem EBts:ElemOk Tryz.prog 69 22 1 24 (.slice none 0 0):=⟨Tryz.underlying69,by kernel_rfl,rfl,by decide⟩
set_option maxHeartbeats 1000000 in
theorem elemsBts_ok {f:Nat} {t:Ty} {k:Nat→Value} (hw:wid t=1) (hp:∀ v,argOf t [v]=v) (ht:t= .bytes) (hf:ROk f t k) {H:Heap} {b:Nat} {L:Bs} {s:Pl} {g:Option Nat} (hL:L.length < 2^36) (h:RdO H b L s g) :
 PCalls Tryz.prog 162 #[pR b,.func (.func f) #[k b] #[]] H (RdR H b L s g (.list t)) (RdE H b L s (.list t)):=by
 refine pcalls_of_vc (args:=[_,_]) Tryz.func162 c162ok (Nat.le_of_ble_eq_true rfl) ?_
 simp (implicitDefEqProofs:=false) only [go_sem,c162,pR]
 refine NewP_intro fun H1 hn1 hf1 hs1=>?_
 have hc1:=hn1.cell
 have hbx:H.size≠b:=by have:=h.lt; omega
 have hbH:b < H.size:=h.lt
 simp (implicitDefEqProofs:=false) only [go_sem,hc1]
 refine (rcount_o (h.ext hf1)).mono ?_
 rintro v H2 ⟨rfl,h2,hf2⟩
 have hb2:=hn1.fr hf2 (by simpa using hbx)
 have hc2:=hb2.cell
 simp (implicitDefEqProofs:=false) only [go_sem,hc2]
 have hck:=check_ok h2
 rw [pR] at hck
 refine PCalls.mono hck ?_ ?_
 rotate_left
 ·rintro c H3 ⟨rfl,hn,hf3⟩
  refine ⟨rfl,?_,(hf1.mono (by simp)).trans (hf2.trans (hf3.mono (by simp)))⟩
  simp only [dT,hn,repO_none]
 rintro v H3 ⟨rfl,hs,h3,hf3⟩
 obtain ⟨p,hp'⟩:=Option.isSome_iff_exists.1 hs
 obtain ⟨n,hn⟩:∃ n,n=(countO L s).1:=⟨_,rfl⟩
 have hnL:n≤L.length:=by rw [hn]; exact countO_le L s
 have hD:dT L (.list t) s=repO (dT L t) n (some p):=by simp only [dT,← hp',hn]
 rw [hp'] at h3
 rw [← hn]
 have hf13:Fr [b] H1 H3:=hf2.trans (hf3.mono (by simp))
 simp (implicitDefEqProofs:=false) only [go_sem]
 refine vc_loop (fun (x:Nat × List (den t) × Nat × Value × Option Nat) H'=>x.1≤n∧x.2.1.length=x.1∧LsO H' (fun y=>y < H1.size) 22 1 x.2.2.2.1 (x.2.1.map (datT t)) x.2.2.2.2∧(∀ k,x.2.2.2.2=some k→H1.size≤k)∧RdO H' b L (some x.2.2.1) g∧Fr [b] H1 H'∧
  repO (dT L t) n (some p)=(x.2.1 ++ (repO (dT L t) (n - x.1) (some x.2.2.1)).1,(repO (dT L t) (n - x.1) (some x.2.2.1)).2))
  (fun x=>[(1,.func (.func f) #[k b] #[]),(2,.pointer (some ⟨H.size,0,none⟩)),(5,x.2.2.2.1),(12,.int .i64 n),(13,.int .i64 x.1)]) (fun x=>n - x.1) (0,[],p,.slice none 0 0,none) ?_ ?_ ?_
 ·exact ⟨Nat.zero_le _,rfl,LsO.nil,by simp,h3,hf13,by simp⟩
 ·simp (implicitDefEqProofs:=false) only [go_sem]
 ·rintro ⟨i,ds,q,vo,go⟩ H' ⟨hi,hdl,hls,hgo,hrd,hfr,hrep⟩
  simp only at hi hdl hls hgo hrd hfr hrep
  rcases Nat.lt_or_ge i n with hlt | hge
  ·have hlt':(i:Int) < (n:Int):=by omega
   have hw1:=succ_i64 i n hlt (by omega)
   simp (implicitDefEqProofs:=false) only [go_sem,hlt']
   refine ⟨hf.1,PCalls.mono (hf.2 hL hrd) ?_ ?_⟩
   rotate_left
   ·rintro c H5 ⟨rfl,he,hf5⟩
    refine ⟨rfl,?_,(hf1.mono (by simp)).trans (hfr.trans hf5)⟩
    rw [hD,hrep]
    exact repO_end hlt he
   rintro v H5 ⟨cs,rfl,hr5,hrd5,hf5⟩
   have hxl:=rep_wid hr5.rep
   rw [hw] at hxl
   obtain ⟨x0,rfl⟩:=len1 hxl
   obtain ⟨xa,xn,xc,rfl⟩:∃ a n c,x0=Value.slice a n c:=by
    subst ht
    obtain ⟨xa,xc,hx0,_⟩:=rep_bytes.1 hr5.rep
    simp only [List.cons.injEq,and_true] at hx0
    exact ⟨_,_,_,hx0⟩
   rw [hp]
   simp (implicitDefEqProofs:=false) only [go_sem]
   refine NewS_intro fun H6 hn6 hf6 hs6=>?_
   have hsz1:=hfr.size
   have hsz5:=hf5.size
   have hb1:b < H1.size:=by omega
   have hls6:LsO H6 (fun y=>y < H1.size) 22 1 vo (ds.map (datT t)) go:=(hls.fr hf5 (fun x hx=>.inl (by simp at hx; omega)) (fun k hk=>by have:=hgo k hk; simp; omega) (fun x hx=>.inl hx)).ext hf6 fun x hx=>.inl hx
   have hd6:RepP H6 (fun y=>y < H1.size∨go=some y) (datT t (dT L t (some q)).1) [Value.slice xa xn xc]:=by
    refine RepP.ext hr5 hf6 fun x hx=>.inl ?_
    rcases hx with hx | hx
    ·omega
    ·exact hls.lt hx
   simp (implicitDefEqProofs:=false) only [go_sem]
   refine App_ls EBts hls6 Tryz.underlying69 hn6 rfl (rep_one hr5.rep) hd6 rfl (by simp only [List.length_map]; unfold maxLen; omega) (by simp only [List.length_map]; omega) fun a c H7 g7 hl7 hf7 hg7=>?_
   have hg71:∀ k,g7=some k→H1.size≤k:=by
    intro k hk
    rcases hg7 k hk with q | q
    ·exact hgo k q
    ·have:=hf6.size; omega
   have hrd7:RdO H7 b L (dT L t (some q)).2 g:=(hrd5.ext hf6).fr hf7 (fun hm=>by have:=hgo b (by simpa using hm); omega) (fun k hk hm=>by
    have h1:=hgo k (by simpa using hm)
    have h2:=h.ltg hk
    omega)
   have hf17:Fr [b] H1 H7:=(hfr.trans (hf5.trans (hf6.mono (by simp)))).trans' hf7 fun x hx=>.inr (hgo x (by simpa using hx))
   have hb7:=hn1.fr hf17 (by simpa using hbx)
   have hc7:=hb7.cell
   simp (implicitDefEqProofs:=false) only [go_sem,hc7]
   have hck7:=check_ok hrd7
   rw [pR] at hck7
   refine PCalls.mono hck7 ?_ ?_
   rotate_left
   ·rintro c H8 ⟨rfl,he,hf8⟩
    refine ⟨rfl,?_,(hf1.mono (by simp)).trans (hf17.trans (hf8.mono (by simp)))⟩
    rw [hD,hrep]
    exact repO_end hlt he
   rintro v H8 ⟨rfl,hs8,h8,hf8⟩
   obtain ⟨q',hq'⟩:=Option.isSome_iff_exists.1 hs8
   rw [hq'] at h8
   have hstep:=repO_step (f:=dT L t) (p:=q) (x:=(dT L t (some q)).1) (q:=q') hlt (by rw [← hq'])
   simp (implicitDefEqProofs:=false) only [go_sem]
   refine loopK_intro (i + 1,ds ++ [(dT L t (some q)).1],q',.slice a ((ds.map (datT t)).length + 1) c,g7) (by show n - (i + 1) < n - i; omega) ?_ ?_
   ·simp (implicitDefEqProofs:=false) only [go_sem,hw1]
   ·refine ⟨hlt,by simp [hdl],?_,hg71,h8,hf17.trans (hf8.mono (by simp)),?_⟩
    ·have:=hl7.ext hf8 (B':=fun y=>y < H1.size) fun x hx=>.inl hx
     simpa using this
    ·rw [hrep,hstep]; simp
  ·have hge':¬ (i:Int) < (n:Int):=by omega
   have hin:i=n:=by omega
   subst hin
   simp (implicitDefEqProofs:=false) only [go_sem,hge']
   rw [Nat.sub_self] at hrep
   simp only [repO,List.append_nil] at hrep
   refine ⟨[vo],rfl,?_,?_,(hf1.mono (by simp)).trans hfr⟩
   ·rw [hD,hrep]
    have hr:=hls.rep fun b hb hx=>by have:=hgo b hb; omega
    have hE:datT (.list t) ds= .list 1 (ds.map (datT t)):=by simp only [datT,hw]
    rw [hE]
    exact hr.more fun x hx=>.inl (by have:=hf1.size; omega)
   ·rw [hD,hrep]; exact hrd
end Go.Proofs.YtdhlibkdcldioaaGreat
end
