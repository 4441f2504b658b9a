import Derived.Test.YtdhlibkdcldioaaGreatB9
import Derived.Test.YtdhlibkdcldioaaGreatB15
section
set_option linter.unusedSimpArgs false
set_option linter.unusedVariables false
namespace Go.Proofs.YtdhlibkdcldioaaGreat
open Gx Go
def encF:Nat→Nat→List UInt8
 | 0,_=>[]
 | f+1,n=>if n < 128 then [UInt8.ofNat n] else UInt8.ofNat (n % 128 + 128) :: encF f (n / 128)
def enc (n:Nat):List UInt8:=encF 10 n
theorem length_encF:∀ f n,(encF f n).length≤f
 | 0,_=>by simp [encF]
 | f+1,n=>by
   simp only [encF]; split
   ·simp
   ·have:=length_encF f (n / 128); simp; omega
theorem length_enc (n:Nat):(enc n).length≤10:=length_encF 10 n
def Wr (H:Heap) (b:Nat) (l:List UInt8) (g:Option Nat):Prop:=∃ a c,Blk H b 132 [.slice a l.length c]∧Own H 5 1 (.slice a l.length c) l.length (l.map bv) g
def WrStep (H:Heap) (b:Nat) (g:Option Nat) (H':Heap) (l':List UInt8) (g':Option Nat):Prop:=
 Wr H' b l' g'∧Fr (b :: g.toList) H H'∧(∀ k,g'=some k→g=some k∨H.size≤k)
theorem WrStep.trans {H H1 H2:Heap} {b:Nat} {g g1 g2:Option Nat} {l1 l2:List UInt8} (h1:WrStep H b g H1 l1 g1) (h2:WrStep H1 b g1 H2 l2 g2):WrStep H b g H2 l2 g2:=by
 refine ⟨h2.1,h1.2.1.trans' h2.2.1 ?_,fun k hk=>?_⟩
 ·intro k hk
  rcases List.mem_cons.1 hk with rfl | hk
  ·exact .inl (by simp)
  ·rcases h1.2.2 k (by simpa using hk) with h | h
   ·exact .inl (by simp [h])
   ·exact .inr h
 ·rcases h2.2.2 k hk with h | h
  ·exact h1.2.2 k h
  ·exact .inr (Nat.le_trans h1.2.1.size h)
theorem Wr.fr {M:List Nat} {H H':Heap} {b:Nat} {l:List UInt8} {g:Option Nat} (h:Wr H b l g) (hf:Fr M H H') (hb:b ∉ M) (hg:∀ k,g=some k→k ∉ M):Wr H' b l g:=by
 obtain ⟨a,c,h1,h2⟩:=h
 exact ⟨a,c,h1.fr hf hb,h2.fr hf hg⟩
theorem Wr.lt {H:Heap} {b:Nat} {l:List UInt8} {g:Option Nat} (h:Wr H b l g):b < H.size:=by
 obtain ⟨a,c,h1,h2⟩:=h; exact h1.lt
theorem EB:ElemOk Tryz.prog 22 5 1 1 (.int .u8 0):=⟨Tryz.underlying22,by kernel_rfl,rfl,by decide⟩
theorem wrap_u8_lt (m:Nat) (h:m < 128):IntKind.u8.wrap ↑m=((UInt8.ofNat m).toNat:Int):=by
 rw [wrap_u8_id _ (by omega) (by omega),u8_of m (by omega)]
theorem or128:∀ x:Fin 256,bits .or .u8 (x.val:Int) 128=((x.val % 128 + 128:Nat):Int):=by decide +kernel
theorem wrap_u8_or (m:Nat):bits .or .u8 (IntKind.u8.wrap ↑m) 128=((UInt8.ofNat (m % 128 + 128)).toNat:Int):=by
 have e:IntKind.u8.wrap (m:Int)=((m % 256:Nat):Int):=by rw [IntKind.wrap_u8]; omega
 have e3:=or128 ⟨m % 256,Nat.mod_lt _ (by decide)⟩
 simp only at e3
 rw [e,e3,u8_of _ (by omega)]
 omega
theorem WrStep.app {H H1 H2 H3:Heap} {b:Nat} {g g' g2:Option Nat} {l x:List UInt8} {a:Option Addr} {c:Nat} (hfr:Fr (b :: g.toList) H H1) (hg:∀ k,g'=some k→g=some k∨H.size≤k)
 (hf2:Fr g'.toList H1 H2) (hg2:∀ k,g2=some k→g'=some k∨H1.size≤k) (ho:Own H2 5 1 (.slice a (l.length + x.length) c) (l.length + x.length) (l.map bv ++ x.map bv) g2)
 (hb:Blk H3 b 132 [.slice a (l.length + x.length) c]) (hf3:Fr [b] H2 H3) (hne:b ∉ g2.toList):WrStep H b g H3 (l ++ x) g2:=by
 refine ⟨⟨a,c,by simpa using hb,?_⟩,?_,?_⟩
 ·have:=ho.fr hf3 (fun k hk=>by simp; rintro rfl; exact hne (by simp [hk]))
  simpa using this
 ·refine (hfr.trans' hf2 ?_).trans' hf3 (by simp)
  intro k hk
  rcases hg k (by simpa using hk) with h | h
  ·left; simp [h]
  ·exact .inr h
 ·intro k hk
  rcases hg2 k hk with h | h
  ·exact hg k h
  ·exact .inr (Nat.le_trans hfr.size h)
theorem uint_ok (n:Nat) (hn:n < 2^64) {H:Heap} {b:Nat} {l:List UInt8} {g:Option Nat} (h:Wr H b l g) (hl:l.length < 2^40) :
 HCalls Tryz.prog 77 #[.pointer (some ⟨b,0,none⟩),.int .u64 n] H fun v H'=>v= .tuple #[]∧∃ g',WrStep H b g H' (l ++ enc n) g':=by
 refine calls_of_vc (args:=[_,_]) Tryz.func77 c77ok (Nat.le_of_ble_eq_true rfl) ?_
 simp (implicitDefEqProofs:=false) only [go_sem,c77]
 refine vc_loop (fun ((m,f,p,g'):Nat × Nat × List UInt8 × Option Nat) H'=>m < 2^64∧m < 128^f∧1≤f∧p.length + f≤10∧p ++ encF f m=encF 10 n∧WrStep H b g H' (l ++ p) g')
  (fun (m,_,_,_)=>[(0,.pointer (some ⟨b,0,none⟩)),(1,.int .u64 m)]) (fun (m,_,_,_)=>m) (n,10,[],g) ?_ ?_ ?_
 ·refine ⟨hn,Nat.lt_of_lt_of_le hn (by decide),by decide,by simp,by simp,?_⟩
  exact ⟨by simpa using h,Fr.refl _ _,fun k hk=>.inl hk⟩
 ·simp (implicitDefEqProofs:=false) only [go_sem]
 ·rintro ⟨m,f,p,g'⟩ H' ⟨h1,h2,h3,h4,h5,⟨a,c,hb,ho⟩,hfr,hg⟩
  have hc:=hb.cell
  have hlen:(l ++ p).length < 2^41:=by simp; omega
  simp (implicitDefEqProofs:=false) only [go_sem,hc]
  refine ⟨fun ht=>?_,fun ht=>?_⟩
  ·refine NewS_intro fun H1 hn1 hf1 hs1=>?_
   have hb1:=hb.ext hf1
   have hc1:=hb1.cell
   simp (implicitDefEqProofs:=false) only [go_sem,hc1]
   rw [wrap_u8_or] at hn1
   refine App_own EB (ho.fr hf1 (by simp)) (SrcH.blk Tryz.underlying22 hn1 (by simp) (by simp [Value.oneCell'])) (by unfold maxLen; omega) (by omega) fun a2 c2 H2 g2 ho2 hf2 hg2=>?_
   have hb2:=hb1.fr hf2 (ho.ne hb (by decide))
   simp (implicitDefEqProofs:=false) only [go_sem]
   refine Sto_one hb2 (by simp) rfl fun H3 hb3 hf3 hs3=>?_
   have hm:128≤m:=by omega
   have hf:f=(f - 1) + 1:=by omega
   have hst:=WrStep.app (l:=l ++ p) (x:=[UInt8.ofNat (m % 128 + 128)]) (hfr.trans' hf1 (by simp)) hg hf2 hg2 ho2 hb3 hf3 (ho2.ne hb2 (by decide))
   simp (implicitDefEqProofs:=false) only [go_sem]
   refine loopK_intro (m / 128,f - 1,p ++ [UInt8.ofNat (m % 128 + 128)],g2) (by show m / 128 < m; omega) ?_ ?_
   ·simp (implicitDefEqProofs:=false) only [go_sem]
    rw [show shrI .u64 (m:Int) 7=((m / 128:Nat):Int) from shrI_nat m 7 (by decide)]
   ·refine ⟨by show m / 128 < _; omega,?_,?_,?_,?_,by simpa using hst⟩
    ·show m / 128 < 128 ^ (f - 1)
     rw [hf,Nat.pow_succ] at h2; omega
    ·show 1≤f - 1
     rcases Nat.lt_or_ge 1 f with h | h
     ·omega
     ·have:f=1:=by omega
      rw [this] at h2; omega
    ·simp; omega
    ·show (p ++ [UInt8.ofNat (m % 128 + 128)]) ++ encF (f - 1) (m / 128)=_
     rw [← h5,hf]
     simp [encF,show ¬ m < 128 by omega]
  ·refine NewS_intro fun H1 hn1 hf1 hs1=>?_
   have hb1:=hb.ext hf1
   have hc1:=hb1.cell
   simp (implicitDefEqProofs:=false) only [go_sem,hc1]
   rw [wrap_u8_lt m (by omega)] at hn1
   refine App_own EB (ho.fr hf1 (by simp)) (SrcH.blk Tryz.underlying22 hn1 (by simp) (by simp [Value.oneCell'])) (by unfold maxLen; omega) (by omega) fun a2 c2 H2 g2 ho2 hf2 hg2=>?_
   have hb2:=hb1.fr hf2 (ho.ne hb (by decide))
   simp (implicitDefEqProofs:=false) only [go_sem]
   refine Sto_one hb2 (by simp) rfl fun H3 hb3 hf3 hs3=>?_
   simp (implicitDefEqProofs:=false) only [go_sem]
   refine ⟨g2,?_⟩
   have hst:=WrStep.app (l:=l ++ p) (x:=[UInt8.ofNat m]) (hfr.trans' hf1 (by simp)) hg hf2 hg2 ho2 hb3 hf3 (ho2.ne hb2 (by decide))
   have hf:f=(f - 1) + 1:=by omega
   rw [enc,← h5,hf]
   simpa [encF,show m < 128 by omega] using hst
theorem bool_ok (x:Bool) {H:Heap} {b:Nat} {l:List UInt8} {g:Option Nat} (h:Wr H b l g) (hl:l.length < 2^40) :
 HCalls Tryz.prog 129 #[.pointer (some ⟨b,0,none⟩),.bool x] H fun v H'=>v= .tuple #[]∧∃ g',WrStep H b g H' (l ++ [if x then 1 else 0]) g':=by
 obtain ⟨a,c,hb,ho⟩:=h
 have hc:=hb.cell
 refine calls_of_vc (args:=[_,_]) Tryz.func129 c129ok (Nat.le_of_ble_eq_true rfl) ?_
 cases x
 all_goals
  simp (implicitDefEqProofs:=false) only [go_sem,c129,hc]
  refine NewS_intro fun H1 hn1 hf1 hs1=>?_
  have hb1:=hb.ext hf1
  have hc1:=hb1.cell
  simp (implicitDefEqProofs:=false) only [go_sem,hc1]
  refine App_own EB (ho.fr hf1 (by simp)) (SrcH.blk Tryz.underlying22 hn1 (by simp) (by simp [Value.oneCell'])) (by unfold maxLen; omega) (by omega) fun a2 c2 H2 g2 ho2 hf2 hg2=>?_
  have hb2:=hb1.fr hf2 (ho.ne hb (by decide))
  simp (implicitDefEqProofs:=false) only [go_sem]
  refine Sto_one hb2 (by simp) rfl fun H3 hb3 hf3 hs3=>?_
  simp (implicitDefEqProofs:=false) only [go_sem]
 ·exact ⟨g2,WrStep.app (x:=[0]) (hf1.mono (by simp)) (fun k hk=>.inl hk) hf2 hg2 ho2 hb3 hf3 (ho2.ne hb2 (by decide))⟩
 ·exact ⟨g2,WrStep.app (x:=[1]) (hf1.mono (by simp)) (fun k hk=>.inl hk) hf2 hg2 ho2 hb3 hf3 (ho2.ne hb2 (by decide))⟩
theorem bytes_ok (x:List UInt8) {ax:Option Addr} {cx:Nat} {H:Heap} {b:Nat} {l:List UInt8} {g:Option Nat} (h:Wr H b l g) (hl:l.length + x.length < 2^39) (hx:BsR H ax x)
 (hxb:x≠[]→∀ k o,ax=some ⟨k,o,none⟩→k≠b∧g≠some k) :
 HCalls Tryz.prog 124 #[.pointer (some ⟨b,0,none⟩),.slice ax x.length cx] H fun v H'=>v= .tuple #[]∧∃ g',WrStep H b g H' (l ++ (enc x.length ++ x)) g':=by
 refine calls_of_vc (args:=[_,_]) Tryz.func124 c124ok (Nat.le_of_ble_eq_true rfl) ?_
 simp (implicitDefEqProofs:=false) only [go_sem,c124]
 rw [wrap_u64_id _ (by omega) (by omega)]
 refine (uint_ok x.length (by omega) h (by omega)).mono ?_
 rintro v H1 ⟨rfl,g1,⟨a,c,hb,ho⟩,hf1,hg1⟩
 have hc:=hb.cell
 have he:=length_enc x.length
 have hx1:BsR H1 ax x:=by
  by_cases hx0:x=[]
  ·exact .inl hx0
  ·exact hx.fr hf1 fun k o hk=>by
    obtain ⟨h1,h2⟩:=hxb hx0 k o hk
    simp; exact ⟨h1,h2⟩
 simp (implicitDefEqProofs:=false) only [go_sem,hc]
 refine App_own EB ho (hx1.src Tryz.underlying22) (by unfold maxLen; simp; omega) (by simp; omega) fun a2 c2 H2 g2 ho2 hf2 hg2=>?_
 have hb2:=hb.fr hf2 (ho.ne hb (by decide))
 simp (implicitDefEqProofs:=false) only [go_sem]
 refine Sto_one hb2 (by simp) rfl fun H3 hb3 hf3 hs3=>?_
 simp (implicitDefEqProofs:=false) only [go_sem]
 refine ⟨g2,?_⟩
 have:=WrStep.app (l:=l ++ enc x.length) (x:=x) hf1 hg1 hf2 hg2 ho2 hb3 hf3 (ho2.ne hb2 (by decide))
 simpa using this
theorem text_ok (x:List UInt8) {H:Heap} {b:Nat} {l:List UInt8} {g:Option Nat} (h:Wr H b l g) (hl:l.length + x.length < 2^39) :
 HCalls Tryz.prog 93 #[.pointer (some ⟨b,0,none⟩),.string ⟨⟨x⟩⟩] H fun v H'=>v= .tuple #[]∧∃ g',WrStep H b g H' (l ++ (enc x.length ++ x)) g':=by
 refine calls_of_vc (args:=[_,_]) Tryz.func93 c93ok (Nat.le_of_ble_eq_true rfl) ?_
 have hsz:ByteArray.size ⟨⟨x⟩⟩=x.length:=rfl
 simp (implicitDefEqProofs:=false) only [go_sem,c93,hsz]
 rw [wrap_u64_id _ (by omega) (by omega)]
 refine (uint_ok x.length (by omega) h (by omega)).mono ?_
 rintro v H1 ⟨rfl,g1,⟨a,c,hb,ho⟩,hf1,hg1⟩
 have hc:=hb.cell
 have he:=length_enc x.length
 simp (implicitDefEqProofs:=false) only [go_sem,hc]
 refine App_own EB ho (SrcH.str Tryz.underlying9 x) (by unfold maxLen; simp; omega) (by simp; omega) fun a2 c2 H2 g2 ho2 hf2 hg2=>?_
 have hb2:=hb.fr hf2 (ho.ne hb (by decide))
 simp (implicitDefEqProofs:=false) only [go_sem]
 refine Sto_one hb2 (by simp) rfl fun H3 hb3 hf3 hs3=>?_
 simp (implicitDefEqProofs:=false) only [go_sem]
 refine ⟨g2,?_⟩
 have:=WrStep.app (l:=l ++ enc x.length) (x:=x) hf1 hg1 hf2 hg2 ho2 hb3 hf3 (ho2.ne hb2 (by decide))
 simpa using this
def zig (n:Int):Nat:=if 0≤n then (2 * n).toNat else (-2 * n - 1).toNat
theorem zig_lt (n:Int) (h:-2^63≤n) (h':n < 2^63):zig n < 2^64:=by unfold zig; split <;> omega
theorem xor_zero_u64 (x:Int) (h:0≤x) (h':x < 18446744073709551616):bits .xor .u64 x 0=x:=by
 have e:(BitVec.ofInt 64 x ^^^ BitVec.ofInt 64 0).toNat=x.toNat:=by
  rw [show BitVec.ofInt 64 0=0#64 from rfl,BitVec.xor_zero,BitVec.toNat_ofInt]
  omega
 show IntKind.u64.wrap ((BitVec.ofInt 64 x ^^^ BitVec.ofInt 64 0).toNat:Int)=x
 rw [e,wrap_u64_id _ (by omega) (by omega)]; omega
theorem xor_ones_u64 (x:Int) (h:0≤x) (h':x < 18446744073709551616):bits .xor .u64 x 18446744073709551615=18446744073709551615 - x:=by
 have e:(BitVec.ofInt 64 x ^^^ BitVec.ofInt 64 18446744073709551615).toNat=18446744073709551615 - x.toNat:=by
  rw [show BitVec.ofInt 64 18446744073709551615=BitVec.allOnes 64 from rfl,BitVec.xor_allOnes,BitVec.toNat_not,BitVec.toNat_ofInt]
  have:(x % (2 ^ 64:Nat)).toNat=x.toNat:=by omega
  rw [this]
 show IntKind.u64.wrap ((BitVec.ofInt 64 x ^^^ BitVec.ofInt 64 18446744073709551615).toNat:Int)=_
 rw [e,wrap_u64_id _ (by omega) (by omega)]; omega
theorem zig_bits (n:Int) (h:-2^63≤n) (h':n < 2^63):bits .xor .u64 (shlI .u64 (IntKind.u64.wrap n) 1) (IntKind.u64.wrap (shrI .i64 n 63))=(zig n:Int):=by
 have e1:shlI .u64 (IntKind.u64.wrap n) 1=IntKind.u64.wrap (IntKind.u64.wrap n * 2):=shlI_eq (k:=.u64) _ 1 (by decide)
 have e2:shrI .i64 n 63=if 0≤n then 0 else -1:=by
  show n.fdiv (2 ^ 63)=_
  rw [Int.fdiv_eq_ediv_of_nonneg _ (by decide)]
  split <;> omega
 rw [e1,e2]
 unfold zig
 split
 ·rw [show IntKind.u64.wrap 0=0 from rfl,wrap_u64_id n (by omega) (by omega),wrap_u64_id (n * 2) (by omega) (by omega),xor_zero_u64 _ (by omega) (by omega)]
  omega
 ·have e3:IntKind.u64.wrap n=n + 18446744073709551616:=by rw [IntKind.wrap_u64]; omega
  have e4:IntKind.u64.wrap ((n + 18446744073709551616) * 2)=2 * n + 18446744073709551616:=by rw [IntKind.wrap_u64]; omega
  rw [show IntKind.u64.wrap (-1)=18446744073709551615 from rfl,e3,e4,xor_ones_u64 _ (by omega) (by omega)]
  omega
theorem int_ok (n:Int) (hn:-2^63≤n) (hn':n < 2^63) {H:Heap} {b:Nat} {l:List UInt8} {g:Option Nat} (h:Wr H b l g) (hl:l.length < 2^40) :
 HCalls Tryz.prog 123 #[.pointer (some ⟨b,0,none⟩),.int .i64 n] H fun v H'=>v= .tuple #[]∧∃ g',WrStep H b g H' (l ++ enc (zig n)) g':=by
 refine calls_of_vc (args:=[_,_]) Tryz.func123 c123ok (Nat.le_of_ble_eq_true rfl) ?_
 simp (implicitDefEqProofs:=false) only [go_sem,c123]
 rw [zig_bits n hn hn']
 refine (uint_ok (zig n) (zig_lt n hn hn') h hl).mono ?_
 rintro v H1 ⟨rfl,hg⟩
 simp (implicitDefEqProofs:=false) only [go_sem]
 exact hg
theorem data_ok {H:Heap} {b:Nat} {l:List UInt8} {g:Option Nat} (h:Wr H b l g) (hl:l.length < 2^40) :
 HCalls Tryz.prog 96 #[.pointer (some ⟨b,0,none⟩)] H fun v H'=>∃ a c g',v= .slice a l.length c∧Own H' 5 1 v l.length (l.map bv) g'∧(∀ k,g'=some k→H.size≤k)∧Fr [] H H':=by
 obtain ⟨a,c,hb,ho⟩:=h
 refine calls_of_vc (args:=[_]) Tryz.func96 c96ok (Nat.le_of_ble_eq_true rfl) ?_
 simp (implicitDefEqProofs:=false) only [go_sem,c96]
 refine NewS_intro fun H1 hn1 hf1 hs1=>?_
 have hb1:=hb.ext hf1
 have hc1:=hb1.cell
 simp (implicitDefEqProofs:=false) only [go_sem,hc1]
 refine App_own EB (Own.of_blk hn1 (by simp) (by decide)) ((ho.bsR.ext hf1).src Tryz.underlying22) (by unfold maxLen; omega) (by omega) fun a2 c2 H2 g2 ho2 hf2 hg2=>?_
 simp (implicitDefEqProofs:=false) only [go_sem]
 refine ⟨a2,c2,g2,rfl,by simpa using ho2,?_,hf1.trans' hf2 (by simp)⟩
 intro k hk
 rcases hg2 k hk with h | h
 ·simp at h; omega
 ·omega
end Go.Proofs.YtdhlibkdcldioaaGreat
end
section
set_option linter.unusedSimpArgs false
set_option linter.unusedVariables false
set_option maxRecDepth 8000
namespace Go.Proofs.YtdhlibkdcldioaaGreat
open Gx Go
def numG:Nat→Nat→List UInt8→Option (Nat × Nat)
 | _,_,[]=>none
 | i,n,b :: r=>
   if 10≤i then none
   else if i=9∧1 < b.toNat then none
   else if b.toNat < 128 then (if b.toNat≠0∨i=0 then some (n + (b.toNat % 128) * 2^(7*i),i + 1) else none)
   else numG (i + 1) (n + (b.toNat % 128) * 2^(7*i)) r
def num (l:List UInt8):Option (Nat × Nat):=numG 0 0 l
theorem numG_bound:∀ (l:List UInt8) (i n:Nat) {v k:Nat},numG i n l=some (v,k)→n < 2^(7*i)→i≤9→v < 2^64∧i < k∧k≤i + l.length∧k≤10
 | [],i,n,v,k,h,_,_=>by simp [numG] at h
 | b :: r,i,n,v,k,h,hn,hi=>by
   simp only [numG] at h
   rw [if_neg (by omega)] at h
   split at h
   ·cases h
   ·rename_i h9
    have hb:b.toNat % 128 < 128:=Nat.mod_lt _ (by decide)
    have hpow:n + (b.toNat % 128) * 2^(7*i) < 2^(7*(i+1)):=by
     have e:2^(7*(i+1))=128 * 2^(7*i):=by rw [Nat.mul_add,Nat.pow_add,Nat.mul_comm]
     rw [e]
     have:(b.toNat % 128) * 2^(7*i)≤127 * 2^(7*i):=Nat.mul_le_mul_right _ (by omega)
     omega
    split at h
    ·split at h
     ·simp at h; obtain ⟨rfl,rfl⟩:=h
      refine ⟨?_,by omega,by simp,by omega⟩
      rcases Nat.lt_or_ge i 9 with h' | h'
      ·exact Nat.lt_of_lt_of_le hpow (Nat.pow_le_pow_right (by decide) (by omega))
      ·have:i=9:=by omega
       subst this
       have hb1:b.toNat≤1:=by
        rcases Nat.lt_or_ge 1 b.toNat with h | h
        ·exact absurd ⟨rfl,h⟩ h9
        ·exact h
       have:b.toNat % 128≤1:=by omega
       have:(b.toNat % 128) * 2^(7*9)≤1 * 2^(7*9):=Nat.mul_le_mul_right _ this
       have e2:(2:Nat)^(7*9) + 2^(7*9)=2^64:=by decide
       omega
     ·cases h
    ·have hlt:i < 9:=by
      rcases Nat.lt_or_ge i 9 with h' | h'
      ·exact h'
      ·have:i=9:=by omega
       subst this
       exact absurd ⟨rfl,by omega⟩ h9
     obtain ⟨h1,h2,h3,h4⟩:=numG_bound r (i + 1) _ h hpow (by omega)
     exact ⟨h1,by omega,by simp; omega,h4⟩
theorem num_bound {l:List UInt8} {v k:Nat} (h:num l=some (v,k)):v < 2^64∧0 < k∧k≤l.length∧k≤10:=by
 obtain ⟨h1,h2,h3,h4⟩:=numG_bound l 0 0 h (by decide) (by decide)
 exact ⟨h1,h2,by rw [Nat.zero_add] at h3; exact h3,h4⟩
theorem bits_or_u64 (x y:Nat) (hx:x < 2^64) (hy:y < 2^64):bits .or .u64 (x:Int) (y:Int)=((x ||| y:Nat):Int):=by
 have hx':(BitVec.ofInt 64 (x:Int)).toNat=x:=by rw [BitVec.toNat_ofInt]; omega
 have hy':(BitVec.ofInt 64 (y:Int)).toNat=y:=by rw [BitVec.toNat_ofInt]; omega
 have e:(BitVec.ofInt 64 (x:Int) ||| BitVec.ofInt 64 (y:Int)).toNat=x ||| y:=by rw [BitVec.toNat_or,hx',hy']
 have hlt:x ||| y < 2^64:=Nat.or_lt_two_pow hx hy
 show IntKind.u64.wrap ((BitVec.ofInt 64 (x:Int) ||| BitVec.ofInt 64 (y:Int)).toNat:Int)=_
 rw [e,wrap_u64_id _ (by omega) (by omega)]
theorem and127:∀ x:Fin 256,bits .and .u8 (x.val:Int) 127=((x.val % 128:Nat):Int):=by decide +kernel
theorem group_step (n i:Nat) (b:UInt8) (hi:i≤9) (hn:n < 2^(7*i)) (h9:i=9→b.toNat≤1) :
 bits .or .u64 (n:Int) (shlI .u64 (IntKind.u64.wrap (bits .and .u8 (b.toNat:Int) 127)) (IntKind.i64.wrap (7 * (i:Int))))=((n + (b.toNat % 128) * 2^(7*i):Nat):Int):=by
 have e1:=and127 ⟨b.toNat,b.toNat_lt⟩
 simp only at e1
 have hb:b.toNat % 128 < 128:=Nat.mod_lt _ (by decide)
 have hlt:(b.toNat % 128) * 2^(7*i) < 2^64:=by
  rcases Nat.lt_or_ge i 9 with h' | h'
  ·have:(b.toNat % 128) * 2^(7*i) < 128 * 2^(7*i):=Nat.mul_lt_mul_of_pos_right hb (Nat.pow_pos (by decide))
   have e:2^(7*(i+1))=128 * 2^(7*i):=by rw [Nat.mul_add,Nat.pow_add,Nat.mul_comm]
   have:2^(7*(i+1))≤2^64:=Nat.pow_le_pow_right (by decide) (by omega)
   omega
  ·have:i=9:=by omega
   subst this
   have:=h9 rfl
   have:(b.toNat % 128) * 2^(7*9)≤1 * 2^(7*9):=Nat.mul_le_mul_right _ (by omega)
   have e2:(1:Nat) * 2^(7*9) < 2^64:=by decide
   exact Nat.lt_of_le_of_lt this e2
 rw [e1,wrap_u64_id _ (by omega) (by omega),wrap_i64_id _ (by omega) (by omega)]
 have e2:shlI .u64 ((b.toNat % 128:Nat):Int) (7 * (i:Int))=(((b.toNat % 128) * 2^(7*i):Nat):Int):=by
  rw [show (7 * (i:Int))=((7 * i:Nat):Int) by omega,shlI_eq _ _ (by show 7 * i≤64; omega)]
  rw [show ((b.toNat % 128:Nat):Int) * 2 ^ (7 * i)=(((b.toNat % 128) * 2^(7*i):Nat):Int) by simp]
  exact wrap_u64_id _ (by omega) (by omega)
 rw [e2,bits_or_u64 _ _ (Nat.lt_of_lt_of_le hn (Nat.pow_le_pow_right (by decide) (by omega))) hlt,Nat.or_comm,← Nat.shiftLeft_eq,← Nat.shiftLeft_add_eq_or_of_lt hn,Nat.add_comm]
def RdB (H:Heap) (b:Nat) (l:List UInt8) (at_ item err:Nat) (g:Option Nat):Prop:=
 ∃ a c,Blk H b 193 [.slice a l.length c,.int .i64 at_,.int .i64 item,.int .i64 err]∧Own H 5 1 (.slice a l.length c) l.length (l.map bv) g∧at_≤l.length∧item≤at_∧l.length < 2^40
def Rd (H:Heap) (b:Nat) (l:List UInt8) (at_ err:Nat) (g:Option Nat):Prop:=∃ item,RdB H b l at_ item err g
theorem RdB.upd {H H':Heap} {b:Nat} {l:List UInt8} {at_ item err:Nat} {g:Option Nat} {a:Option Addr} {c:Nat} {x:List Value} (hb:Blk H b 193 x) (ho:Own H 5 1 (.slice a l.length c) l.length (l.map bv) g)
 (hb3:Blk H' b 193 [.slice a l.length c,.int .i64 at_,.int .i64 item,.int .i64 err]) (hf:Fr [b] H H') (h1:at_≤l.length) (h2:item≤at_) (h3:l.length < 2^40):RdB H' b l at_ item err g:=
 ⟨a,c,hb3,ho.fr hf (fun k hk hm=>ho.ne hb (by decide) (by simp at hm; subst hm; simp [hk])),h1,h2,h3⟩
theorem Rd.fr {M:List Nat} {H H':Heap} {b:Nat} {l:List UInt8} {at_ err:Nat} {g:Option Nat} (h:Rd H b l at_ err g) (hf:Fr M H H') (hb:b ∉ M) (hg:∀ k,g=some k→k ∉ M):Rd H' b l at_ err g:=by
 obtain ⟨item,a,c,h1,h2,h3⟩:=h
 exact ⟨item,a,c,h1.fr hf hb,h2.fr hf hg,h3⟩
theorem Rd.lt {H:Heap} {b:Nat} {l:List UInt8} {at_ err:Nat} {g:Option Nat} (h:Rd H b l at_ err g):b < H.size:=by
 obtain ⟨item,a,c,h1,h2,h3⟩:=h
 exact h1.lt
theorem Rd.ltg {H:Heap} {b:Nat} {l:List UInt8} {at_ err:Nat} {g:Option Nat} (h:Rd H b l at_ err g) {k:Nat} (hk:g=some k):k < H.size:=by
 obtain ⟨item,a,c,h1,h2,h3⟩:=h
 exact h2.lt hk
theorem number_ok {H:Heap} {b:Nat} {l:List UInt8} {at_ item err:Nat} {g:Option Nat} (h:RdB H b l at_ item err g) :
 HCalls Tryz.prog 152 #[.pointer (some ⟨b,0,none⟩)] H fun v H'=>H'=H∧∃ n next:Nat,∃ ok,v= .tuple #[.int .u64 n,.int .i64 next,.bool ok]∧
  (ok=(num (l.drop at_)).isSome)∧(∀ m k,num (l.drop at_)=some (m,k)→n=m∧next=at_ + k):=by
 obtain ⟨a,c,hb,ho,hat,hit,hl⟩:=h
 have hc:=hb.cell
 refine calls_of_vc (args:=[_]) Tryz.func152 c152ok (Nat.le_of_ble_eq_true rfl) ?_
 simp (implicitDefEqProofs:=false) only [go_sem,c152]
 refine vc_loop (fun ((n,i):Nat × Nat) H'=>H'=H∧i≤10∧n < 2^(7*i)∧at_ + i≤l.length∧numG i n (l.drop (at_ + i))=num (l.drop at_))
  (fun (n,i)=>[(0,.pointer (some ⟨b,0,none⟩)),(2,.int .u64 n),(7,.int .i64 i)]) (fun (_,i)=>10 - i) (0,0) ?_ ?_ ?_
 ·exact ⟨rfl,by decide,by decide,by omega,rfl⟩
 ·simp (implicitDefEqProofs:=false) only [go_sem]
  try exact ⟨rfl,rfl⟩
 ·rintro ⟨n,i⟩ H' ⟨rfl,hi,hn,hai,hnum⟩
  rcases Nat.lt_or_ge i 10 with hlt | hge
  ·have hlt':(i:Int) < 10:=by omega
   have hw:IntKind.i64.wrap ((at_:Int) + (i:Int))=((at_ + i:Nat):Int):=by rw [wrap_i64_id _ (by omega) (by omega)]; omega
   have hw1:IntKind.i64.wrap ((i:Int) + 1)=((i + 1:Nat):Int):=by rw [wrap_i64_id _ (by omega) (by omega)]; omega
   have hw2:IntKind.i64.wrap (((at_ + i:Nat):Int) + 1)=((at_ + (i + 1):Nat):Int):=by rw [wrap_i64_id _ (by omega) (by omega)]; omega
   rcases Nat.lt_or_ge (at_ + i) l.length with hin | hout
   ·obtain ⟨b',o,rfl,hcl⟩:=ho.bsR.resolve_left (by rintro rfl; simp at hin)
    have hin':¬ (l.length:Int)≤((at_ + i:Nat):Int):=by omega
    have hcj:=hcl (at_ + i) hin
    have hdrop:l.drop (at_ + i)=l[at_ + i] :: l.drop (at_ + (i + 1)):=by rw [List.drop_eq_getElem_cons hin]; rfl
    rw [hdrop,numG,if_neg (by omega)] at hnum
    generalize l[at_ + i]=x at *
    have h9q:((bif decide ((i:Int)=9) then decide (1 < (x.toNat:Int)) else false)=true)↔(i=9∧1 < x.toNat):=by
     by_cases h:i=9
     ·subst h; simp; omega
     ·have:¬ ((i:Int)=9):=by omega
      simp [h,this]
    simp (implicitDefEqProofs:=false) only [go_sem,hc,hlt',hw,hw1,hw2,hin',hcj,bv]
    refine ⟨by omega,fun h=>?_,fun h=>⟨?_,fun hs=>?_,fun hs=>?_⟩⟩
    ·rw [if_pos (h9q.mp h)] at hnum
     refine ⟨0,0,_,rfl,by rw [← hnum]; rfl,by rw [← hnum]; intro _ _ h; cases h⟩
    ·rw [wrap_i64_id _ (by omega) (by omega)]; omega
    ·have hn9:¬ (i=9∧1 < x.toNat):=fun q=>by rw [h9q.mpr q] at h; cases h
     rw [if_neg hn9,if_pos (by omega)] at hnum
     rw [group_step n i x (by omega) hn (fun q=>by rcases Nat.lt_or_ge 1 x.toNat with h | h; exact absurd ⟨q,h⟩ hn9; exact h)]
     refine ⟨_,_,_,rfl,?_,?_⟩
     ·rw [← hnum]
      by_cases q:x.toNat≠0∨i=0
      ·rw [if_pos q]
       rcases Nat.eq_zero_or_pos x.toNat with hx | hx
       ·have:i=0:=by omega
        simp [hx,this]
       ·simp; omega
      ·rw [if_neg q]
       have h1:x.toNat=0:=by omega
       have h2:¬ i=0:=by omega
       simp [h1,h2]
     ·intro m k hm
      rw [← hnum] at hm
      split at hm
      ·simp at hm; exact ⟨hm.1,by omega⟩
      ·cases hm
    ·have hn9:¬ (i=9∧1 < x.toNat):=fun q=>by rw [h9q.mpr q] at h; cases h
     rw [if_neg hn9,if_neg (by omega)] at hnum
     have h9':i=9→x.toNat≤1:=fun q=>by rcases Nat.lt_or_ge 1 x.toNat with h | h; exact absurd ⟨q,h⟩ hn9; exact h
     rw [group_step n i x (by omega) hn h9']
     have hb':x.toNat % 128 < 128:=Nat.mod_lt _ (by decide)
     have hpow:n + (x.toNat % 128) * 2^(7*i) < 2^(7*(i+1)):=by
      have e:2^(7*(i+1))=128 * 2^(7*i):=by rw [Nat.mul_add,Nat.pow_add,Nat.mul_comm]
      rw [e]
      have:(x.toNat % 128) * 2^(7*i)≤127 * 2^(7*i):=Nat.mul_le_mul_right _ (by omega)
      omega
     refine loopK_intro (n + (x.toNat % 128) * 2^(7*i),i + 1) ?_ ?_ ?_
     ·show 10 - (i + 1) < 10 - i
      omega
     ·simp (implicitDefEqProofs:=false) only [go_sem]
     ·exact ⟨rfl,by show i + 1≤10; omega,hpow,by show at_ + (i + 1)≤_; omega,hnum⟩
   ·have hout':(l.length:Int)≤((at_ + i:Nat):Int):=by omega
    rw [List.drop_eq_nil_of_le hout,numG] at hnum
    simp (implicitDefEqProofs:=false) only [go_sem,hc,hlt',hw,hout']
    exact ⟨0,0,_,rfl,by rw [← hnum]; rfl,by rw [← hnum]; intro _ _ h; cases h⟩
  ·have hge':¬ (i:Int) < 10:=by omega
   have:i=10:=by omega
   subst this
   have hnn:num (l.drop at_)=none:=by
    rw [← hnum]; cases l.drop (at_ + 10) <;> simp [numG]
   simp (implicitDefEqProofs:=false) only [go_sem,hc,hge',hnn]
   exact ⟨0,0,false,rfl,rfl⟩
theorem begin_ok {H:Heap} {b:Nat} {l:List UInt8} {at_ item err:Nat} {g:Option Nat} (h:RdB H b l at_ item err g) :
 HCalls Tryz.prog 151 #[.pointer (some ⟨b,0,none⟩)] H fun v H'=>v= .bool (decide (err=0))∧RdB H' b l at_ (if err=0 then at_ else item) err g∧Fr [b] H H':=by
 obtain ⟨a,c,hb,ho,hat,hit,hl⟩:=h
 have hc:=hb.cell
 refine calls_of_vc (args:=[_]) Tryz.func151 c151ok (Nat.le_of_ble_eq_true rfl) ?_
 by_cases he:err=0
 ·subst he
  have e0:((0:Nat):Int)=0:=rfl
  simp (implicitDefEqProofs:=false) only [go_sem,c151,hc,e0]
  refine Sto_one hb (by simp) rfl fun H3 hb3 hf3 hs3=>?_
  simp (implicitDefEqProofs:=false) only [go_sem]
  exact ⟨RdB.upd hb ho hb3 hf3 hat (Nat.le_refl _) hl,hf3⟩
 ·have he':¬ (err:Int)=0:=by omega
  simp (implicitDefEqProofs:=false) only [go_sem,c151,hc,he',he]
  exact ⟨⟨a,c,hb,ho,hat,hit,hl⟩,Fr.refl _ _⟩
def uintR (l:List UInt8) (at_ err:Nat):Nat × Nat × Nat:=
 if err=0 then match num (l.drop at_) with
  | some (n,k)=>(n,at_ + k,0)
  | none=>(0,at_,2)
 else (0,at_,err)
theorem ruint_ok {H:Heap} {b:Nat} {l:List UInt8} {at_ err:Nat} {g:Option Nat} (h:Rd H b l at_ err g) :
 HCalls Tryz.prog 131 #[.pointer (some ⟨b,0,none⟩)] H fun v H'=>v= .int .u64 (uintR l at_ err).1∧Rd H' b l (uintR l at_ err).2.1 (uintR l at_ err).2.2 g∧Fr [b] H H':=by
 obtain ⟨item,h⟩:=h
 refine calls_of_vc (args:=[_]) Tryz.func131 c131ok (Nat.le_of_ble_eq_true rfl) ?_
 simp (implicitDefEqProofs:=false) only [go_sem,c131]
 refine (begin_ok h).mono ?_
 rintro v H1 ⟨rfl,h1,hf1⟩
 by_cases he:err=0
 ·subst he
  simp (implicitDefEqProofs:=false) only [go_sem]
  refine (number_ok h1).mono ?_
  rintro v H2 ⟨rfl,n,next,ok,rfl,hok,hn⟩
  rw [if_pos rfl] at h1
  obtain ⟨a,c,hb,ho,hat,hit,hl⟩:=h1
  have hc:=hb.cell
  rcases hnum:num (l.drop at_) with _ | ⟨m,k⟩
  ·rw [hnum] at hok
   cases hok
   simp (implicitDefEqProofs:=false) only [go_sem,hc]
   refine Sto_one hb (by simp) rfl fun H3 hb3 hf3 hs3=>?_
   simp (implicitDefEqProofs:=false) only [go_sem,uintR,hnum]
   first | exact ⟨rfl,⟨at_,RdB.upd hb ho hb3 hf3 hat (Nat.le_refl _) hl⟩,hf1.trans hf3⟩ | exact ⟨⟨at_,RdB.upd hb ho hb3 hf3 hat (Nat.le_refl _) hl⟩,hf1.trans hf3⟩
  ·rw [hnum] at hok
   cases hok
   obtain ⟨rfl,rfl⟩:=hn _ _ hnum
   have hbd:=num_bound hnum
   simp only [List.length_drop] at hbd
   simp (implicitDefEqProofs:=false) only [go_sem,hc]
   refine Sto_one hb (by simp) rfl fun H3 hb3 hf3 hs3=>?_
   simp (implicitDefEqProofs:=false) only [go_sem,uintR,hnum]
   exact ⟨⟨at_,RdB.upd hb ho hb3 hf3 (by omega) (by omega) hl⟩,hf1.trans hf3⟩
 ·rw [if_neg he] at h1
  simp (implicitDefEqProofs:=false) only [go_sem,he,uintR]
  first | exact ⟨rfl,⟨item,h1⟩,hf1⟩ | exact ⟨⟨item,h1⟩,hf1⟩
def zag (n:Nat):Int:=if n % 2=0 then (n / 2:Nat) else -(n / 2:Nat) - 1
theorem xor_zero_i64 (x:Int) (h:-9223372036854775808≤x) (h':x < 9223372036854775808):bits .xor .i64 x 0=x:=by
 have e:(BitVec.ofInt 64 x ^^^ BitVec.ofInt 64 0).toNat=(x % 18446744073709551616).toNat:=by
  rw [show BitVec.ofInt 64 0=0#64 from rfl,BitVec.xor_zero,BitVec.toNat_ofInt]
  rfl
 show IntKind.i64.wrap ((BitVec.ofInt 64 x ^^^ BitVec.ofInt 64 0).toNat:Int)=x
 rw [e,IntKind.wrap_i64]; omega
theorem xor_ones_i64 (x:Int) (h:0≤x) (h':x < 9223372036854775808):bits .xor .i64 x (-1)= -x - 1:=by
 have e:(BitVec.ofInt 64 x ^^^ BitVec.ofInt 64 (-1)).toNat=18446744073709551615 - x.toNat:=by
  rw [show BitVec.ofInt 64 (-1)=BitVec.allOnes 64 from rfl,BitVec.xor_allOnes,BitVec.toNat_not,BitVec.toNat_ofInt]
  have:(x % (2 ^ 64:Nat)).toNat=x.toNat:=by omega
  rw [this]
 show IntKind.i64.wrap ((BitVec.ofInt 64 x ^^^ BitVec.ofInt 64 (-1)).toNat:Int)=_
 rw [e,IntKind.wrap_i64]; omega
theorem and_one_u64 (n:Nat) (h:n < 2^64):bits .and .u64 (n:Int) 1=((n % 2:Nat):Int):=by
 have e:(BitVec.ofInt 64 (n:Int) &&& BitVec.ofInt 64 1).toNat=n % 2:=by
  have hx':(BitVec.ofInt 64 (n:Int)).toNat=n:=by rw [BitVec.toNat_ofInt]; omega
  rw [BitVec.toNat_and,hx',show (BitVec.ofInt 64 1).toNat=1 from rfl,Nat.and_one_is_mod]
 show IntKind.u64.wrap ((BitVec.ofInt 64 (n:Int) &&& BitVec.ofInt 64 1).toNat:Int)=_
 rw [e,wrap_u64_id _ (by omega) (by omega)]
theorem zag_bits (n:Nat) (h:n < 2^64):bits .xor .i64 (IntKind.i64.wrap (shrI .u64 (n:Int) 1)) (IntKind.i64.wrap (0 - IntKind.i64.wrap (bits .and .u64 (n:Int) 1)))=zag n:=by
 have e1:shrI .u64 (n:Int) 1=((n / 2:Nat):Int):=shrI_nat n 1 (by decide)
 rw [e1,and_one_u64 n h,wrap_i64_id ((n / 2:Nat):Int) (by omega) (by omega),wrap_i64_id ((n % 2:Nat):Int) (by omega) (by omega),wrap_i64_id (0 - _) (by omega) (by omega)]
 unfold zag
 rcases Nat.mod_two_eq_zero_or_one n with hm | hm
 ·rw [hm]
  exact xor_zero_i64 _ (by omega) (by omega)
 ·rw [hm]
  have:=xor_ones_i64 ((n / 2:Nat):Int) (by omega) (by omega)
  simpa using this
theorem uintR_lt (l:List UInt8) (at_ err:Nat):(uintR l at_ err).1 < 2^64:=by
 unfold uintR
 split
 ·split
  ·rename_i h; exact (num_bound h).1
  ·exact Nat.two_pow_pos 64
 ·exact Nat.two_pow_pos 64
theorem rint_ok {H:Heap} {b:Nat} {l:List UInt8} {at_ err:Nat} {g:Option Nat} (h:Rd H b l at_ err g) :
 HCalls Tryz.prog 153 #[.pointer (some ⟨b,0,none⟩)] H fun v H'=>v= .int .i64 (zag (uintR l at_ err).1)∧Rd H' b l (uintR l at_ err).2.1 (uintR l at_ err).2.2 g∧Fr [b] H H':=by
 refine calls_of_vc (args:=[_]) Tryz.func153 c153ok (Nat.le_of_ble_eq_true rfl) ?_
 simp (implicitDefEqProofs:=false) only [go_sem,c153]
 refine (ruint_ok h).mono ?_
 rintro v H1 ⟨rfl,h1,hf1⟩
 simp (implicitDefEqProofs:=false) only [go_sem]
 rw [zag_bits _ (uintR_lt _ _ _)]
 exact ⟨rfl,h1,hf1⟩
def boolR (l:List UInt8) (at_ err:Nat):Bool × Nat × Nat:=
 if err=0 then match l.drop at_ with
  | []=>(false,at_,2)
  | x :: _=>if 1 < x.toNat then (false,at_,2) else (x.toNat == 1,at_ + 1,0)
 else (false,at_,err)
theorem rbool_ok {H:Heap} {b:Nat} {l:List UInt8} {at_ err:Nat} {g:Option Nat} (h:Rd H b l at_ err g) :
 HCalls Tryz.prog 161 #[.pointer (some ⟨b,0,none⟩)] H fun v H'=>v= .bool (boolR l at_ err).1∧Rd H' b l (boolR l at_ err).2.1 (boolR l at_ err).2.2 g∧Fr [b] H H':=by
 obtain ⟨item,h⟩:=h
 refine calls_of_vc (args:=[_]) Tryz.func161 c161ok (Nat.le_of_ble_eq_true rfl) ?_
 simp (implicitDefEqProofs:=false) only [go_sem,c161]
 refine (begin_ok h).mono ?_
 rintro v H1 ⟨rfl,h1,hf1⟩
 by_cases he:err=0
 ·subst he
  rw [if_pos rfl] at h1
  obtain ⟨a,c,hb,ho,hat,hit,hl⟩:=h1
  have hc:=hb.cell
  rcases Nat.lt_or_ge at_ l.length with hin | hout
  ·obtain ⟨b',o,rfl,hcl⟩:=ho.bsR.resolve_left (by rintro rfl; simp at hin)
   have hcj:=hcl at_ hin
   have hdrop:l.drop at_=l[at_] :: l.drop (at_ + 1):=by rw [List.drop_eq_getElem_cons hin]
   obtain ⟨x,hxe⟩:∃ x,l[at_]=x:=⟨_,rfl⟩
   rw [hxe] at hcj hdrop
   have h0:¬ ((at_:Int)=(l.length:Int)):=by omega
   have h1:(0:Int)≤(at_:Int):=by omega
   have h2:(at_:Int) < (l.length:Int):=by omega
   have hw:IntKind.i64.wrap ((at_:Int) + 1)=((at_ + 1:Nat):Int):=by rw [wrap_i64_id _ (by omega) (by omega)]; omega
   by_cases hx:1 < x.toNat
   ·have hx':1 < (x.toNat:Int):=by omega
    simp (implicitDefEqProofs:=false) only [go_sem,hc,h0,h1,h2,hcj,hx',bv]
    refine Sto_one hb (by simp) rfl fun H3 hb3 hf3 hs3=>?_
    simp (implicitDefEqProofs:=false) only [go_sem,boolR,hdrop,hx]
    exact ⟨⟨at_,RdB.upd hb ho hb3 hf3 hat (Nat.le_refl _) hl⟩,hf1.trans hf3⟩
   ·have hx':¬ 1 < (x.toNat:Int):=by omega
    simp (implicitDefEqProofs:=false) only [go_sem,hc,h0,h1,h2,hcj,hx',hw,bv]
    refine Sto_one hb (by simp) rfl fun H3 hb3 hf3 hs3=>?_
    have hc3:=hb3.cell
    have hr3:=RdB.upd hb ho hb3 hf3 (by omega) (by omega) hl
    have hcj3:cellB H3 b' (o + at_)=some (bv x):=by
     obtain ⟨a',c',hb',ho',_⟩:=hr3
     have e:=(hb'.cell 0).symm.trans (hb3.cell 0)
     simp at e
     obtain ⟨rfl,_⟩:=e
     obtain ⟨b2,o2,e2,hcl2⟩:=ho'.bsR.resolve_left (by rintro rfl; simp at hin)
     cases e2
     rw [← hxe]; exact hcl2 at_ hin
    simp (implicitDefEqProofs:=false) only [go_sem,hc3,h0,h1,h2,hcj3,bv,boolR,hdrop,hx]
    exact ⟨by congr 1; rw [Bool.eq_iff_iff]; simp; omega,⟨_,hr3⟩,hf1.trans hf3⟩
  ·have h0:at_=l.length:=by omega
   subst h0
   simp (implicitDefEqProofs:=false) only [go_sem,hc]
   refine Sto_one hb (by simp) rfl fun H3 hb3 hf3 hs3=>?_
   have hdrop:l.drop l.length=[]:=List.drop_eq_nil_of_le hout
   simp (implicitDefEqProofs:=false) only [go_sem,boolR,hdrop]
   exact ⟨⟨l.length,RdB.upd hb ho hb3 hf3 hat (Nat.le_refl _) hl⟩,hf1.trans hf3⟩
 ·rw [if_neg he] at h1
  simp (implicitDefEqProofs:=false) only [go_sem,he,boolR]
  exact ⟨⟨item,h1⟩,hf1⟩
def bytesR (l:List UInt8) (at_ err:Nat):List UInt8 × Nat × Nat:=
 if err=0 then match num (l.drop at_) with
  | some (n,k)=>if at_ + k + n≤l.length then ((l.drop (at_ + k)).take n,at_ + k + n,0) else ([],at_,2)
  | none=>([],at_,2)
 else ([],at_,err)
theorem count_num {n k at_:Nat} {l:List UInt8} (hl:l.length < 2^40) (h1:n < 2^64) (h2:at_ + k≤l.length) :
 (IntKind.u64.wrap (IntKind.i64.wrap ((l.length:Int) - ((at_ + k:Nat):Int))) < (n:Int))↔¬ at_ + k + n≤l.length:=by
 rw [wrap_i64_id _ (by omega) (by omega),wrap_u64_id _ (by omega) (by omega)]; omega
theorem rbytes_ok {H:Heap} {b:Nat} {l:List UInt8} {at_ err:Nat} {g:Option Nat} (h:Rd H b l at_ err g) :
 HCalls Tryz.prog 156 #[.pointer (some ⟨b,0,none⟩)] H fun v H'=>∃ a c g',v= .slice a (bytesR l at_ err).1.length c∧Own H' 5 1 v (bytesR l at_ err).1.length ((bytesR l at_ err).1.map bv) g'∧(∀ k,g'=some k→H.size≤k)∧Rd H' b l (bytesR l at_ err).2.1 (bytesR l at_ err).2.2 g∧Fr [b] H H':=by
 obtain ⟨item,h⟩:=h
 refine calls_of_vc (args:=[_]) Tryz.func156 c156ok (Nat.le_of_ble_eq_true rfl) ?_
 simp (implicitDefEqProofs:=false) only [go_sem,c156]
 refine (begin_ok h).mono ?_
 rintro v H1 ⟨rfl,h1,hf1⟩
 by_cases he:err=0
 ·subst he
  rw [if_pos rfl] at h1
  simp (implicitDefEqProofs:=false) only [go_sem]
  refine (number_ok h1).mono ?_
  rintro v H2 ⟨rfl,n,next,ok,rfl,hok,hn⟩
  obtain ⟨a,c,hb,ho,hat,hit,hl⟩:=h1
  have hc:=hb.cell
  rcases hnum:num (l.drop at_) with _ | ⟨m,k⟩
  ·rw [hnum] at hok
   cases hok
   simp (implicitDefEqProofs:=false) only [go_sem,hc]
   refine Sto_one hb (by simp) rfl fun H3 hb3 hf3 hs3=>?_
   simp (implicitDefEqProofs:=false) only [go_sem,bytesR,hnum]
   exact ⟨none,0,none,rfl,Own.nil _ _ _,by simp,⟨at_,RdB.upd hb ho hb3 hf3 hat (Nat.le_refl _) hl⟩,hf1.trans hf3⟩
  ·rw [hnum] at hok
   cases hok
   obtain ⟨rfl,rfl⟩:=hn _ _ hnum
   have hbd:=num_bound hnum
   simp only [List.length_drop] at hbd
   have hcn:=count_num (n:=n) (k:=k) (at_:=at_) hl hbd.1 (by omega)
   by_cases hle:at_ + k + n≤l.length
   ·have hcn':¬ (IntKind.u64.wrap (IntKind.i64.wrap ((l.length:Int) - ((at_ + k:Nat):Int))) < (n:Int)):=by rw [hcn]; exact not_not_intro hle
    have hw:IntKind.i64.wrap (n:Int)=(n:Int):=wrap_i64_id _ (by omega) (by omega)
    have hw2:IntKind.i64.wrap (((at_ + k:Nat):Int) + (n:Int))=((at_ + k + n:Nat):Int):=by rw [wrap_i64_id _ (by omega) (by omega)]; omega
    simp (implicitDefEqProofs:=false) only [go_sem,hc,hcn',hw,hw2]
    refine Sto_one hb (by simp) rfl fun H3 hb3 hf3 hs3=>?_
    have hr3:=RdB.upd hb ho hb3 hf3 hle (by omega) hl
    obtain ⟨a4,c4,hb4,ho4,_⟩:=hr3
    have hc4:=hb4.cell
    have hcap:=ho4.cap_le
    simp (implicitDefEqProofs:=false) only [go_sem,hc4]
    refine ⟨by omega,?_⟩
    refine NewS_intro fun H5 hn5 hf5 hs5=>?_
    have hb5:=hb4.ext hf5
    have hc5:=hb5.cell
    simp (implicitDefEqProofs:=false) only [go_sem,hc5]
    have hlen:at_ + k + n - (at_ + k)=((l.drop (at_ + k)).take n).length:=by simp; omega
    have hsub:BsR H5 (if c4=at_ + k then a4 else Option.map (fun x=>x.add (at_ + k)) a4) ((l.drop (at_ + k)).take n):=by
     have:=(ho4.bsR.ext hf5).sub c4 (lo:=at_ + k) (hi:=at_ + k + n) (by omega)
     rwa [show at_ + k + n - (at_ + k)=n by omega] at this
    rw [hlen]
    refine App_own EB (Own.of_blk hn5 (by simp) (by decide)) (hsub.src Tryz.underlying22) (by unfold maxLen; omega) (by omega) fun a2 c2 H6 g2 ho6 hf6 hg6=>?_
    have hfr:Fr [] H3 H6:=hf5.trans' hf6 (by simp)
    simp (implicitDefEqProofs:=false) only [go_sem,bytesR,hnum,hle]
    refine ⟨a2,c2,g2,by simp,by simpa using ho6,?_,?_,(hf1.trans hf3).trans (hfr.mono (by simp))⟩
    ·intro j hj
     have h3:=hf1.size
     have h4:=hf3.size
     rcases hg6 j hj with h | h
     ·simp at h; omega
     ·have:=hf5.size; omega
    ·exact Rd.fr ⟨at_,a4,c4,hb4,ho4,hle,by omega,hl⟩ hfr (by simp) (by simp)
   ·have hle':=hle
    rw [← hcn] at hle
    simp (implicitDefEqProofs:=false) only [go_sem,hc,hle]
    refine Sto_one hb (by simp) rfl fun H3 hb3 hf3 hs3=>?_
    simp (implicitDefEqProofs:=false) only [go_sem,bytesR,hnum,hle']
    exact ⟨none,0,none,rfl,Own.nil _ _ _,by simp,⟨at_,RdB.upd hb ho hb3 hf3 hat (Nat.le_refl _) hl⟩,hf1.trans hf3⟩
 ·rw [if_neg he] at h1
  simp (implicitDefEqProofs:=false) only [go_sem,he,bytesR]
  exact ⟨none,0,none,rfl,Own.nil _ _ _,by simp,⟨item,h1⟩,hf1⟩
theorem rtext_ok {H:Heap} {b:Nat} {l:List UInt8} {at_ err:Nat} {g:Option Nat} (h:Rd H b l at_ err g) :
 HCalls Tryz.prog 147 #[.pointer (some ⟨b,0,none⟩)] H fun v H'=>v= .string ⟨⟨(bytesR l at_ err).1⟩⟩∧Rd H' b l (bytesR l at_ err).2.1 (bytesR l at_ err).2.2 g∧Fr [b] H H':=by
 refine calls_of_vc (args:=[_]) Tryz.func147 c147ok (Nat.le_of_ble_eq_true rfl) ?_
 simp (implicitDefEqProofs:=false) only [go_sem,c147]
 refine (rbytes_ok h).mono ?_
 rintro v H1 ⟨a,c,g',rfl,ho,hg,h1,hf1⟩
 simp (implicitDefEqProofs:=false) only [go_sem,ho.bsR.b2s c]
 exact ⟨h1,hf1⟩
def countR (l:List UInt8) (at_ err:Nat):Nat × Nat × Nat:=
 if err=0 then match num (l.drop at_) with
  | some (n,k)=>if at_ + k + n≤l.length then (n,at_ + k,0) else (0,at_,2)
  | none=>(0,at_,2)
 else (0,at_,err)
theorem rcount_ok {H:Heap} {b:Nat} {l:List UInt8} {at_ err:Nat} {g:Option Nat} (h:Rd H b l at_ err g) :
 HCalls Tryz.prog 154 #[.pointer (some ⟨b,0,none⟩)] H fun v H'=>v= .int .i64 (countR l at_ err).1∧Rd H' b l (countR l at_ err).2.1 (countR l at_ err).2.2 g∧Fr [b] H H':=by
 obtain ⟨item,h⟩:=h
 refine calls_of_vc (args:=[_]) Tryz.func154 c154ok (Nat.le_of_ble_eq_true rfl) ?_
 simp (implicitDefEqProofs:=false) only [go_sem,c154]
 refine (begin_ok h).mono ?_
 rintro v H1 ⟨rfl,h1,hf1⟩
 by_cases he:err=0
 ·subst he
  rw [if_pos rfl] at h1
  simp (implicitDefEqProofs:=false) only [go_sem]
  refine (number_ok h1).mono ?_
  rintro v H2 ⟨rfl,n,next,ok,rfl,hok,hn⟩
  obtain ⟨a,c,hb,ho,hat,hit,hl⟩:=h1
  have hc:=hb.cell
  rcases hnum:num (l.drop at_) with _ | ⟨m,k⟩
  ·rw [hnum] at hok
   cases hok
   simp (implicitDefEqProofs:=false) only [go_sem,hc]
   refine Sto_one hb (by simp) rfl fun H3 hb3 hf3 hs3=>?_
   simp (implicitDefEqProofs:=false) only [go_sem,countR,hnum]
   first | exact ⟨rfl,⟨at_,RdB.upd hb ho hb3 hf3 hat (Nat.le_refl _) hl⟩,hf1.trans hf3⟩ | exact ⟨⟨at_,RdB.upd hb ho hb3 hf3 hat (Nat.le_refl _) hl⟩,hf1.trans hf3⟩
  ·rw [hnum] at hok
   cases hok
   obtain ⟨rfl,rfl⟩:=hn _ _ hnum
   have hbd:=num_bound hnum
   simp only [List.length_drop] at hbd
   have hcn:=count_num (n:=n) (k:=k) (at_:=at_) hl hbd.1 (by omega)
   by_cases hle:at_ + k + n≤l.length
   ·have hcn':¬ (IntKind.u64.wrap (IntKind.i64.wrap ((l.length:Int) - ((at_ + k:Nat):Int))) < (n:Int)):=by rw [hcn]; exact not_not_intro hle
    have hw:IntKind.i64.wrap (n:Int)=(n:Int):=wrap_i64_id _ (by omega) (by omega)
    simp (implicitDefEqProofs:=false) only [go_sem,hc,hcn',hw]
    refine Sto_one hb (by simp) rfl fun H3 hb3 hf3 hs3=>?_
    simp (implicitDefEqProofs:=false) only [go_sem,countR,hnum,hle]
    exact ⟨by rw [hw],⟨_,RdB.upd hb ho hb3 hf3 (by omega) (by omega) hl⟩,hf1.trans hf3⟩
   ·have hle':=hle
    rw [← hcn] at hle
    simp (implicitDefEqProofs:=false) only [go_sem,hc,hle]
    refine Sto_one hb (by simp) rfl fun H3 hb3 hf3 hs3=>?_
    simp (implicitDefEqProofs:=false) only [go_sem,countR,hnum,hle']
    first | exact ⟨rfl,⟨at_,RdB.upd hb ho hb3 hf3 hat (Nat.le_refl _) hl⟩,hf1.trans hf3⟩ | exact ⟨⟨at_,RdB.upd hb ho hb3 hf3 hat (Nat.le_refl _) hl⟩,hf1.trans hf3⟩
 ·rw [if_neg he] at h1
  simp (implicitDefEqProofs:=false) only [go_sem,he,countR]
  first | exact ⟨rfl,⟨item,h1⟩,hf1⟩ | exact ⟨⟨item,h1⟩,hf1⟩
theorem rerr_ok {H:Heap} {b:Nat} {l:List UInt8} {at_ err:Nat} {g:Option Nat} (h:Rd H b l at_ err g) :
 HCalls Tryz.prog 163 #[.pointer (some ⟨b,0,none⟩)] H fun v H'=>v= .int .i64 err∧H'=H:=by
 obtain ⟨item,a,c,hb,ho,hat,hit,hl⟩:=h
 have hc:=hb.cell
 refine calls_of_vc (args:=[_]) Tryz.func163 c163ok (Nat.le_of_ble_eq_true rfl) ?_
 simp (implicitDefEqProofs:=false) only [go_sem,c163,hc]
theorem rleft_ok {H:Heap} {b:Nat} {l:List UInt8} {at_ err:Nat} {g:Option Nat} (h:Rd H b l at_ err g) :
 HCalls Tryz.prog 150 #[.pointer (some ⟨b,0,none⟩)] H fun v H'=>v= .int .i64 ((l.length - at_:Nat):Int)∧H'=H:=by
 obtain ⟨item,a,c,hb,ho,hat,hit,hl⟩:=h
 have hc:=hb.cell
 have hw:IntKind.i64.wrap ((l.length:Int) - (at_:Int))=((l.length - at_:Nat):Int):=by rw [wrap_i64_id _ (by omega) (by omega)]; omega
 refine calls_of_vc (args:=[_]) Tryz.func150 c150ok (Nat.le_of_ble_eq_true rfl) ?_
 simp (implicitDefEqProofs:=false) only [go_sem,c150,hc,hw]
theorem rend_ok {H:Heap} {b:Nat} {l:List UInt8} {at_ err:Nat} {g:Option Nat} (h:Rd H b l at_ err g) :
 HCalls Tryz.prog 100 #[.pointer (some ⟨b,0,none⟩)] H fun v H'=>v= .int .i64 (if err=0∧at_ < l.length then 2 else err)∧H'=H:=by
 refine calls_of_vc (args:=[_]) Tryz.func100 c100ok (Nat.le_of_ble_eq_true rfl) ?_
 have h':=h
 obtain ⟨item,a,c,hb,ho,hat,hit,hl⟩:=h
 have hc:=hb.cell
 by_cases he:err=0
 ·subst he
  have e0:((0:Nat):Int)=0:=rfl
  simp (implicitDefEqProofs:=false) only [go_sem,c100,hc,e0]
  refine (rleft_ok h').mono ?_
  rintro v H1 ⟨rfl,rfl⟩
  by_cases hlt:at_ < l.length
  ·have h2:(0:Int) < ((l.length - at_:Nat):Int):=by omega
   simp (implicitDefEqProofs:=false) only [go_sem,h2,hlt,hc]
  ·have h2:¬ (0:Int) < ((l.length - at_:Nat):Int):=by omega
   simp (implicitDefEqProofs:=false) only [go_sem,h2,hlt,hc,and_false,e0]
 ·have he':¬ (err:Int)=0:=by omega
  simp (implicitDefEqProofs:=false) only [go_sem,c100,hc,he',he,false_and]
theorem new_ok {H:Heap} {l:List UInt8} {a:Option Addr} {c:Nat} (hx:BsR H a l) (hl:l.length < 2^38) :
 HCalls Tryz.prog 98 #[.slice a l.length c] H fun v H'=>∃ b g,v= .pointer (some ⟨b,0,none⟩)∧Rd H' b l 0 0 g∧Fr [] H H'∧H.size≤b∧(∀ k,g=some k→H.size≤k):=by
 refine calls_of_vc (args:=[_]) Tryz.func98 c98ok (Nat.le_of_ble_eq_true rfl) ?_
 simp (implicitDefEqProofs:=false) only [go_sem,c98]
 refine NewS_intro fun H1 hn1 hf1 hs1=>?_
 simp (implicitDefEqProofs:=false) only [go_sem]
 refine App_own EB (Own.of_blk hn1 (by simp) (by decide)) ((hx.ext hf1).src Tryz.underlying22) (by unfold maxLen; omega) (by omega) fun a2 c2 H2 g2 ho2 hf2 hg2=>?_
 simp (implicitDefEqProofs:=false) only [go_sem]
 refine NewP_intro fun H3 hb3 hf3 hs3=>?_
 simp (implicitDefEqProofs:=false) only [go_sem]
 have h3:=hf1.size
 have h4:=hf2.size
 have hg3:∀ k,g2=some k→H.size≤k:=by
  intro j hj
  rcases hg2 j hj with h | h
  ·simp at h; omega
  ·omega
 refine ⟨H2.size,g2,rfl,⟨0,a2,c2,by simpa using hb3,by simpa using (ho2.fr hf3 (by simp)),by omega,by omega,by omega⟩,(hf1.trans' hf2 (by simp)).trans' hf3 (by simp),by omega,hg3⟩
end Go.Proofs.YtdhlibkdcldioaaGreat
end
section
set_option linter.unusedSimpArgs false
set_option linter.unusedVariables false
set_option maxRecDepth 8000
namespace Go.Proofs.YtdhlibkdcldioaaGreat
open Gx Go
theorem numG_enc (r:List UInt8):∀ (f m i acc:Nat),m < 128^f→f + i=10→(i=0∨0 < m)→m * 2^(7*i) < 2^64→numG i acc (encF f m ++ r)=some (acc + m * 2^(7*i),i + (encF f m).length)
 | 0,m,i,acc,h,hf,hi,hm=>by
   exfalso; simp at h; omega
 | f+1,m,i,acc,h,hf,hi,hm=>by
   have hi9:i≤9:=by omega
   have h9:i=9→m≤1:=fun e=>by
    subst e
    have:2 * 2^(7*9)≤m * 2^(7*9)∨m < 2:=by
     rcases Nat.lt_or_ge m 2 with h | h
     ·exact .inr h
     ·exact .inl (Nat.mul_le_mul_right _ h)
    rcases this with h | h
    ·exact absurd (Nat.lt_of_le_of_lt h hm) (by decide)
    ·omega
   simp only [encF]
   split
   ·rename_i hlt
    have e:(UInt8.ofNat m).toNat=m:=by rw [UInt8.toNat_ofNat']; omega
    simp only [List.cons_append,List.nil_append,numG,e]
    rw [if_neg (by omega),if_neg (by omega),if_pos hlt,if_pos (by omega),Nat.mod_eq_of_lt hlt]
    rfl
   ·rename_i hge
    have e:(UInt8.ofNat (m % 128 + 128)).toNat=m % 128 + 128:=by rw [UInt8.toNat_ofNat']; omega
    simp only [List.cons_append,numG,e]
    rw [if_neg (by omega),if_neg (by omega),if_neg (by omega)]
    have e2:2^(7*(i+1))=128 * 2^(7*i):=by rw [Nat.mul_add,Nat.pow_add,Nat.mul_comm]
    have e3:m / 128 * 2^(7*(i+1))=128 * (m / 128) * 2^(7*i):=by rw [e2,← Nat.mul_assoc,Nat.mul_comm (m / 128) 128]
    have e4:m * 2^(7*i)=128 * (m / 128) * 2^(7*i) + m % 128 * 2^(7*i):=by
     rw [← Nat.add_mul]; congr 1; omega
    rw [numG_enc r f (m / 128) (i + 1) _ (by rw [Nat.pow_succ] at h; omega) (by omega) (.inr (by omega)) (by rw [e3]; omega)]
    have e5:(m % 128 + 128) % 128=m % 128:=by omega
    rw [e5,e3,e4]
    simp only [List.length_cons,Option.some.injEq,Prod.mk.injEq]
    omega
theorem num_enc (n:Nat) (h:n < 2^64) (r:List UInt8):num (enc n ++ r)=some (n,(enc n).length):=by
 have:=numG_enc r 10 n 0 0 (Nat.lt_of_lt_of_le h (by decide)) rfl (.inl rfl) (by simpa using h)
 simpa [num,enc] using this
theorem zag_zig (n:Int):zag (zig n)=n:=by
 unfold zig zag
 split <;> split <;> omega
theorem zig_zag (n:Nat):zig (zag n)=n:=by
 unfold zig zag
 split <;> split <;> omega
theorem numG_canon:∀ (l:List UInt8) (i acc v k:Nat),numG i acc l=some (v,k)→acc < 2^(7*i)→∃ m,v=acc + m * 2^(7*i)∧(i=0∨0 < m)∧m < 128^(k - i)∧i < k∧k≤10∧∀ f,k≤i + f→l.take (k - i)=encF f m
 | [],i,acc,v,k,h,_=>by simp [numG] at h
 | b :: r,i,acc,v,k,h,hacc=>by
   have hpow:acc + (b.toNat % 128) * 2^(7*i) < 2^(7*(i+1)):=by
    have e:2^(7*(i+1))=128 * 2^(7*i):=by rw [Nat.mul_add,Nat.pow_add,Nat.mul_comm]
    have hb:b.toNat % 128 < 128:=Nat.mod_lt _ (by decide)
    rw [e]
    have:(b.toNat % 128) * 2^(7*i)≤127 * 2^(7*i):=Nat.mul_le_mul_right _ (by omega)
    omega
   simp only [numG] at h
   split at h
   ·cases h
   rename_i hi10
   split at h
   ·cases h
   split at h
   ·rename_i hlt
    split at h
    ·rename_i hnz
     simp only [Option.some.injEq,Prod.mk.injEq] at h
     obtain ⟨rfl,rfl⟩:=h
     refine ⟨b.toNat,by rw [Nat.mod_eq_of_lt hlt],by omega,by rw [show i + 1 - i=1 by omega]; simpa using hlt,by omega,by omega,fun f hf=>?_⟩
     obtain ⟨f',rfl⟩:∃ f',f=f' + 1:=⟨f - 1,by omega⟩
     rw [show i + 1 - i=1 by omega]
     simp only [encF,if_pos hlt,List.take_succ_cons,List.take_zero]
     congr 1
     exact (UInt8.ofNat_toNat).symm
    ·cases h
   ·rename_i hge
    obtain ⟨m,rfl,hm,hmk,hik,hk10,hf⟩:=numG_canon r (i + 1) _ v k h hpow
    have hm0:0 < m:=by omega
    have e2:2^(7*(i+1))=128 * 2^(7*i):=by rw [Nat.mul_add,Nat.pow_add,Nat.mul_comm]
    refine ⟨b.toNat % 128 + 128 * m,?_,by omega,?_,by omega,hk10,fun f hfk=>?_⟩
    ·rw [e2,Nat.add_mul,← Nat.mul_assoc,Nat.mul_comm m 128]; omega
    ·rw [show k - i=(k - (i + 1)) + 1 by omega,Nat.pow_succ]
     have hb:b.toNat % 128 < 128:=Nat.mod_lt _ (by decide)
     omega
    ·obtain ⟨f',rfl⟩:∃ f',f=f' + 1:=⟨f - 1,by omega⟩
     rw [show k - i=(k - (i + 1)) + 1 by omega]
     simp only [encF,if_neg (show ¬ b.toNat % 128 + 128 * m < 128 by omega),List.take_succ_cons]
     rw [show (b.toNat % 128 + 128 * m) / 128=m by omega,hf f' (by omega)]
     congr 1
     have hb:=b.toNat_lt
     rw [show (b.toNat % 128 + 128 * m) % 128 + 128=b.toNat by omega]
     exact (UInt8.ofNat_toNat).symm
theorem num_canon {l:List UInt8} {v k:Nat} (h:num l=some (v,k)):l.take k=enc v:=by
 obtain ⟨m,e,_,_,_,hk,hf⟩:=numG_canon l 0 0 v k h (by decide)
 have:v=m:=by simpa using e
 subst this
 exact hf 10 (by omega)
theorem len_encF:∀ (g f n:Nat),n < 128^f→1≤f→(encF g n).length≤f
 | 0,f,n,_,h=>by simp [encF]
 | g+1,f,n,hn,h=>by
   simp only [encF]
   split
   ·simpa using h
   ·rename_i hge
    obtain ⟨f',rfl⟩:∃ f',f=f' + 1:=⟨f - 1,by omega⟩
    rw [Nat.pow_succ] at hn
    have h1:1≤f':=by
     rcases Nat.eq_zero_or_pos f' with h0 | h0
     ·subst h0; simp at hn; omega
     ·exact h0
    have:=len_encF g f' (n / 128) (by omega) h1
    simp; omega
theorem len_enc {n f:Nat} (h:n < 128^f) (h1:1≤f):(enc n).length≤f:=len_encF 10 f n h h1
theorem len_enc_pos (n:Nat):1≤(enc n).length:=by
 unfold enc encF; split <;> simp
end Go.Proofs.YtdhlibkdcldioaaGreat
end
