import Derived.Test.YtmhdkbmnpekpoaaGreatDoorB4
import Derived.Test.YtmhdkbmnpekpoaaGreatDoorB2
import Derived.Lib.Join
open Bool renaming and_eq_true→ae5,false_eq_true→ae6,or_eq_true→afl,and_self→aii
open Go.Proofs.Tryz renaming prog→afI
open Nat renaming le_of_ble_eq_true→ahi,le_refl→afJ,add_zero→ahl,zero_le→ahn,lt_or_ge→ae8,le_trans→ah8,zero_add→afT,le_succ→aie,eq_or_lt_of_le→aij,le_of_not_lt→ail
open List renaming length_cons→afK,eraseIdx→ahk,length_append→ah1,cons_append→ahm,length_pos_iff→aho,set→ahp,getElem_cons_succ→ah2,mem_cons→afa,eq_nil_of_length_eq_zero→afL,all_cons→afb,take_succ_cons→ahq,takeWhile_cons→ahr,length_drop→ahs,length_nil→aht,mem_append→ahu,nil_append→ahv,isEmpty_iff→ah6,flatMap_cons→afN,append_nil→ah7,drop_succ_cons→afQ,not_mem_nil→ahy,length_tail→ah9,mem_of_getElem?→afR,length_map→aia,mem_singleton→aib,mem_flatMap→ahA,drop_zero→aic,drop_drop→ahC,all_append→aid,all_takeWhile→ahM,tail_cons→aif,drop_eq_nil_iff→aih
open Go.IntKind renaming i64→afd
open Go.Value renaming oneCell'→ah3
open Go.Lib renaming itoa→ah4,decDigits→ah5,nDigits_small→aik
open Prod renaming mk→aff
open List.Sublist renaming refl→ahx
open Option renaming mem_toList→ahH
set_option linter.unusedSimpArgs false
set_option linter.unusedVariables false
set_option maxRecDepth 8000
namespace Go.Proofs.YtmhdkbmnpekpoaaGreatDoor
open Gx Go
theorem nb {s:Bs} {ts:List Tk} (h:aY s ts=false):¬ aY s ts=true:=by rw[h]; decide
def Uy (ns:List Nd) (v:Value) (H H':Heap):Prop:=∃ g,vd H' (fun x=>x < H.size) 24 5 v (ns.map Nd.fD) g∧∀ b,g=some b→H.size≤b
theorem _root_.Gx.Lv.FP {O0 O:List Nat} {S S':Heap→Prop} {H0 H H':Heap} {l:List dR} {ds:List (iH × List Value)} {e m:Nat} {v:Value} {dl:List iH} {g:Option Nat} (L:Lv O0 H0 O S H l ds) (hf:Fr O H H')
 (hS:∀ (M:List Nat) (nA:Heap),Fr M H' nA→(∀ x ∈ M,H0.size≤x∧x ∉ O)→S' nA) (hr:vd H' (fun x=>x < H.size) e m v dl g) (hg:∀ b,g=some b→H.size≤b):Lv O0 H0 O S' H' (.row e m v dl g :: l) ds:=by
 have L':=Lv.call L hf hS
 have dO:=L.fr.size
 have hb:∀ x,Lk H0.size O (.row e m v dl g :: l) x→Lk H0.size O l x∨H.size≤x:=by
  rintro x (q | q | q)
  ·exact .inl (.inl q)
  ·exact .inl (.inr (.inl q))
  ·simp only[afN,dR.bs,ahu,ahH] at q
   rcases q with q | q
   ·exact .inr (hg x q)
   ·exact .inl (.inr (.inr q))
 have hold:∀ x,Lk H0.size O l x→x < H.size:=by
  rintro x (q | q | q)
  ·omega
  ·exact (L.own x q).1
  ·exact (L.lo x q).2.2
 refine ⟨L'.fr,L'.own,?_,fun x hx=>?_,fun p hp=>?_,fun p hp=>?_,hS⟩
 ·simp only[afN,dR.bs,List.nodup_append]
  refine ⟨by cases g <;> simp,L.nd,fun a ha b hb=>?_⟩
  have h1:=hg a (by simpa using ha)
  have h2:=(L.lo b hb).2.2
  omega
 ·simp only[afN,dR.bs,ahu,ahH] at hx
  rcases hx with hx | hx
  ·have:=hg x hx
   exact ⟨by omega,fun q=>by have:=(L.own x q).1; omega,vd.lt hr hx⟩
  ·exact L'.lo x hx
 ·rcases afa.1 hp with rfl | hp
  ·obtain ⟨css,h1,h2,h3⟩:=hr
   refine ⟨css,h1,h2,h3.more fun x hx=>.inl ?_⟩
   rcases hx with (q | q | q) | q
   ·exact .inl (by omega)
   ·exact .inl (L.own x q).1
   ·simp only[afN,dR.bs,ahu,ahH] at q
    rcases q with q | q
    ·exact .inr q
    ·exact .inl (L.lo x q).2.2
   ·exact .inr q
  ·refine dR.mE (L.ok p hp) hf (fun x hx=>.inl (.inr (.inl hx))) (fun x hx hm=>?_) hb
   exact (L.lo x (ahA.2 ⟨p,hp,hx⟩)).2.1 hm
 ·exact aD.fr (L.fD p hp) hf (fun x hx=>.inl (.inr (.inl hx))) hb
section
variable {X:Cx} {H0 H H':Heap} {Ek ts r:List Tk} {k0 k:Nat} {l:List dR} {ds:List (iH × List Value)} {γ:Type} {P0:Except kc (γ × List Tk)} {Q:Value→Heap→Prop}
theorem ij.Uz {f:Nat} {av:List Value} {p:PP (List Nd)} {g:List Nd→PP γ} (h:ij k f av p Uy) (h0:Ps X H0 Ek k0) (L:iQ X H0 ts k H l ds) (hp:P0=bd p g ts)
 (hR:∀ ns a c gb r H',iQ X H0 r k H' (.row 24 5 (.slice a ns.length c) (ns.map Nd.fD) gb :: l) ds→P0=g ns r→p ts= .ok (ns,r)→Q (.slice a ns.length c) H'):bU afI f (ptr X.b :: av).toArray H Q (II X H0 P0):=
 h.use L.ps (fun e H' he hf=>⟨e,by rw[hp,bN he],rfl,L.fr.trans hf⟩) fun ns r v H' he ⟨gb,h1,h2⟩ hs hf=>by
  obtain ⟨a,c,hv,_⟩:=h1.slice
  rw[aia] at hv
  subst hv
  exact hR ns a c gb r H' (L.FP hf (fun M nA fJ hM=>Ps.on h0 hs fJ fun x hx=>(hM x hx).1) h1 h2) (by rw[hp,az he]) he
theorem _root_.Gx.Lv.Ky {P0:Except kc (List Nd × List Tk)} {ns:List Nd} {v:Value} {g:Option Nat} (L:iQ X H0 r k H l ds) (hp:P0=ret ns r) (i:Nat) (hi:l[i]?=some (.row 24 5 v (ns.map Nd.fD) g)) :
 ∃ a r,P0= .ok (a,r)∧Uy a v H0 H∧Ps X H r k∧Fr [X.b] H0 H:=
 ⟨ns,r,hp,⟨g,(L.Es i hi).ext (Fr.refl [] _) fun x hx=>.inl (.inl hx),fun b hb=>(L.lo b (ahA.2 ⟨_,afR hi,by simp[dR.bs,hb]⟩)).1⟩,L.ps,L.fr⟩
end
theorem tN {k:Nat}:ij k 102 [] ej Uy:=by
 refine ⟨fun {X H ts} hs=>?_⟩
 refine aK (args:=[_]) Tryz.func102 SU (ahi rfl) ?_
 have L:=hs.walk
 have aaT:=hs.cap
 simp only[go_sem,YA]
 refine rL.goN hs L (P0:=ej ts) rfl fun kk tt nn aa ks kv r H1 L hp he=>?_
 simp only[go_sem]
 refine L.bc fun b1 H2 L=>?_
 have L:=L.B5 (ks:=ks) (by simp)
 have hlen:r.length≤1048576:=by
  obtain ⟨i',_,e',_⟩:=L.ps.ex
  rw[e',ahs]; omega
 simp only[go_sem]
 refine bC (fun (s:List Tk × List Nd × Value) H'=>∃ g f,iQ X H s.1 k H' [.row 24 5 s.2.2 (s.2.1.map Nd.fD) g] []∧ej ts=dM f s.2.1 s.1∧s.1.length≤f∧s.2.1.length + s.1.length≤1048577)
  (fun s=>[(0,ptr X.b),(3,s.2.2)]) (fun s=>s.1.length) (r,[.mk kk tt nn aa ks],.slice (some ⟨b1,0,none⟩) 1 1) ?_ ?_ ?_
 ·exact ⟨_,r.length,L.drop (ahx _) (by simp),hp,afJ _,by simp; omega⟩
 ·simp only[go_sem,ptr]
 ·rintro ⟨cur,ns,v⟩ H3 ⟨g,f,L,hp,hf,hle⟩
  simp only at L hp hf hle ⊢
  have qw:=aho.2 L.ps.nil
  obtain ⟨f,rfl⟩:∃ f',f=f' + 1:=⟨f - 1,by omega⟩
  have htl:cur.tail.length=cur.length - 1:=by simp
  conv at hp=>rhs; unfold dM
  simp only[go_sem]
  refine bO hs L [44] (fun e H4 L=>?_) fun e H4 L=>?_
  ·rw[if_pos e] at hp
   have hct:=aho.2 L.ps.nil
   simp only[go_sem]
   refine rL.goN hs L hp fun kk tt nn aa ks kv r' H5 L hp he=>?_
   have Uw:=jM.of he
   simp only[go_sem]
   refine L.bc fun bA HA L=>?_
   simp only[go_sem]
   refine L.vh (ns:=ns) (ks:=ks) 0 rfl (by simp) (by omega) fun a c g' HB L=>?_
   dsimp only[ahp,ahk]at L
   simp only[go_sem]
   refine aj (r',ns ++ [.mk kk tt nn aa ks],.slice a (ns ++ [Nd.mk kk tt nn aa ks]).length c) ?_ ?_ ⟨g',f,L.drop (ahx _) (by simp),hp,show r'.length≤f by omega,?_⟩
   ·show r'.length < cur.length
    omega
   ·simp only[go_sem]
   ·simp only[ah1,afK,aht]; omega
  ·rw[if_neg (nb e)] at hp
   simp only[go_sem]
   exact L.Ky hp 0 rfl
theorem qy {k:Nat}:ij k 71 [] bJ Uy:=by
 refine ⟨fun {X H ts} hs=>?_⟩
 refine aK (args:=[_]) Tryz.func71 Yr (ahi rfl) ?_
 have L:=hs.walk
 obtain ⟨hp,_⟩:bJ ts=bJ ts∧True:=⟨rfl,trivial⟩
 conv at hp=>rhs; unfold bJ
 simp only[go_sem,c71]
 refine bO hs L [40] (fun e H1 L=>?_) fun e H1 L=>?_
 ·rw[if_pos e] at hp
  simp only[go_sem]
  refine tN.Uz hs L hp fun ns a c gb r H2 L hp _=>?_
  simp only[go_sem]
  refine (bj [41]).go hs L hp fun _ r v H3 L hp _ _=>?_
  simp only[go_sem]
  exact L.Ky hp 0 rfl
 ·rw[if_neg (nb e)] at hp
  simp only[go_sem]
  exact (L.B3 24 5).Ky (ns:=[]) hp 0 rfl
theorem UA {k g:Nat} {p:PP Nd} (hg:dV afI g=true) (jX:ij k g [] p jO) {X:Cx} {H:Heap} {ts:List Tk} (hs:Ps X H ts k) :
 bU afI 72 #[ptr X.b,.func (.func g) #[ptr X.b] #[]] H (fun v H'=>∃ a r,lh p ts= .ok (a,r)∧Uy a v H H'∧Ps X H' r k∧Fr [X.b] H H') (II X H (lh p ts)):=by
 refine aK (args:=[_,_]) Tryz.func72 Yt (ahi rfl) ?_
 have L:=hs.walk
 simp only[go_sem,c72]
 refine (bj [40]).go hs L (P0:=lh p ts) rfl fun _ r v H1 L hp _ _=>?_
 simp only[go_sem]
 refine ⟨hg,jX.goN hs L hp fun kk tt nn aa ks kv r H2 L hp _=>?_⟩
 simp only[go_sem]
 refine L.aS fun b1 H3 L=>?_
 simp only[go_sem]
 refine L.ae 0 rfl rfl (ax (L.one (ks:=ks) (by simp))) fun H4 L=>?_
 dsimp only[ahp,ahk]at L
 simp only[go_sem]
 refine (bj [44]).go hs L hp fun _ r v H5 L hp _ _=>?_
 simp only[go_sem]
 refine ⟨hg,jX.goN hs L hp fun OA OB OC Bf iK Wd r H6 L hp _=>?_⟩
 simp only[go_sem]
 refine L.aS fun b2 H7 L=>?_
 simp only[go_sem]
 refine L.ae 0 rfl rfl (ax (L.one (ks:=iK) (by simp))) fun H8 L=>?_
 dsimp only[ahp,ahk]at L
 simp only[go_sem]
 refine (bj [41]).go hs L hp fun _ r v H9 L hp _ _=>?_
 have c:=L.cell 0 rfl
 have c':=L.cell 1 rfl
 simp only[go_sem,c,c']
 refine L.bc fun b3 kb L=>?_
 simp only[go_sem]
 have L:=L.Kt (dl:=[Nd.mk kk tt nn aa ks,Nd.mk OA OB OC Bf iK].map Nd.fD) (m:=5) (n:=2) (css:=[[.int .i64 kk,sv tt,.int .i64 nn,.int .i64 aa,kv],[.int .i64 OA,sv OB,.int .i64 OC,.int .i64 Bf,Wd]]) (by simp only[List.flatten_cons,List.flatten_nil,ah7,ahm,ahv]) (by simp) ((fq.nil.cons (L.ndr (ks:=iK) (by simp))).cons (L.ndr (ks:=ks) (by simp))) rfl (by simp[maxLen])
 exact L.Ky hp 0 rfl
def Ca:List Bs:=[[105,110,116],[98,111,111,108],[110,97,109,101],[110,97,109,101,115]]
theorem FQ {k:Nat}:ij k 66 [] eV Q0:=by
 refine ⟨fun {X H ts} hs=>?_⟩
 refine aK (args:=[_]) Tryz.func66 Yp (ahi rfl) ?_
 have L:=hs.walk
 obtain ⟨hp,_⟩:eV ts=eV ts∧True:=⟨rfl,trivial⟩
 conv at hp=>rhs; unfold eV
 simp only[go_sem,c66]
 refine L.bc fun b1 H1 L=>?_
 simp only[go_sem]
 refine bC (fun (i:Nat) H'=>i≤4∧iQ X H ts k H' [.dz b1 9 [.string ⟨⟨[105,110,116]⟩⟩,.string ⟨⟨[98,111,111,108]⟩⟩,.string ⟨⟨[110,97,109,101]⟩⟩,.string ⟨⟨[110,97,109,101,115]⟩⟩]] []∧∀ j s,j < i→Ca[j]?=some s→aY s ts=false)
  (fun i=>[(0,ptr X.b),(5,.slice (some ⟨b1,0,none⟩) 4 4),(6,.int .i64 4),(7,.int .i64 i)]) (fun i=>4 - i) 0 ?_ ?_ ?_
 ·exact ⟨by decide,L,fun j s h=>by omega⟩
 ·simp only[go_sem,ptr]
 ·rintro i H2 ⟨hi,L,bZ⟩
  have h5:i=0∨i=1∨i=2∨i=3∨i=4:=by omega
  rcases h5 with rfl | rfl | rfl | rfl | rfl
  ·have c:=L.cell 0 rfl
   have w:afd.wrap 1=1:=rfl
   simp only[go_sem,c]
   refine bO hs L [105,110,116] (fun e H3 L=>?_) fun e H3 L=>?_
   ·skip
    rw[if_pos e] at hp
    simp only[go_sem,w]
    exact ⟨1,ts.tail,hp,rfl,L.ps,L.fr⟩
   ·simp only[go_sem]
    refine aj (1:Nat) (by simp) ?_ ⟨by simp,L,fun j s hj Ex=>?_⟩
    ·simp only[go_sem,w]
    ·rcases ae8 j (1 - 1) with q | q
     ·exact bZ j s (by omega) Ex
     ·obtain rfl:j=1 - 1:=by omega
      simp[Ca] at Ex
      subst Ex; exact e
  ·have c:=L.cell 0 rfl
   have w:afd.wrap 2=2:=rfl
   simp only[go_sem,c]
   refine bO hs L [98,111,111,108] (fun e H3 L=>?_) fun e H3 L=>?_
   ·rw[if_neg (nb (bZ 0 _ (by omega) rfl))] at hp
    rw[if_pos e] at hp
    simp only[go_sem,w]
    exact ⟨2,ts.tail,hp,rfl,L.ps,L.fr⟩
   ·simp only[go_sem]
    refine aj (2:Nat) (by simp) ?_ ⟨by simp,L,fun j s hj Ex=>?_⟩
    ·simp only[go_sem,w]
    ·rcases ae8 j (2 - 1) with q | q
     ·exact bZ j s (by omega) Ex
     ·obtain rfl:j=2 - 1:=by omega
      simp[Ca] at Ex
      subst Ex; exact e
  ·have c:=L.cell 0 rfl
   have w:afd.wrap 3=3:=rfl
   simp only[go_sem,c]
   refine bO hs L [110,97,109,101] (fun e H3 L=>?_) fun e H3 L=>?_
   ·rw[if_neg (nb (bZ 0 _ (by omega) rfl)),if_neg (nb (bZ 1 _ (by omega) rfl))] at hp
    rw[if_pos e] at hp
    simp only[go_sem,w]
    exact ⟨3,ts.tail,hp,rfl,L.ps,L.fr⟩
   ·simp only[go_sem]
    refine aj (3:Nat) (by simp) ?_ ⟨by simp,L,fun j s hj Ex=>?_⟩
    ·simp only[go_sem,w]
    ·rcases ae8 j (3 - 1) with q | q
     ·exact bZ j s (by omega) Ex
     ·obtain rfl:j=3 - 1:=by omega
      simp[Ca] at Ex
      subst Ex; exact e
  ·have c:=L.cell 0 rfl
   have w:afd.wrap 4=4:=rfl
   simp only[go_sem,c]
   refine bO hs L [110,97,109,101,115] (fun e H3 L=>?_) fun e H3 L=>?_
   ·rw[if_neg (nb (bZ 0 _ (by omega) rfl)),if_neg (nb (bZ 1 _ (by omega) rfl)),if_neg (nb (bZ 2 _ (by omega) rfl))] at hp
    rw[if_pos e] at hp
    simp only[go_sem,w]
    exact ⟨4,ts.tail,hp,rfl,L.ps,L.fr⟩
   ·simp only[go_sem]
    refine aj (4:Nat) (by simp) ?_ ⟨by simp,L,fun j s hj Ex=>?_⟩
    ·simp only[go_sem,w]
    ·rcases ae8 j (4 - 1) with q | q
     ·exact bZ j s (by omega) Ex
     ·obtain rfl:j=4 - 1:=by omega
      simp[Ca] at Ex
      subst Ex; exact e
  ·rw[if_neg (nb (bZ 0 _ (by omega) rfl)),if_neg (nb (bZ 1 _ (by omega) rfl)),if_neg (nb (bZ 2 _ (by omega) rfl)),if_neg (nb (bZ 3 _ (by omega) rfl))] at hp
   simp only[go_sem]
   exact rQ L hp
theorem wR {k:Int} {ts r:List Tk} {t:Tk} (h:cK k ts= .ok (t,r)):t=hd ts∧t.kind=k∧r=ts.tail:=by
 unfold cK at h
 split at h
 ·cases h; exact ⟨rfl,by assumption,rfl⟩
 ·cases h
theorem tO {ts r:List Tk} {n:Nd} (h:ey ts= .ok (n,r)):n= .mk 47 (hd ts).text 0 (hd ts).at_ []∧(hd ts).kind=4∧r=ts.tail:=by
 unfold ey bd at h
 split at h
 ·cases h
 ·rename_i t q hq
  obtain ⟨rfl,h2,rfl⟩:=wR hq
  cases h; exact ⟨rfl,h2,rfl⟩
theorem Ar {ts:List Tk} {k:Int} (h:(hd ts).kind=k) (hk:k≠6):0 < ts.length:=by
 cases ts with
 | nil=>exact absurd h.symm hk
 | cons t r=>simp
theorem uL:∀ (f:Nat) (l ns:List Nd) (ts r:List Tk),dM f l ts= .ok (ns,r)→ns.length + r.length≤l.length + ts.length
 | 0,l,ns,ts,r,h=>by
   simp only[dM,ret,Except.ok.injEq,aff.injEq] at h
   obtain ⟨rfl,rfl⟩:=h; exact afJ _
 | f + 1,l,ns,ts,r,h=>by
   simp only[dM] at h
   split at h
   ·unfold bd at h
    split at h
    ·cases h
    ·rename_i a q hq
     have h1:=uL f _ _ _ _ h
     have h2:=(tO hq).2
     have h3:=Ar h2.1 (by decide)
     rw[h2.2] at h1
     simp only[ah1,afK,aht,ah9] at h1 h3
     omega
   ·cases h; exact afJ _
theorem nW {ns:List Nd} {ts r:List Tk} (h:ej ts= .ok (ns,r)):ns.length + r.length≤ts.length:=by
 unfold ej bd at h
 split at h
 ·cases h
 ·rename_i a q hq
  have h1:=uL _ _ _ _ _ h
  have h2:=(tO hq).2
  have h3:=Ar h2.1 (by decide)
  rw[h2.2] at h1
  simp only[afK,aht,ah9] at h1
  omega
theorem _root_.Gx.Lv.len {X:Cx} {H0 H:Heap} {ts:List Tk} {k:Nat} {l:List dR} {ds:List (iH × List Value)} (L:iQ X H0 ts k H l ds):ts.length≤1048576:=by
 obtain ⟨i',_,e',_⟩:=L.ps.ex
 have:=L.ps.cap
 rw[e',ahs]; omega
theorem Kz {k:Nat}:ij k 64 [] eA jO:=by
 refine ⟨fun {X H ts} hs=>?_⟩
 refine aK (args:=[_]) Tryz.func64 Ym (ahi rfl) ?_
 have L:=hs.walk
 have hp:eA ts=bd (dn 6) (fun n=>match n with | .mk kk tt nn aa ks=>bd (aU [58]) fun _=>bd eV fun s=>ret (.mk kk tt s aa ks)) ts:=by
  unfold eA dn
  rw[jw]; rfl
 simp only[go_sem,c64]
 refine L.aS fun b1 H1 L=>?_
 simp only[go_sem]
 refine (nQ 6).goN hs L hp fun kk tt nn aa ks kv r H2 L hp _=>?_
 simp only at hp
 simp only[go_sem]
 refine L.aS fun b2 H3 L=>?_
 simp only[go_sem]
 refine L.ae 0 rfl rfl (ax (L.one (ks:=ks) (by simp))) fun H4 L=>?_
 simp only[go_sem]
 refine (bj [58]).go hs L hp fun _ r v H5 L hp _ _=>?_
 simp only[go_sem]
 refine FQ.go hs L hp fun n r v H6 L hp _ hv=>?_
 cases hv
 simp only[go_sem]
 refine L.bu 0 rfl (by simp) rfl fun H7 L=>?_
 have c:=L.cell 0 rfl
 simp only[go_sem,c]
 refine L.ae 1 rfl rfl (ax (L.one (ks:=ks) (by simp))) fun HZ L=>?_
 have c:=L.cell 1 rfl
 simp only[go_sem,c]
 exact L.fin hp (.inl (by simp))
theorem y3 {k:Nat} {X:Cx} {H H1:Heap} {ts r:List Tk} {b:Nat} {ns qs:List Nd} {v w:Value} {g gq:Option Nat} {aa:Int} {γ:Type} {P0:Except kc (γ × List Tk)} {G:Nd→PP γ} {x1 x4 x5 x6:Option Value} {Q:lF} (hs:Ps X H ts k)
 (L:iQ X H r k H1 [.row 24 5 w (qs.map Nd.fD) gq,.dz b 24 [.int .i64 20,sv [],.int .i64 0,.int .i64 aa,w],.row 24 5 v (ns.map Nd.fD) g] []) (hl:qs.length + 1≤1048576) (yf:ns.length + 1≤1048576)
 (hp:P0=bd (bd (aU [61,62]) fun _=>bd ey fun c=>ret (.mk 20 [] 0 aa (qs ++ [c]))) G r)
 (hQ:∀ a c g' H' r' n,iQ X H r' k H' [.row 24 5 (.slice a (ns.length + 1) c) ((ns ++ [n]).map Nd.fD) g'] []→P0=G n r'→r'.length≤r.length→Q .yg [some (ptr X.b),x1,some (.slice a (ns.length + 1) c),some (.pointer (some ⟨b,0,none⟩)),x4,x5,x6] H') :
 vc afI (II X H P0) DU [some (ptr X.b),x1,some v,some (.pointer (some ⟨b,0,none⟩)),x4,x5,x6] H1 Q:=by
 rw[JI]
 simp only[jw] at hp
 simp only[go_sem]
 refine (bj [61,62]).go hs L hp fun _ r1 v H2 L hp he _=>?_
 have Uw:=(bG _).of he
 rw[jw] at hp
 have c:=L.cell 1 rfl
 simp only[go_sem,c]
 refine rL.goN hs L hp fun kk tt nn Bf ks kv r2 H3 L hp he=>?_
 have N5:=jM.of he
 have c:=L.cell 1 rfl
 simp only[go_sem,c]
 refine L.bc fun bA HA L=>?_
 have c:=L.cell 2 rfl
 simp only[go_sem,c]
 refine L.vh (ns:=qs) (ks:=ks) 0 rfl (by simp) hl fun a c g' HB L=>?_
 simp only[go_sem]
 refine L.bu 1 rfl (by simp) rfl fun HC L=>?_
 have L:=L.nt 0 (qs ++ [.mk kk tt nn Bf ks]) rfl
 have c:=L.cell 0 rfl
 simp only[go_sem,c]
 refine L.bc fun bD HD L=>?_
 simp only[go_sem]
 refine L.vh (kk:=20) (tt:=[]) (nn:=0) (aa:=aa) (ns:=ns) (ks:=qs ++ [.mk kk tt nn Bf ks]) 1 rfl (by simp) yf fun a c g' HB L=>?_
 have e:(ns ++ [Nd.mk 20 [] 0 aa (qs ++ [.mk kk tt nn Bf ks])]).length=ns.length + 1:=by simp
 rw[e] at L ⊢
 simp only[go_sem]
 exact hQ a c g' HB r2 _ (L.drop (by simp) (by simp)) hp (by omega)
theorem KA {γ:Type} {G:Nd→PP γ} {ts:List Tk}:bd jx G ts=bd kH (fun q=>bd (bd (aU [61,62]) fun _=>bd ey fun c=>ret (.mk 20 [] 0 (hd ts).at_ (q ++ [c]))) G) ts:=by
 have e:jx ts=bd kH (fun q=>bd (aU [61,62]) fun _=>bd ey fun c=>ret (.mk 20 [] 0 (hd ts).at_ (q ++ [c]))) ts:=rfl
 rw[← jw]
 unfold bd at e ⊢
 rw[e]
theorem KB {γ:Type} {G:List Nd→PP γ} {ts:List Tk} (h:(hd ts).kind=4):bd kH G ts=bd ej G ts:=by
 unfold bd kH; rw[if_pos h]
theorem KC {γ:Type} {G:List Nd→PP γ} {ts:List Tk} (h:(hd ts).kind≠4):bd kH G ts=G [] ts:=by
 unfold bd kH; rw[if_neg h]
set_option maxHeartbeats 1000000 in
theorem uM {k:Nat} {X:Cx} {H H1:Heap} {ts r:List Tk} {ns:List Nd} {v:Value} {g:Option Nat} {P0:Except kc (List Nd × List Tk)} {x1 x3 x4 x5 x6:Option Value} (hs:Ps X H ts k)
 (L:iQ X H r k H1 [.row 24 5 v (ns.map Nd.fD) g] []) (hl:ns.length + r.length≤1048577)
 (hp:P0=bd (eU r.length ns) (fun l=>bd (aU [41]) fun _=>ret l) r) :
 vc afI (II X H P0) DV [some (ptr X.b),x1,some v,x3,x4,x5,x6] H1 (u5 c74.res fun v H'=>∃ a r,P0= .ok (a,r)∧Uy a v H H'∧Ps X H' r k∧Fr [X.b] H H'):=by
 rw[JL]
 simp only[go_sem,c74]
 refine bC (fun (s:List Tk × List Nd × Value) H'=>∃ g f,iQ X H s.1 k H' [.row 24 5 s.2.2 (s.2.1.map Nd.fD) g] []∧P0=bd (eU f s.2.1) (fun l=>bd (aU [41]) fun _=>ret l) s.1∧s.1.length≤f∧s.2.1.length + s.1.length≤1048577)
  (fun s=>[(0,ptr X.b),(3,s.2.2)]) (fun s=>s.1.length) (r,ns,v) ?_ ?_ ?_
 ·exact ⟨g,_,L,hp,afJ _,hl⟩
 ·simp only[go_sem]
 ·rintro ⟨cur,ns,v⟩ H3 ⟨g,f,L,hp,hf,hle⟩
  simp only at L hp hf hle ⊢
  have qw:=aho.2 L.ps.nil
  obtain ⟨f,rfl⟩:∃ f',f=f' + 1:=⟨f - 1,by omega⟩
  have htl:cur.tail.length=cur.length - 1:=by simp
  have hp:P0=if aY [59] cur then bd jx (fun x=>bd (eU f (ns ++ [x])) (fun l=>bd (aU [41]) fun _=>ret l)) cur.tail else bd (aU [41]) (fun _=>ret ns) cur:=by
   rw[hp]
   conv=>lhs; unfold bd eU
   by_cases e:aY [59] cur=true
   ·simp only[e,if_true]
    rw[← jw]; rfl
   ·simp only[e,if_false]; rfl
  simp only[go_sem]
  refine bO hs L [59] (fun e H4 L=>?_) fun e H4 L=>?_
  ·rw[if_pos e,KA] at hp
   have hct:=aho.2 L.ps.nil
   simp only[go_sem]
   refine kQ L fun H5 L=>?_
   simp only[go_sem,jD]
   refine L.aS fun b H6 L=>?_
   simp only[go_sem]
   refine L.ae 0 rfl rfl (ax (t:=[]) rfl) fun H7 L=>?_
   simp only[go_sem]
   refine kQ L fun H8 L=>?_
   by_cases k4:(hd cur.tail).kind=4
   ·rw[KB k4] at hp
    simp only[go_sem,jD,k4]
    refine tN.Uz hs L hp fun qs aw cw gq r1 H9 L hp he=>?_
    have hql:=nW he
    simp only[go_sem]
    refine L.bu 1 rfl (by simp) rfl fun kb L=>?_
    simp only[go_sem]
    refine y3 hs L (by have:=aho.2 L.ps.nil; omega) (by omega) hp fun a c g' H' r' n L hp ad1=>?_
    simp only[go_sem]
    refine aj (r',ns ++ [n],.slice a (ns.length + 1) c) ?_ ?_ ⟨g',f,L,hp,show r'.length≤f by omega,?_⟩
    ·show r'.length < cur.length
     omega
    ·simp only[go_sem]
    ·simp only[ah1,afK,aht]; omega
   ·rw[KC k4] at hp
    simp only[go_sem,jD,k4]
    have L:=L.B3 24 5
    refine y3 hs (qs:=[]) L (by decide) (by omega) hp fun a c g' H' r' n L hp ad1=>?_
    simp only[go_sem]
    refine aj (r',ns ++ [n],.slice a (ns.length + 1) c) ?_ ?_ ⟨g',f,L,hp,show r'.length≤f by omega,?_⟩
    ·show r'.length < cur.length
     omega
    ·simp only[go_sem]
    ·simp only[ah1,afK,aht]; omega
  ·rw[if_neg (nb e)] at hp
   simp only[go_sem]
   refine (bj [41]).go hs L hp fun _ r v H3 L hp _ _=>?_
   simp only[go_sem]
   exact L.Ky hp 0 rfl
theorem Hj {k:Nat}:ij k 74 [] gg Uy:=by
 refine ⟨fun {X H ts} hs=>?_⟩
 refine aK (args:=[_]) Tryz.func74 Yw (ahi rfl) ?_
 have L:=hs.walk
 simp only[go_sem,c74]
 refine (bj [40]).go hs L (P0:=gg ts) rfl fun _ r v H1 L hp _ _=>?_
 have hlen:=L.len
 simp only[go_sem]
 refine kQ L fun H2 L=>?_
 by_cases k4:(hd r).kind=4
 ·rw[KB k4] at hp
  simp only[go_sem,jD,k4]
  refine tN.Uz hs L hp fun qs aw cw gq r1 H3 L hp he=>?_
  have hql:=nW he
  simp only[go_sem]
  exact uM hs L (by omega) hp
 ·rw[KC k4] at hp
  simp only[go_sem,jD,k4]
  exact uM (ns:=[]) hs (L.B3 24 5) (by simp; omega) hp
section
variable {X:Cx} {H0 H H':Heap} {Ek ts r:List Tk} {k0 k:Nat} {l:List dR} {ds:List (iH × List Value)} {γ:Type} {P0:Except kc (γ × List Tk)} {Q:Value→Heap→Prop}
theorem Ey {g:Nat} {p:PP Nd} {G:List Nd→PP γ} (hg:dV afI g=true) (jX:ij k g [] p jO) (h0:Ps X H0 Ek k0) (L:iQ X H0 ts k H l ds) (hp:P0=bd (lh p) G ts)
 (hR:∀ ns a c gb r H',iQ X H0 r k H' (.row 24 5 (.slice a ns.length c) (ns.map Nd.fD) gb :: l) ds→P0=G ns r→Q (.slice a ns.length c) H'):bU afI 72 #[ptr X.b,.func (.func g) #[ptr X.b] #[]] H Q (II X H0 P0):=
 bU.mono (UA hg jX L.ps) (fun v H' ⟨ns,r,he,⟨gb,h1,h2⟩,hs,hf⟩=>by
  obtain ⟨a,c,hv,_⟩:=h1.slice
  rw[aia] at hv
  subst hv
  exact hR ns a c gb r H' (L.FP hf (fun M nA fJ hM=>Ps.on h0 hs fJ fun x hx=>(hM x hx).1) h1 h2) (by rw[hp,az he])) fun ch H' ⟨e,h1,h2,h3⟩=>⟨e,by rw[hp,bN h1],h2,L.fr.trans h3⟩
end
theorem OD (x:PP Nd):vi x=bd (dn 22) (fun n=>match n with | .mk kk tt nn aa ks=>bd (aU [58]) fun _=>bd x fun y=>ret (.mk kk tt nn aa [y])):=by
 funext ts
 unfold vi dn
 rw[jw]; rfl
theorem As {ns:List Nd} {ts r:List Tk} (h:bJ ts= .ok (ns,r)):ns.length + r.length≤ts.length:=by
 unfold bJ bd at h
 split at h
 ·split at h
  ·cases h
  ·rename_i a q hq
   have h1:=nW hq
   simp only[ah9] at h1
   replace h:bd (aU [41]) (fun _=>ret a) q= .ok (ns,r):=h
   cases yU:aU [41] q with
   | error e=>rw[bN yU] at h; cases h
   | ok x=>
     have h2:=(bG [41]).of (a:=x.1) (r:=x.2) yU
     rw[az (a:=x.1) (r:=x.2) yU] at h
     simp only[ret,Except.ok.injEq,aff.injEq] at h
     obtain ⟨rfl,rfl⟩:=h
     omega
 ·cases h; simp
theorem KD:dW 0=none:=rfl
theorem KE (j:Nat):∃ x,dW (j + 1)=some x:=⟨_,rfl⟩
set_option maxHeartbeats 2000000 in
theorem wS {k:Nat} (UB:∀ j,k=j + 1→ij j 40 [] (gX j) jO):ij k 40 [] (bV (dW k)) jO:=by
 refine ⟨fun {X H ts} hs=>?_⟩
 refine aK (args:=[_]) Tryz.func40 X3 (ahi rfl) ?_
 have L:=hs.walk
 obtain ⟨hp,_⟩:bV (dW k) ts=bV (dW k) ts∧True:=⟨rfl,trivial⟩
 conv at hp=>rhs; unfold bV
 simp only[go_sem,c40]
 refine L.aS fun b1 H1 L=>?_
 simp only[go_sem]
 refine kQ L fun H2 L=>?_
 simp only[go_sem,jD]
 refine L.aS fun b2 H3 L=>?_
 simp only[go_sem]
 refine L.ae 0 rfl rfl (rI (hd ts)) fun H4 L=>?_
 have c:=L.cell 0 rfl
 simp only[go_sem,c]
 refine L.aS fun b3 H5 L=>?_
 simp only[go_sem]
 refine L.ae 0 rfl rfl (ax (t:=[]) rfl) fun H6 L=>?_
 have c:=L.cell 1 rfl
 by_cases k1:(hd ts).kind=1
 ·rw[if_pos k1] at hp
  simp only[go_sem,c,k1]
  refine (nQ 21).Q4 hs L hp fun kk tt nn aa ks kv r H5 L hp=>?_
  simp only[go_sem]
  refine L.ae 2 rfl rfl (ax (L.one (ks:=ks) (by simp))) fun HZ L=>?_
  have c:=L.cell 2 rfl
  simp only[go_sem,c]
  exact L.fin hp (.inl (by simp))
 rw[if_neg k1] at hp
 simp only[go_sem,c,k1]
 refine bO hs L [102,108,97,103] (fun e H7 L=>?_) fun e H7 L=>?_
 ·rw[if_pos e] at hp
  simp only[go_sem]
  refine L.bu 0 rfl (by simp) rfl fun H8 L=>?_
  simp only[go_sem]
  have c:=L.cell 0 rfl
  simp only[go_sem,c]
  refine L.ae 2 rfl rfl (ax (t:=[]) rfl) fun HZ L=>?_
  have c:=L.cell 2 rfl
  simp only[go_sem,c]
  exact L.fin hp (.inr ⟨rfl,rfl⟩)
 rw[if_neg (nb e)] at hp
 simp only[go_sem]
 refine bO hs L [114,101,103,105,115,116,101,114] (fun e H7 L=>?_) fun e H7 L=>?_
 ·rw[if_pos e] at hp
  simp only[go_sem]
  refine L.bu 0 rfl (by simp) rfl fun H8 L=>?_
  simp only[go_sem]
  have c:=L.cell 0 rfl
  simp only[go_sem,c]
  refine L.ae 2 rfl rfl (ax (t:=[]) rfl) fun HZ L=>?_
  have c:=L.cell 2 rfl
  simp only[go_sem,c]
  exact L.fin hp (.inr ⟨rfl,rfl⟩)
 rw[if_neg (nb e)] at hp
 simp only[go_sem]
 refine bO hs L [115,101,116] (fun e H7 L=>?_) fun e H7 L=>?_
 ·rw[if_pos e] at hp
  simp only[go_sem]
  refine qy.Uz hs L hp fun ns a cw gb r H8 L hp _=>?_
  simp only[go_sem]
  refine L.bu 1 rfl (by simp) rfl fun HA L=>?_
  simp only[go_sem]
  refine L.bu 1 rfl (by simp) rfl fun HB L=>?_
  have L:=L.nt 0 ns rfl
  simp only[go_sem]
  have c:=L.cell 0 rfl
  simp only[go_sem,c]
  refine L.ae 2 rfl rfl (ax (t:=[]) rfl) fun HZ L=>?_
  have c:=L.cell 2 rfl
  simp only[go_sem,c]
  exact L.fin hp (.inl (by simp))
 rw[if_neg (nb e)] at hp
 simp only[go_sem]
 refine bO hs L [102,108,97,116] (fun e H7 L=>?_) fun e H7 L=>?_
 ·rw[if_pos e] at hp
  simp only[go_sem]
  refine qy.Uz hs L hp fun ns a cw gb r H8 L hp _=>?_
  simp only[go_sem]
  refine L.bu 1 rfl (by simp) rfl fun HA L=>?_
  simp only[go_sem]
  refine L.bu 1 rfl (by simp) rfl fun HB L=>?_
  have L:=L.nt 0 ns rfl
  simp only[go_sem]
  have c:=L.cell 0 rfl
  simp only[go_sem,c]
  refine L.ae 2 rfl rfl (ax (t:=[]) rfl) fun HZ L=>?_
  have c:=L.cell 2 rfl
  simp only[go_sem,c]
  exact L.fin hp (.inl (by simp))
 rw[if_neg (nb e)] at hp
 simp only[go_sem]
 refine B4 L [109,97,112] fun H7 L=>?_
 cases e:aY [109,97,112] ts with
 | true=>
   rw[if_pos e] at hp
   simp only[go_sem]
   refine nU (lo:=dW) hs L KD KE hp fun j x H8 hj hx L _ hp=>?_
   cases hx
   simp only[go_sem]
   have hlen:=L.len
   refine qy.Uz hs L hp fun ns a cw gb r H8 L hp he=>?_
   have KF:=As he
   have p8:=aho.2 L.ps.nil
   simp only[go_sem]
   refine L.bu 1 rfl (by simp) rfl fun HA L=>?_
   simp only[go_sem]
   refine L.bu 1 rfl (by simp) rfl fun HB L=>?_
   have c:=L.cell 1 rfl
   simp only[go_sem,c]
   refine (UB j hj).goN hs L hp fun kk tt nn aa ks kv r H9 L hp _=>?_
   have c:=L.cell 1 rfl
   simp only[go_sem,c]
   refine L.bc fun b4 kb L=>?_
   have c:=L.cell 2 rfl
   simp only[go_sem,c]
   refine L.vh (ns:=ns) (ks:=ks) 0 rfl (by simp) (by omega) fun a c g' qx L=>?_
   simp only[go_sem]
   refine L.bu 1 rfl (by simp) rfl fun vg L=>?_
   have L:=L.nt 0 (ns ++ [.mk kk tt nn aa ks]) rfl
   simp only[go_sem]
   refine nS hs L hj hs.He fun _ tL L=>?_
   have c:=L.cell 0 rfl
   simp only[go_sem,c]
   refine L.ae 2 rfl rfl (ax (t:=[]) rfl) fun HZ L=>?_
   have c:=L.cell 2 rfl
   simp only[go_sem,c]
   exact L.fin hp (.inl (by simp))
 | false=>
 rw[if_neg (nb e)] at hp
 simp only[go_sem]
 refine bO hs L [109,97,120] (fun e H7 L=>?_) fun e H7 L=>?_
 ·rw[if_pos e] at hp
  simp only[go_sem]
  refine Ey (by kernel_rfl) mC hs L hp fun ns a cw gb r H8 L hp=>?_
  simp only[go_sem]
  refine L.bu 1 rfl (by simp) rfl fun HA L=>?_
  simp only[go_sem]
  refine L.bu 1 rfl (by simp) rfl fun HB L=>?_
  have L:=L.nt 0 ns rfl
  simp only[go_sem]
  have c:=L.cell 0 rfl
  simp only[go_sem,c]
  refine L.ae 2 rfl rfl (ax (t:=[]) rfl) fun HZ L=>?_
  have c:=L.cell 2 rfl
  simp only[go_sem,c]
  exact L.fin hp (.inl (by simp))
 rw[if_neg (nb e)] at hp
 simp only[go_sem]
 refine bO hs L [109,105,110] (fun e H7 L=>?_) fun e H7 L=>?_
 ·rw[if_pos e] at hp
  simp only[go_sem]
  refine Ey (by kernel_rfl) mC hs L hp fun ns a cw gb r H8 L hp=>?_
  simp only[go_sem]
  refine L.bu 1 rfl (by simp) rfl fun HA L=>?_
  simp only[go_sem]
  refine L.bu 1 rfl (by simp) rfl fun HB L=>?_
  have L:=L.nt 0 ns rfl
  simp only[go_sem]
  have c:=L.cell 0 rfl
  simp only[go_sem,c]
  refine L.ae 2 rfl rfl (ax (t:=[]) rfl) fun HZ L=>?_
  have c:=L.cell 2 rfl
  simp only[go_sem,c]
  exact L.fin hp (.inl (by simp))
 rw[if_neg (nb e)] at hp
 simp only[go_sem]
 refine B4 L [108,101,120] fun H7 L=>?_
 cases e:aY [108,101,120] ts with
 | true=>
   rw[if_pos e] at hp
   simp only[go_sem]
   refine nU (lo:=dW) hs L KD KE hp fun j x H8 hj hx L _ hp=>?_
   cases hx
   simp only[go_sem]
   refine Ey (by kernel_rfl) (UB j hj) hs L hp fun ns a cw gb r H8 L hp=>?_
   simp only[go_sem]
   refine L.bu 1 rfl (by simp) rfl fun HA L=>?_
   simp only[go_sem]
   refine L.bu 1 rfl (by simp) rfl fun HB L=>?_
   have L:=L.nt 0 ns rfl
   simp only[go_sem]
   refine nS hs L hj hs.He fun _ tL L=>?_
   have c:=L.cell 0 rfl
   simp only[go_sem,c]
   refine L.ae 2 rfl rfl (ax (t:=[]) rfl) fun HZ L=>?_
   have c:=L.cell 2 rfl
   simp only[go_sem,c]
   exact L.fin hp (.inl (by simp))
 | false=>
 rw[if_neg (nb e)] at hp
 simp only[go_sem]
 refine B4 L [123] fun H7 L=>?_
 cases e:aY [123] ts with
 | true=>
   rw[if_pos e] at hp
   simp only[go_sem]
   refine nU (lo:=dW) hs L KD KE hp fun j x H8 hj hx L _ hp=>?_
   cases hx
   have hlen:=L.len
   have Br:=FM (rR j)
   have L:=L.B3 24 5
   obtain ⟨js,B8⟩:∃ cur,cur=ts.tail:=⟨_,rfl⟩
   rw[← B8] at L hp hlen
   have hp:bV (dW k) ts=bd (lM (gX j) (js.length + 1) []) (fun l=>bd (aU [125]) fun _=>ret (.mk 15 [] 0 (hd ts).at_ l)) js:=by
    rw[hp]
    have e:kR (gX j) js=bd (lM (gX j) (js.length + 1) []) (fun l=>bd (aU [125]) fun _=>ret l) js:=rfl
    unfold bd at e ⊢
    rw[e]
    cases lM (gX j) (js.length + 1) [] js with
    | error e=>rfl
    | ok x=>
      simp only
      cases aU [125] x.2 <;> rfl
   simp only[go_sem]
   refine L.bu 1 rfl (by simp) rfl fun H9 L=>?_
   simp only[go_sem]
   refine bC (fun (s:Bool × List Tk × List Nd × Value) H'=>∃ g f,iQ X H s.2.1 j H' [.row 24 5 s.2.2.2 (s.2.2.1.map Nd.fD) g,.dz b3 24 [.int .i64 15,sv [],.int .i64 0,.int .i64 (hd ts).at_,s.2.2.2],.dz b2 58 (jD (hd ts)),.dz b1 24 [.int .i64 0,sv [],.int .i64 0,.int .i64 0,.slice none 0 0]] []∧(∃ a n c,s.2.2.2= .slice a n c)∧
    (s.1=true→bV (dW k) ts=bd (lM (gX j) (f + 1) s.2.2.1) (fun l=>bd (aU [125]) fun _=>ret (.mk 15 [] 0 (hd ts).at_ l)) s.2.1∧s.2.1.length≤f∧s.2.2.1.length + s.2.1.length≤1048576)∧
    (s.1=false→bV (dW k) ts=bd (aU [125]) (fun _=>ret (Nd.mk 15 [] 0 (hd ts).at_ s.2.2.1)) s.2.1))
    (fun s=>[(0,ptr X.b),(2,.pointer (some ⟨b1,0,none⟩)),(3,.pointer (some ⟨b2,0,none⟩)),(4,.pointer (some ⟨b3,0,none⟩)),(5,.bool s.1)]) (fun s=>if s.1 then s.2.1.length + 1 else 0) (true,js,[],.slice none 0 0) ?_ ?_ ?_
   ·exact ⟨none,js.length,L,⟨_,_,_,rfl⟩,fun _=>⟨hp,afJ _,by simp; omega⟩,fun h=>by cases h⟩
   ·simp only[go_sem,ptr]
   ·rintro ⟨more,cur,ns,v⟩ kb ⟨g,f,L,⟨va,vn,vc,hv⟩,hT,hF⟩
    simp only at L hT hF hv ⊢
    subst hv
    cases more with
    | false=>
      have hp:=hF rfl
      simp only[go_sem]
      refine (bj [125]).go hs L hp fun _ r v qx L hp _ _=>?_
      simp only[go_sem]
      refine nS hs L hj hs.He fun _ vg L=>?_
      have L:=L.nt 0 ns rfl
      have c:=L.cell 0 rfl
      simp only[go_sem,c]
      refine L.ae 2 rfl rfl (ax (L.one (ks:=ns) (by simp))) fun HZ L=>?_
      have c:=L.cell 2 rfl
      simp only[go_sem,c]
      exact L.fin hp (.inl (by simp))
    | true=>
      obtain ⟨hp,hf,hle⟩:=hT rfl
      have qw:=aho.2 L.ps.nil
      have hp:bV (dW k) ts=bd (vi (gX j)) (fun m=>bd (fun ts=>if aY [44] ts then lM (gX j) f (ns ++ [m]) ts.tail else .ok (ns ++ [m],ts)) (fun l=>bd (aU [125]) fun _=>ret (.mk 15 [] 0 (hd ts).at_ l))) cur:=by
       rw[hp]; simp only[lM,jw]
      rw[OD,jw] at hp
      simp only[go_sem]
      refine (nQ 22).goN hs L hp fun kk tt nn aa ks kv r1 qx L hp he=>?_
      have Uw:=(oK 22).of he
      simp only[jw] at hp
      simp only[go_sem]
      refine L.aS fun b4 vg L=>?_
      simp only[go_sem]
      refine L.ae 0 rfl rfl (ax (L.one (ks:=ks) (by simp))) fun tL L=>?_
      simp only[go_sem]
      refine (bj [58]).go hs L hp fun _ r2 v Q3 L hp he _=>?_
      have N5:=(bG _).of he
      rw[jw] at hp
      simp only[go_sem]
      refine (UB j hj).goN hs L hp fun OA OB OC Bf iK Wd r3 Om L hp he=>?_
      have aeX:=(rR j).of he
      simp only[go_sem]
      refine L.bc fun b5 Wh L=>?_
      have L:=L.B5 (ks:=iK) (by simp)
      have L:=L.nt 0 [.mk OA OB OC Bf iK] rfl
      simp only[go_sem]
      refine L.bu 0 rfl (by simp) rfl fun Wi L=>?_
      have c:=L.cell 2 rfl
      have c':=L.cell 0 rfl
      simp only[go_sem,c,c']
      refine L.bc fun b6 H18 L=>?_
      simp only[go_sem]
      refine L.vh (ns:=ns) (ks:=[.mk OA OB OC Bf iK]) 1 rfl (by simp) (by have:=aho.2 L.ps.nil; omega) fun a c g' H19 L=>?_
      simp only[go_sem]
      refine L.bu 2 rfl (by simp) rfl fun H20 L=>?_
      have wT:=aho.2 L.ps.nil
      simp only[go_sem]
      refine wJ hs L [44] fun H21 L=>?_
      have L:=L.drop (l':=[_,_,_,_]) (List.sublist_cons_self _ _) (ds':=[]) (by simp)
      simp only[go_sem]
      refine aj (aY [44] r3,(if aY [44] r3 then r3.tail else r3),ns ++ [.mk kk tt nn aa [.mk OA OB OC Bf iK]],.slice a (ns ++ [Nd.mk kk tt nn aa [.mk OA OB OC Bf iK]]).length c) ?_ ?_ ⟨g',f - 1,L,⟨_,_,_,rfl⟩,fun h=>?_,fun h=>?_⟩
      ·cases e4:aY [44] r3 with
       | false=>show 0 < cur.length + 1; omega
       | true=>
         show r3.tail.length + 1 < cur.length + 1
         rw[ah9]; omega
      ·simp only[go_sem]
      ·simp only at h
       rw[h] at L ⊢
       simp only[if_true] at L ⊢
       have yF:=aho.2 L.ps.nil
       rw[ah9] at yF
       refine ⟨?_,by rw[ah9]; omega,by simp only[ah1,afK,aht,ah9]; omega⟩
       rw[hp,show f - 1 + 1=f by omega]
       conv=>lhs; unfold bd ret
       simp only[h,if_true]; rfl
      ·simp only at h
       rw[h]
       rw[hp]
       conv=>lhs; unfold bd ret
       simp only[h,ae6,if_false]; rfl
 | false=>
 rw[if_neg (nb e)] at hp
 simp only[go_sem]
 refine bO hs L [99,108,111,115,101,100] (fun e H7 L=>?_) fun e H7 L=>?_
 ·rw[if_pos e] at hp
  simp only[go_sem]
  refine Hj.Uz hs L hp fun ns a cw gb r H8 L hp _=>?_
  simp only[go_sem]
  refine L.bu 1 rfl (by simp) rfl fun HA L=>?_
  simp only[go_sem]
  refine L.bu 1 rfl (by simp) rfl fun HB L=>?_
  have L:=L.nt 0 ns rfl
  simp only[go_sem]
  have c:=L.cell 0 rfl
  simp only[go_sem,c]
  refine L.ae 2 rfl rfl (ax (t:=[]) rfl) fun HZ L=>?_
  have c:=L.cell 2 rfl
  simp only[go_sem,c]
  exact L.fin hp (.inl (by simp))
 rw[if_neg (nb e)] at hp
 simp only[go_sem]
 exact rQ L hp
theorem Ez:∀ k:Nat,ij k 40 [] (bV (dW k)) jO:=by
 intro k
 induction k with
 | zero=>exact wS fun j hj=>by omega
 | succ k ih=>
   refine wS fun j hj=>?_
   obtain rfl:j=k:=by omega
   rw[fg]; exact ih
theorem At {s:Bs} {ts:List Tk} (h:aY s ts=true):0 < ts.length:=by
 cases ts with
 | nil=>exact absurd rfl (ag h)
 | cons t r=>simp
theorem oP {s:Bs} {ts r:List Tk} {a:Int} (h:aU s ts= .ok (a,r)):r.length < ts.length:=by
 unfold aU at h
 split at h
 ·rename_i e
  cases h
  have:=At e
  rw[ah9]; omega
 ·cases h
theorem lN {ts r:List Tk} {b:Bool} (h:dF ts= .ok (b,r)):r.length < ts.length:=by
 unfold dF at h
 split at h
 ·rename_i e
  cases h
  have:=At e
  rw[ah9]; omega
 ·unfold bd at h
  split at h
  ·cases h
  ·rename_i a q hq
   have:=oP hq
   simp only[ret,Except.ok.injEq,aff.injEq] at h
   rw[← h.2]; exact this
theorem Hk {k:Int} {ts r:List Tk} {a:Nd} (h:dn k ts= .ok (a,r)):r.length < ts.length:=by
 unfold dn bd at h
 split at h
 ·cases h
 ·rename_i t q hq
  obtain ⟨rfl,h2,rfl⟩:=wR hq
  have:=Ar h2 (by decide)
  simp only[ret,Except.ok.injEq,aff.injEq] at h
  rw[← h.2,ah9]; omega
theorem Cb {X:Cx} {H H1:Heap} {ts r:List Tk} {b b1:Nat} {ns:List Nd} {v:Value} {g:Option Nat} {K n aa:Int} {nm:Bs} {γ:Type} {P0:Except kc (γ × List Tk)} {G:List Nd→PP γ} {x3 x4 x5 x6 x7 x8 x9 Q6 Q7 Q8:Option Value} {Q:lF} {UC:List Value} (hs:Ps X H ts 64)
 (L:iQ X H r 64 H1 [.row 24 5 v (ns.map Nd.fD) g,.dz b 24 [.int .i64 K,sv nm,.int .i64 n,.int .i64 aa,v],.dz b1 24 UC] []) (hl:ns.length + 1≤1048576)
 (hp:P0=bd (aU [61]) (fun _=>bd (aJ (bp 64)) fun e=>G (ns ++ [e])) r)
 (hQ:∀ a c g' H' r' m,iQ X H r' 64 H' [.row 24 5 (.slice a (ns ++ [m]).length c) ((ns ++ [m]).map Nd.fD) g',.dz b 24 [.int .i64 K,sv nm,.int .i64 n,.int .i64 aa,.slice a (ns ++ [m]).length c],.dz b1 24 UC] []→P0=G (ns ++ [m]) r'→
  Q .yg [some (ptr X.b),some (.pointer (some ⟨b1,0,none⟩)),some (.pointer (some ⟨b,0,none⟩)),x3,x4,x5,x6,x7,x8,x9,Q6,Q7,Q8] H') :
 vc afI (II X H P0) DR [some (ptr X.b),some (.pointer (some ⟨b1,0,none⟩)),some (.pointer (some ⟨b,0,none⟩)),x3,x4,x5,x6,x7,x8,x9,Q6,Q7,Q8] H1 Q:=by
 rw[JD]
 simp only[go_sem]
 refine (bj [61]).go hs L hp fun _ r1 v H2 L hp he _=>?_
 have c:=L.cell 1 rfl
 simp only[go_sem,c]
 refine (Kv 64).1.goN hs L hp fun kk tt nn Bf ks kv r2 H3 L hp he=>?_
 have c:=L.cell 1 rfl
 simp only[go_sem,c]
 refine L.bc fun bA HA L=>?_
 have c:=L.cell 2 rfl
 simp only[go_sem,c]
 refine L.vh (ns:=ns) (ks:=ks) 0 rfl (by simp) hl fun a c g' HB L=>?_
 dsimp only[ahp,ahk]at L
 simp only[go_sem]
 refine L.bu 1 rfl (by simp) rfl fun HC L=>?_
 dsimp only[ahp,ahk]at L
 simp only[go_sem]
 exact hQ a c g' HC r2 _ (L.drop (ahx _) (by simp)) hp
theorem y4 {X:Cx} {H H1:Heap} {ts r:List Tk} {b b1:Nat} {K aa:Int} {nm:Bs} {γ:Type} {P0:Except kc (γ × List Tk)} {G:List Nd→Int→PP γ} {x3 x4 x5 x6 x7 x8 x9 Q6 Q7 Q8:Option Value} {Q:lF} {UC:List Value} (hs:Ps X H ts 64)
 (L:iQ X H r 64 H1 [.dz b 24 [.int .i64 K,sv nm,.int .i64 0,.int .i64 aa,.slice none 0 0],.dz b1 24 UC] [])
 (hp:P0=bd (aU [40]) (fun _=>bd (dY eA) fun ps=>bd (aU [111,110]) fun _=>bd (dn 48) fun o=>bd (if K=5 then bd (aU [58]) fun _=>eV else ret 0) fun n=>bd (aU [61]) fun _=>bd (aJ (bp 64)) fun e=>G (ps ++ [o] ++ [e]) n) r)
 (hQ:∀ a c g' H' r' ns n x3 x4 x5 x6 x7 x8 x9 Q6 Q7 Q8,iQ X H r' 64 H' [.row 24 5 (.slice a ns.length c) (ns.map Nd.fD) g',.dz b 24 [.int .i64 K,sv nm,.int .i64 n,.int .i64 aa,.slice a ns.length c],.dz b1 24 UC] []→P0=G ns n r'→
  Q .yg [some (ptr X.b),some (.pointer (some ⟨b1,0,none⟩)),some (.pointer (some ⟨b,0,none⟩)),x3,x4,x5,x6,x7,x8,x9,Q6,Q7,Q8] H') :
 vc afI (II X H P0) DS [some (ptr X.b),some (.pointer (some ⟨b1,0,none⟩)),some (.pointer (some ⟨b,0,none⟩)),x3,x4,x5,x6,x7,x8,x9,Q6,Q7,Q8] H1 Q:=by
 rw[JF]
 simp only[go_sem]
 refine (bj [40]).go hs L hp fun _ r1 v H2 L hp he _=>?_
 have hlen:=L.len
 obtain ⟨js,B8⟩:∃ cur,cur=r1:=⟨_,rfl⟩
 rw[← B8] at L hp hlen
 have L:=L.B3 24 5
 simp only[go_sem]
 refine wJ hs L [41] fun H3 L=>?_
 simp only[go_sem]
 refine bC (fun (s:Bool × List Tk × List Nd × (Option Addr × Nat)) H'=>∃ g f,iQ X H s.2.1 64 H' [.row 24 5 (.slice s.2.2.2.1 s.2.2.1.length s.2.2.2.2) (s.2.2.1.map Nd.fD) g,.dz b 24 [.int .i64 K,sv nm,.int .i64 0,.int .i64 aa,.slice s.2.2.2.1 s.2.2.1.length s.2.2.2.2],.dz b1 24 UC] []∧s.2.2.1.length + s.2.1.length≤1048576∧
  (s.1=true→P0=bd (fL eA f s.2.2.1) (fun ps=>bd (aU [111,110]) (fun _=>bd (dn 48) fun o=>bd (if K=5 then bd (aU [58]) fun _=>eV else ret 0) fun n=>bd (aU [61]) fun _=>bd (aJ (bp 64)) fun e=>G (ps ++ [o] ++ [e]) n)) s.2.1∧s.2.1.length≤f)∧
  (s.1=false→P0=bd (aU [111,110]) (fun _=>bd (dn 48) fun o=>bd (if K=5 then bd (aU [58]) fun _=>eV else ret 0) fun n=>bd (aU [61]) fun _=>bd (aJ (bp 64)) fun e=>G (s.2.2.1 ++ [o] ++ [e]) n) s.2.1))
  (fun s=>[(0,ptr X.b),(2,.pointer (some ⟨b1,0,none⟩)),(3,.pointer (some ⟨b,0,none⟩)),(4,.bool s.1)]) (fun s=>if s.1 then s.2.1.length + 1 else 0) (!(aY [41] js),(if aY [41] js then js.tail else js),[],(none,0)) ?_ ?_ ?_
 ·refine ⟨none,js.length,L,?_,fun h=>?_,fun h=>?_⟩
  ·simp only[aht,afT]
   split
   ·rw[ah9]; omega
   ·exact hlen
  ·have e:aY [41] js=false:=by simpa using h
   simp only[e,ae6,if_false]
   rw[hp]
   refine ⟨?_,afJ _⟩
   conv=>lhs; unfold bd dY
   simp only[e,ae6,if_false]; rfl
  ·have e:aY [41] js=true:=by simpa using h
   simp only[e,if_true]
   rw[hp]
   conv=>lhs; unfold bd dY
   simp only[e,if_true]; rfl
 ·simp only[go_sem,ptr]
 ·rintro ⟨more,cur,ns,va,vc⟩ H4 ⟨g,f,L,hle,hT,hF⟩
  simp only at L hT hF hle ⊢
  cases more with
  | false=>
    have hp:=hF rfl
    simp only[go_sem]
    refine (bj [111,110]).go hs L hp fun _ r1 v H5 L hp he _=>?_
    have yN:=oP he
    have c:=L.cell 1 rfl
    simp only[go_sem,c]
    refine (nQ 48).goN hs L hp fun kk tt nn Bf ks kv r2 H6 L hp he=>?_
    have yf:=Hk he
    have c:=L.cell 1 rfl
    simp only[go_sem,c]
    refine L.bc fun bA HA L=>?_
    have c:=L.cell 2 rfl
    simp only[go_sem,c]
    refine L.vh (ns:=ns) (ks:=ks) 0 rfl (by simp) (by omega) fun a c g' HB L=>?_
    dsimp only[ahp,ahk]at L
    simp only[go_sem]
    refine L.bu 1 rfl (by simp) rfl fun HC L=>?_
    dsimp only[ahp,ahk]at L
    have c:=L.cell 1 rfl
    have L:=L.drop (ahx _) (ds':=[]) (by simp)
    by_cases hK:K=5
    ·rw[if_pos hK,jw] at hp
     simp only[go_sem,c,hK]
     refine (bj [58]).go hs L hp fun _ r3 v H7 L hp he _=>?_
     have hl3:=oP he
     simp only[go_sem]
     refine FQ.go hs L hp fun n r4 v H8 L hp he hv=>?_
     have hl4:=rS.of he
     cases hv
     simp only[go_sem]
     refine L.bu 1 rfl (by simp) rfl fun H9 L=>?_
     dsimp only[ahp,ahk]at L
     simp only[go_sem]
     refine Cb (G:=fun l=>G l n) hs L (by simp; omega) hp fun a c g' H' r' m L hp=>?_
     exact hQ a c g' H' r' _ n _ _ _ _ _ _ _ _ _ _ L hp
    ·rw[if_neg hK] at hp
     replace hp:P0=bd (aU [61]) (fun _=>bd (aJ (bp 64)) fun e=>G (ns ++ [.mk kk tt nn Bf ks] ++ [e]) 0) r2:=hp
     simp only[go_sem,c,hK]
     refine Cb (G:=fun l=>G l 0) hs L (by simp; omega) hp fun a c g' H' r' m L hp=>?_
     exact hQ a c g' H' r' _ 0 _ _ _ _ _ _ _ _ _ _ L hp
  | true=>
    obtain ⟨hp,hf⟩:=hT rfl
    have qw:=aho.2 L.ps.nil
    obtain ⟨f,rfl⟩:∃ f',f=f' + 1:=⟨f - 1,by omega⟩
    simp only[fL,jw] at hp
    have c:=L.cell 1 rfl
    simp only[go_sem,c]
    refine Kz.goN hs L hp fun kk tt nn Bf ks kv r1 H5 L hp he=>?_
    have yN:=y0.of he
    rw[jw] at hp
    have c:=L.cell 1 rfl
    simp only[go_sem,c]
    refine L.bc fun bA HA L=>?_
    have c:=L.cell 2 rfl
    simp only[go_sem,c]
    refine L.vh (ns:=ns) (ks:=ks) 0 rfl (by simp) (by omega) fun a c g' HB L=>?_
    dsimp only[ahp,ahk]at L
    simp only[go_sem]
    refine L.bu 1 rfl (by simp) rfl fun HC L=>?_
    dsimp only[ahp,ahk]at L
    simp only[go_sem]
    refine B0.go hs L hp fun m r2 v HD L hp z6 hv=>?_
    cases hv
    have yf:=lN z6
    have L:=L.drop (ds':=[]) (ahx _) (by simp)
    simp only[go_sem]
    refine aj (m,r2,ns ++ [.mk kk tt nn Bf ks],(a,c)) ?_ ?_ ⟨g',f,L,?_,fun h=>?_,fun h=>?_⟩
    ·cases m
     ·show 0 < cur.length + 1
      omega
     ·show r2.length + 1 < cur.length + 1
      omega
    ·simp only[go_sem]
    ·simp only[ah1,afK,aht]; omega
    ·simp only at h; subst h
     exact ⟨hp,show r2.length≤f by omega⟩
    ·simp only at h; subst h
     exact hp
set_option maxHeartbeats 1000000 in
theorem wU:ij 64 36 [] eE jO:=by
 refine ⟨fun {X H ts} hs=>?_⟩
 refine aK (args:=[_]) Tryz.func36 X0 (ahi rfl) ?_
 have L:=hs.walk
 obtain ⟨hp,_⟩:eE ts=eE ts∧True:=⟨rfl,trivial⟩
 conv at hp=>rhs; unfold eE
 simp only[go_sem,c36]
 refine L.aS fun b1 H1 L=>?_
 simp only[go_sem]
 refine kQ L fun H2 L=>?_
 simp only[go_sem,jD]
 refine L.aS fun b H3 L=>?_
 simp only[go_sem]
 refine L.ae 0 rfl rfl (ax (t:=[]) rfl) fun H4 L=>?_
 dsimp only[ahp,ahk]at L
 simp only[go_sem]
 refine bO hs L [108,97,116,116,105,99,101] (fun e H5 L=>?_) fun e H5 L=>?_
 ·rw[if_pos e] at hp
  simp only[go_sem]
  refine L.bu 0 rfl (by simp) rfl fun H6 L=>?_
  dsimp only[ahp,ahk]at L
  simp only[go_sem]
  refine (iy 1 (by decide)).go hs L hp fun t r v H7 L hp _ hv=>?_
  cases hv
  simp only[go_sem,jD,sv]
  refine L.bu 0 rfl (by simp) rfl fun H8 L=>?_
  dsimp only[ahp,ahk]at L
  have c:=L.cell 0 rfl
  simp only[go_sem,c]
  refine (bj [61]).go hs L hp fun _ r v H9 L hp _ _=>?_
  simp only[go_sem]
  refine (fg 64 ▸ Ez 64).goN hs L hp fun kk tt nn aa ks kv r HA L hp _=>?_
  simp only[go_sem]
  refine L.bc fun b5 HB L=>?_
  have L:=L.B5 (ks:=ks) (by simp)
  have L:=L.nt 0 [.mk kk tt nn aa ks] rfl
  dsimp only[ahp,ahk]at L
  simp only[go_sem]
  refine L.bu 0 rfl (by simp) rfl fun HC L=>?_
  dsimp only[ahp,ahk]at L
  simp only[go_sem]
  refine (bj [59]).go hs L hp fun _ r v HD L hp _ _=>?_
  have c:=L.cell 0 rfl
  simp only[go_sem,c]
  refine L.ae 1 rfl rfl (ax rfl) fun HZ L=>?_
  dsimp only[ahp,ahk]at L
  have c:=L.cell 1 rfl
  simp only[go_sem,c]
  exact L.fin hp (.inl (by simp))
 rw[if_neg (nb e)] at hp
 simp only[go_sem]
 refine bO hs L [111,98,106,101,99,116] (fun e H5 L=>?_) fun e H5 L=>?_
 ·rw[if_pos e] at hp
  simp only[go_sem]
  refine L.bu 0 rfl (by simp) rfl fun H6 L=>?_
  dsimp only[ahp,ahk]at L
  simp only[go_sem]
  refine (iy 1 (by decide)).go hs L hp fun t r v H7 L hp _ hv=>?_
  cases hv
  simp only[go_sem,jD,sv]
  refine L.bu 0 rfl (by simp) rfl fun H8 L=>?_
  dsimp only[ahp,ahk]at L
  have c:=L.cell 0 rfl
  simp only[go_sem,c]
  refine (bj [58]).go hs L hp fun _ r v H9 L hp _ _=>?_
  simp only[go_sem]
  refine (fg 64 ▸ Ez 64).goN hs L hp fun kk tt nn aa ks kv r HA L hp _=>?_
  simp only[go_sem]
  refine L.bc fun b5 HB L=>?_
  have L:=L.B5 (ks:=ks) (by simp)
  have L:=L.nt 0 [.mk kk tt nn aa ks] rfl
  dsimp only[ahp,ahk]at L
  simp only[go_sem]
  refine L.bu 0 rfl (by simp) rfl fun HC L=>?_
  dsimp only[ahp,ahk]at L
  simp only[go_sem]
  refine (bj [59]).go hs L hp fun _ r v HD L hp _ _=>?_
  have c:=L.cell 0 rfl
  simp only[go_sem,c]
  refine L.ae 1 rfl rfl (ax rfl) fun HZ L=>?_
  dsimp only[ahp,ahk]at L
  have c:=L.cell 1 rfl
  simp only[go_sem,c]
  exact L.fin hp (.inl (by simp))
 rw[if_neg (nb e)] at hp
 simp only[go_sem]
 refine bO hs L [117,112,100,97,116,101] (fun e H5 L=>?_) fun e H5 L=>?_
 ·rw[if_pos e] at hp
  simp only[go_sem]
  refine L.bu 0 rfl (by simp) rfl fun H6 L=>?_
  dsimp only[ahp,ahk]at L
  simp only[go_sem]
  refine (iy 1 (by decide)).go hs L hp fun t r v H7 L hp _ hv=>?_
  cases hv
  simp only[go_sem,jD,sv]
  refine L.bu 0 rfl (by simp) rfl fun H8 L=>?_
  dsimp only[ahp,ahk]at L
  have c:=L.cell 0 rfl
  simp only[go_sem,c]
  refine y4 (nm:=t.text) (G:=fun l n=>bd (aU [59]) fun _=>ret (.mk 4 t.text n (hd ts).at_ l)) hs L hp fun a c g' H' r' ns n x3 x4 x5 x6 x7 x8 x9 Q6 Q7 Q8 L hp=>?_
  simp only[go_sem]
  refine (bj [59]).go hs L hp fun _ r v HD L hp _ _=>?_
  have L:=L.nt 0 ns rfl
  dsimp only[ahp,ahk]at L
  have c:=L.cell 0 rfl
  simp only[go_sem,c]
  refine L.ae 1 rfl rfl (ax rfl) fun HZ L=>?_
  dsimp only[ahp,ahk]at L
  have c:=L.cell 1 rfl
  simp only[go_sem,c]
  exact L.fin hp (.inl (by simp))
 rw[if_neg (nb e)] at hp
 simp only[go_sem]
 refine bO hs L [113,117,101,114,121] (fun e H5 L=>?_) fun e H5 L=>?_
 ·rw[if_pos e] at hp
  simp only[go_sem]
  refine L.bu 0 rfl (by simp) rfl fun H6 L=>?_
  dsimp only[ahp,ahk]at L
  simp only[go_sem]
  refine (iy 1 (by decide)).go hs L hp fun t r v H7 L hp _ hv=>?_
  cases hv
  simp only[go_sem,jD,sv]
  refine L.bu 0 rfl (by simp) rfl fun H8 L=>?_
  dsimp only[ahp,ahk]at L
  have c:=L.cell 0 rfl
  simp only[go_sem,c]
  refine y4 (nm:=t.text) (G:=fun l n=>bd (aU [59]) fun _=>ret (.mk 5 t.text n (hd ts).at_ l)) hs L hp fun a c g' H' r' ns n x3 x4 x5 x6 x7 x8 x9 Q6 Q7 Q8 L hp=>?_
  simp only[go_sem]
  refine (bj [59]).go hs L hp fun _ r v HD L hp _ _=>?_
  have L:=L.nt 0 ns rfl
  dsimp only[ahp,ahk]at L
  have c:=L.cell 0 rfl
  simp only[go_sem,c]
  refine L.ae 1 rfl rfl (ax rfl) fun HZ L=>?_
  dsimp only[ahp,ahk]at L
  have c:=L.cell 1 rfl
  simp only[go_sem,c]
  exact L.fin hp (.inl (by simp))
 rw[if_neg (nb e)] at hp
 simp only[go_sem]
 exact rQ L hp
theorem FR {α β:Type} {p:PP α} {f g:α→PP β} {ts:List Tk} (h:∀ a r,p ts= .ok (a,r)→f a r=g a r):bd p f ts=bd p g ts:=by
 unfold bd
 split
 ·rfl
 ·exact h _ _ (by assumption)
theorem Q9 {ts:List Tk} {k:Int} (h:(hd ts).kind=k) (hk:k≠6):ts.tail.length < ts.length:=by
 have:=Ar h hk
 rw[ah9]; omega
theorem gE {ts:List Tk} {s:Bs} (h:aY s ts=true):ts.tail.length < ts.length:=by
 have:=At h
 rw[ah9]; omega
theorem y5 {ts r:List Tk} {n:Nd} (h:ey ts= .ok (n,r)):r.length < ts.length:=by
 obtain ⟨_,h2,rfl⟩:=tO h
 exact Q9 h2 (by decide)
theorem rT {k:Int} (hk:k≠6) {ts r:List Tk} {t:Tk} (h:cK k ts= .ok (t,r)):r.length < ts.length:=by
 obtain ⟨rfl,h2,rfl⟩:=wR h
 exact Q9 h2 hk
theorem ep {kd:Kd} {ts:List Tk} (h:fE kd ts=true):aY (hd ts).text ts=true:=by
 unfold fE at h
 rw[ae5] at h
 exact h.2
theorem uN {op:PP Nd} {kd:Kd} (jX:Dn op):∀ (f g:Nat) (n:Nd) (ts:List Tk),ts.length≤f→ts.length≤g→cP op kd f n ts=cP op kd g n ts
 | 0,0,n,ts,_,_=>rfl
 | 0,g + 1,n,ts,hf,hg=>by
   have:ts=[]:=afL (by omega)
   subst this
   simp[cP,fE,aY,hd,ret]
 | f + 1,0,n,ts,hf,hg=>by
   have:ts=[]:=afL (by omega)
   subst this
   simp[cP,fE,aY,hd,ret]
 | f + 1,g + 1,n,ts,hf,hg=>by
   simp only[cP]
   split
   ·rename_i e
    have:=gE (ep e)
    exact FR fun q r hq=>by have:=jX.of hq; exact uN jX f g _ r (by omega) (by omega)
   ·rfl
theorem mG {lo:Lo} (hl:tJ lo):∀ (f g:Nat) (n:Nd) (ts:List Tk),ts.length≤f→ts.length≤g→dC lo f n ts=dC lo g n ts
 | 0,0,n,ts,_,_=>rfl
 | 0,g + 1,n,ts,hf,hg=>by
   have:ts=[]:=afL (by omega)
   subst this
   simp[dC,aY,hd,ret]
 | f + 1,0,n,ts,hf,hg=>by
   have:ts=[]:=afL (by omega)
   subst this
   simp[dC,aY,hd,ret]
 | f + 1,g + 1,n,ts,hf,hg=>by
   simp only[dC]
   split
   ·rename_i e
    have:=gE e
    exact FR fun q r hq=>by have:=rT (by decide) hq; exact mG hl f g _ r (by omega) (by omega)
   ·split
    ·rename_i e
     have:=gE e
     unfold ea
     rw[if_pos e,if_pos e]
     split
     ·rfl
     ·rename_i x
      exact FR fun q r hq=>by
       have:=(hl x rfl).1.of hq
       exact FR fun q r hq=>by have:=oP hq; exact mG hl f g _ r (by omega) (by omega)
    ·rfl
def Lt {α:Type} (p:PP α):Prop:=∀ (ts r:List Tk) (a:α),p ts= .ok (a,r)→r.length < ts.length
theorem Lt.of {α:Type} {p:PP α} (h:Lt p) {ts r:List Tk} {a:α} (hp:p ts= .ok (a,r)):r.length < ts.length:=h _ _ _ hp
theorem Lt.aO {α β:Type} {p:PP α} {f:α→PP β} (h:Lt p) (hf:∀ a,Dn (f a)):Lt (bd p f):=by
 intro ts r b hb
 unfold bd at hb
 split at hb
 ·cases hb
 ·rename_i a q hq
  have:=h.of hq; have:=(hf a).of hb; omega
theorem Lt.lf {α β:Type} {p:PP α} {f:α→PP β} (h:Lt p) (hf:∀ a ts r b,f a ts= .ok (b,r)→r.length≤ts.length):Lt (bd p f):=h.aO fun a ts r b hb=>hf a ts r b hb
theorem Dn.lt {α:Type} {p:PP α} (h:Dn p) {ts r:List Tk} {a:α} {s:Bs} (e:aY s ts=true) (hp:p ts.tail= .ok (a,r)):r.length < ts.length:=by
 have:=h.of hp; have:=gE e; omega
theorem lO {k:Int} (hk:k≠6):Lt (cK k):=fun _ _ _ h=>rT hk h
theorem vw {α β:Type} {lo:Option β} {s:Bs} {body:β→PP α} (h:∀ x,lo=some x→Dn (body x)):Lt (ea lo s body):=by
 intro ts r b hb
 unfold ea at hb
 split at hb
 ·rename_i e
  split at hb
  ·cases hb
  ·rename_i x
   exact Dn.lt (h x rfl) e hb
 ·cases hb
theorem OE:Lt ig:=by
 intro ts r b h
 unfold ig at h
 split at h
 ·rename_i e
  exact Dn.lt ((eR 3).aO fun _=>Dn.ret _) e h
 ·exact Lt.of ((lO (by decide)).aO fun _=>Dn.ret _) h
theorem Hl (k:Int):Lt (dn k):=(lO (by decide)).aO fun _=>Dn.ret _
theorem Hm:Lt ey:=(lO (by decide)).aO fun _=>Dn.ret _
section
variable {lo:Lo} (hl:tJ lo)
include hl
theorem KG:Lt (dZ lo):=by
 intro ts r b hb
 unfold dZ at hb
 split at hb
 ·exact OE.of hb
 split at hb
 ·exact Hm.of hb
 split at hb
 ·exact (Hl _).of hb
 split at hb
 ·rename_i e; cases hb; exact gE e
 split at hb
 ·rename_i e; cases hb; exact gE e
 split at hb
 ·rename_i e; cases hb; exact gE e
 split at hb
 ·rename_i e; cases hb; exact gE e
 split at hb
 ·exact Lt.of (vw fun x hx=>(hl x hx).1.aO fun _=>(bG _).aO fun _=>Dn.ret _) hb
 split at hb
 ·have:=Lt.of (vw fun x hx=>(wD (Ak (hl x hx).1 _)).aO fun _=>Dn.ret _) hb
  have:=fe ts
  omega
 ·cases hb
theorem KH:Lt (kN lo):=(KG hl).lf fun n ts r b hb=>(rG hl _ n).of hb
theorem OG:Lt (wB lo):=(KH hl).lf fun n ts r b hb=>(jN (lL hl) _ n).of hb
theorem KI:Lt (ke lo):=(OG hl).lf fun n ts r b hb=>(jN (oM hl) _ n).of hb
theorem OH:Lt (nq lo):=(KI hl).lf fun n ts r b hb=>by
 split at hb
 ·exact Dn.tl ((wE hl).aO fun _=>Dn.ret _) hb
 ·cases hb; exact afJ _
theorem FT:Lt (fX lo):=by
 intro ts r b hb
 unfold fX at hb
 split at hb
 ·exact Lt.of (vw fun x hx=>(hl x hx).2.aO fun _=>Dn.ret _) hb
 ·exact (OH hl).of hb
theorem OI:Lt (wC lo):=(FT hl).lf fun n ts r b hb=>(jN (kP hl) _ n).of hb
theorem UD:Lt (Kc lo):=(OI hl).lf fun n ts r b hb=>(jN (oO hl) _ n).of hb
theorem Cc:Lt (aJ lo):=by
 intro ts r b hb
 unfold aJ at hb
 split at hb
 ·exact Lt.of (vw fun x hx=>(hl x hx).1.aO fun _=>(bG _).aO fun _=>(hl x hx).1.aO fun _=>(bG _).aO fun _=>(hl x hx).1.aO fun _=>Dn.ret _) hb
 ·exact (UD hl).of hb
end
theorem UE (k:Nat):Lt (mB k).1∧Lt (mB k).2:=by
 rw[qv]
 exact ⟨Cc (dG k),FT (dG k)⟩
theorem Au {e:PP Nd} (he:Lt e) (hd:Dn e) (fn:Bs):Lt (gD e fn):=by
 intro ts r b hb
 unfold gD at hb
 split at hb
 ·exact Lt.of ((lO (by decide)).aO fun t=>(bG _).aO fun _=>hd.aO fun _=>Dn.ret _) hb
 ·split at hb
  ·exact Lt.of (he.aO fun t=>(bG _).aO fun _=>hd.aO fun _=>Dn.ret _) hb
  ·exact he.of hb
theorem tP:Lt eA:=(lO (by decide)).aO fun _=>(bG _).aO fun _=>rS.aO fun _=>Dn.ret _
theorem Av {x:PP Nd} (h:Dn x):Lt (vi x):=(lO (by decide)).aO fun _=>(bG _).aO fun _=>h.aO fun _=>Dn.ret _
theorem Cd:∀ (f:Nat) (s:Bs) (o:Nat) (T:List Tk),j8 f s o= .ok T→T.length≤f∧T≠[]∧∀ i t r,T.drop i=t :: r→t.kind≠6→r≠[]
 | 0,s,o,T,h=>by simp[j8] at h
 | f + 1,s,o,T,h=>by
   unfold j8 at h
   split at h
   ·cases h
   ·split at h
    ·rename_i k t n m _ hk
     cases h
     refine ⟨by simp,by simp,fun i t' r hi hn=>?_⟩
     cases i with
     | zero=>simp only[aic,List.cons.injEq] at hi; obtain ⟨rfl,rfl⟩:=hi; exact absurd hk hn
     | succ i=>simp at hi
    ·rename_i k t n m _ hk
     cases e:j8 f (s.drop (ew false s + m)) (o + ew false s + m) with
     | bad c j=>rw[e] at h; cases h
     | ok T'=>
       rw[e] at h
       simp only[LR.cons,LR.ok.injEq] at h
       subst h
       obtain ⟨h1,h2,h3⟩:=Cd f _ _ _ e
       refine ⟨by simp; omega,by simp,fun i t' r hi hn=>?_⟩
       cases i with
       | zero=>simp only[aic,List.cons.injEq] at hi; obtain ⟨rfl,rfl⟩:=hi; exact h2
       | succ i=>exact h3 i t' r (by simpa using hi) hn
theorem Ce {s:Bs} {T:List Tk} (h:jb s= .ok T):T.length≤65537∧T≠[]∧∀ i t r,T.drop i=t :: r→t.kind≠6→r≠[]:=by
 unfold jb at h
 split at h
 ·cases h
 ·unfold Ae at h
  obtain ⟨h1,h2,h3⟩:=Cd _ _ _ _ h
  exact ⟨by omega,h2,h3⟩
theorem Cf:∀ (f:Nat) (s:Bs) (o:Nat) (c:Int) (k:Nat),s.length < f→j8 f s o= .bad c k→c≠0
 | 0,s,o,c,k,hl,h=>by omega
 | f + 1,s,o,c,k,hl,h=>by
   unfold j8 at h
   split at h
   ·rename_i e he
    cases h
    exact rF he
   ·rename_i kd t n m he
    split at h
    ·cases h
    ·rename_i hk
     cases e:j8 f (s.drop (ew false s + m)) (o + ew false s + m) with
     | ok T'=>rw[e] at h; cases h
     | bad c' j=>
       rw[e] at h
       simp only[LR.cons,LR.bad.injEq] at h
       obtain ⟨rfl,rfl⟩:=h
       refine Cf f _ _ _ _ ?_ e
       obtain ⟨h1,h2,h3⟩:=ka he
       have dH:s.drop (ew false s)≠[]:=fun q=>hk (h3 q)
       have:=(h2 dH).1
       have h5:=aho.2 dH
       simp only[ahs] at h1 h5 ⊢
       omega
theorem KJ {s:Bs} {c:Int} {k:Nat} (h:jb s= .bad c k):c≠0:=by
 unfold jb at h
 split at h
 ·cases h; decide
 ·exact Cf _ _ _ _ _ (by simp) h
def dr (p:PP Nd) (s:Bs):Except kc Nd:=match jb s with
 | .bad c k=>.error (c,k)
 | .ok T=>mF p T
def je:List Value:=[.int .i64 0,sv [],.int .i64 0,.int .i64 0,.slice none 0 0]
def jf (R:Except kc Nd) (v:Value) (H H':Heap):Prop:=match R with
 | .error e=>v= .tuple #[.agg je.toArray,.agg #[.int .i64 e.1,.int .i64 e.2]]
 | .ok n=>∃ cs,v= .tuple #[.agg cs.toArray,.agg #[.int .i64 0,.int .i64 0]]∧aD H' (fun x=>x < H.size) n.fD cs
theorem Ps.keep {X:Cx} {H H':Heap} {ts:List Tk} {k:Nat} {M:List Nat} (h:Ps X H ts k) (hf:Fr M H H') (hb:X.b ∉ M) (ha:∀ b o,X.a=some ⟨b,o,none⟩→b ∉ M):Ps X H' ts k:=by
 obtain ⟨i,h1,h2,h3⟩:=h.ex
 exact ⟨⟨i,h1.fr hf hb,h2,h3⟩,h.row.fr hf ha,h.ne,h.He,h.cap,h.fin⟩
def pP (x:Nat):Value:=.pointer (some ⟨x,0,none⟩)
theorem OJ {x y:Nat} (H:Heap):gp afI 52 #[pP x,pP y] .returning .returning H fun nA=>nA=H:=by
 refine p5 (args:=[_,_]) (u:=.returning) (m:=.returning) (v:=.nilIface) Tryz.func52 QI (ahi rfl) rfl ?_
 simp only[go_sem,c52,Tl,cD,posOf,eh]
theorem Ho {H:Heap} {x y:Nat} {xs ys:List Value} {e:kc} (hx:eg H x 31 xs) (NV:xs.length=2) (hy:eg H y 24 ys) (hyl:ys.length=5) (hxy:x≠y) :
 gp afI 52 #[pP x,pP y] (.panicking (Oh e)) .returning H fun nA=>eg nA x 31 [.int .i64 e.1,.int .i64 e.2]∧eg nA y 24 je∧Fr [x,y] H nA:=by
 refine p5 (args:=[_,_]) (u:=.panicking (Oh e)) (m:=.panicking [{ v:=.iface 31 (.agg #[.int .i64 e.1,.int .i64 e.2]),recovered:=true }]) (v:=.iface 31 (.agg #[.int .i64 e.1,.int .i64 e.2])) Tryz.func52 QI (ahi rfl) rfl ?_
 simp only[go_sem,c52,Tl,pP,cD,posOf,eh]
 refine aC hx (by simp[NV]) (by simp[ah3]) fun H1 J6 bY gK=>?_
 have hy1:=hy.fr bY (by simp; omega)
 simp only[go_sem]
 refine aC hy1 (by simp[hyl]) (by simp[ah3,sv]) fun H2 hy2 cQ jl=>?_
 have D8:=J6.fr cQ (by simp; omega)
 simp only[go_sem]
 exact ⟨D8,hy2,(bY.mono (by simp)).trans (cQ.mono (by simp))⟩
set_option maxHeartbeats 1000000 in
theorem Aw {g:Nat} {p:PP Nd} (hg:dV afI g=true) (jX:ij 64 g [] p jO) (s:Bs) (hl:s.length≤maxLen) {H:Heap} (hG:bS H) :
 aE afI 26 #[sv s,.func (.func g) #[] #[]] H fun v H'=>jf (dr p s) v H H'∧Fr [] H H':=by
 refine vb (args:=[_,_]) Tryz.func26 YN (ahi rfl) ?_
 have L:Lv [] H [] (fun _=>True) H [] []:=Lv.start (by simp) (fun _ _ _ _=>trivial)
 simp only[go_sem,c26,YL]
 refine L.aS fun b1 H1 L=>?_
 simp only[go_sem]
 refine L.aS fun b2 H2 L=>?_
 simp only[go_sem]
 refine (TV s hl (hG.ext L.fr)).mono ?_
 rintro r H3 ⟨hr,dE⟩
 have L:=L.ext dE
 cases Hp:jb s with
 | bad c k=>
   rw[Hp] at hr
   simp only[TU] at hr
   subst hr
   have hc:=KJ Hp
   have rr:dr p s= .error (c,k):=by unfold dr; rw[Hp]
   rw[rr]
   simp only[go_sem,Wb]
   refine L.aS fun b3 H4 L=>?_
   simp only[go_sem]
   refine L.ae 0 rfl rfl (by simp[ah3]) fun H5 L=>?_
   dsimp only[ahp,ahk]at L
   have c0:=L.cell 0 rfl
   have c1:=L.cell 1 rfl
   have c2:=L.cell 2 rfl
   simp only[go_sem,c0,hc]
   refine L.ae 2 rfl rfl (by simp[ah3,sv]) fun H6 L=>?_
   dsimp only[ahp,ahk]at L
   have c0:=L.cell 0 rfl
   simp only[go_sem,c0]
   refine L.ae 1 rfl rfl (by simp[ah3]) fun H7 L=>?_
   dsimp only[ahp,ahk]at L
   have c1:=L.cell 1 rfl
   have c2:=L.cell 2 rfl
   simp only[go_sem,c1,c2,YG]
   exact ⟨by simp[jf,je,sv],L.fr⟩
 | ok T=>
   rw[Hp] at hr
   simp only[TU] at hr
   obtain ⟨a,cT,rfl,aeL,aeM,fm⟩:=hr
   have rr:dr p s=mF p T:=by unfold dr; rw[Hp]
   rw[rr]
   obtain ⟨hT1,hT2,hT3⟩:=Ce Hp
   simp only[go_sem,Wb]
   obtain ⟨rb,ro,ha,NY⟩:=gn.get fm Ad (T.length - 1) (by have:=aho.2 hT2; omega) (by decide)
   have Eb:(T[T.length - 1]'(by have:=aho.2 hT2; omega)).kind=6:=by
    have ba:T.length - 1 < T.length:=by have:=aho.2 hT2; omega
    refine Decidable.byContradiction fun hn=>?_
    exact hT3 (T.length - 1) _ _ (List.drop_eq_getElem_cons ba) hn (List.drop_eq_nil_of_le (by omega))
   have h6:=NY 0 (by decide)
   rw[ahl] at h6
   simp only[jD,List.getElem?_cons_zero,Eb] at h6
   have Ux:rb≠b1:=by
    rintro rfl
    have c:=L.cell 1 rfl
    rw[c] at h6
    have:=afR h6
    simp[sv] at this
   have aeY:rb≠b2:=by
    rintro rfl
    have c:=L.cell 0 rfl
    rw[c] at h6
    have:=afR h6
    simp at this
   have aeZ:=j6 h6
   refine ay fun H4 yA iO tG=>?_
   have L:=L.push iO yA
   simp only[go_sem]
   refine aC yA rfl (by simp[ah3]) fun H5 np fP D9=>?_
   have L:=L.Na 0 rfl fP np
   dsimp only[ahp,ahk]at L
   have abb:gn jD H5 a T:=(fm.ext iO).fr fP fun b o e hm=>by
    rw[ha] at e; cases e
    simp only[aib] at hm
    omega
   have c:=L.cell 0 rfl
   simp only[go_sem,c]
   refine ay fun H6 gL fB BW=>?_
   have aaY:=iO.size
   have ae0:=fP.size
   have YI:=L.fr.size
   have qQ:Ps ⟨H5.size,a,cT,T⟩ H6 T 64:=⟨⟨0,gL,rfl,aho.2 hT2⟩,abb.ext fB,fun b o e=>by rw[ha] at e; cases e; show rb≠H5.size; omega,afJ _,by show T.length≤_; omega,hT3⟩
   obtain ⟨O,hO1,hO2,hO3⟩:∃ O:List Nat,H5.size ∈ O∧(∀ x ∈ O,x=H5.size∨(x=rb∧H.size≤rb))∧(H.size≤rb→rb ∈ O):=by
    by_cases q:H.size≤rb
    ·exact ⟨[H5.size,rb],by simp,fun x hx=>by simp at hx; rcases hx with h | h; exact .inl h; exact .inr ⟨h,q⟩,fun _=>by simp⟩
    ·exact ⟨[H5.size],by simp,fun x hx=>by simp at hx; exact .inl hx,fun h=>absurd h q⟩
   have abc:∀ {A:Heap} {ts:List Tk},Ps ⟨H5.size,a,cT,T⟩ A ts 64→∀ (M:List Nat) (B:Heap),Fr M A B→(∀ x ∈ M,H.size≤x∧x ∉ O)→Ps ⟨H5.size,a,cT,T⟩ B ts 64:=fun h M B hf hM=>by
    refine h.keep hf (fun hm=>(hM _ hm).2 hO1) fun b o e hm=>?_
    replace e:a=some ⟨b,o,none⟩:=e
    rw[ha] at e; cases e
    exact (hM _ hm).2 (hO3 (hM _ hm).1)
   have Wj:rb ∉ [dR.dz H3.size 31 [.int .i64 0,.int .i64 0],.dz b2 31 [.int .i64 0,.int .i64 0],.dz b1 24 [.int .i64 0,sv [],.int .i64 0,.int .i64 0,.slice none 0 0]].flatMap dR.bs:=by
    simp[dR.bs]; omega
   have L6:Lv [] H O (fun A=>Ps ⟨H5.size,a,cT,T⟩ A T 64) H6 [.dz H3.size 31 [.int .i64 0,.int .i64 0],.dz b2 31 [.int .i64 0,.int .i64 0],.dz b1 24 [.int .i64 0,sv [],.int .i64 0,.int .i64 0,.slice none 0 0]] []:=by
    have ad2:=fun x hx=>(L.lo x hx).2.2
    have L:=L.ext fB
    refine ⟨L.fr,fun x hx=>?_,L.nd,fun x hx=>?_,fun p hp=>?_,by simp,abc qQ⟩
    ·rcases hO2 x hx with q | ⟨q,q2⟩
     ·subst q; exact ⟨gL.lt,.inr (by omega)⟩
     ·subst q; exact ⟨by have:=fB.size; omega,.inr q2⟩
    ·obtain ⟨h1,h2,h3⟩:=L.lo x hx
     refine ⟨h1,fun hm=>?_,h3⟩
     rcases hO2 x hm with q | ⟨q,q2⟩
     ·have:=ad2 x hx; omega
     ·subst q; exact Wj hx
    ·have h:=L.ok p hp
     simp only[afa,ahy,or_false] at hp
     rcases hp with rfl | rfl | rfl <;> exact h
   have step:∀ {A B:Heap} {ts bQ:List Tk} {l:List dR} {ds:List (iH × List Value)},Lv [] H O (fun A=>Ps ⟨H5.size,a,cT,T⟩ A ts 64) A l ds→Fr [H5.size] A B→Ps ⟨H5.size,a,cT,T⟩ B bQ 64→Lv [] H O (fun A=>Ps ⟨H5.size,a,cT,T⟩ A bQ 64) B l ds:=fun L hf h=>
    L.call (hf.mono fun x hx=>.inl (by simp only[aib] at hx; subst hx; exact hO1)) (abc h)
   have over:∀ {A:Heap} {ts:List Tk} {e:kc} {xs ys:List Value} {ds:List (iH × List Value)} {B:Heap},Lv [] H O (fun A=>Ps ⟨H5.size,a,cT,T⟩ A ts 64) A [.dz H3.size 31 xs,.dz b2 31 [.int .i64 0,.int .i64 0],.dz b1 24 ys] ds→ys.length=5→mF p T= .error e→Fr [H5.size] A B→
    gp afI 52 #[pP b2,pP b1] (.panicking (Oh e)) .returning B fun nA=>tv (fun v H'=>jf (mF p T) v H H'∧Fr [] H H') nA (j4 [some (pP b1),some (pP b2)] nA [.cell S0 (some 5),.cell S1 (some 2)]):=by
    intro A ts e xs ys ds B L hy he hf
    have L:Lv [] H O (fun _=>True) B _ ds:=L.call (hf.mono fun x hx=>.inl (by simp only[aib] at hx; subst hx; exact hO1)) (fun _ _ _ _=>trivial)
    have dH:b2≠b1:=by
     have:=L.nd
     simp only[afN,List.flatMap_nil,dR.bs,ahm,ahv,List.nodup_cons,afa,ahy,or_false] at this
     exact this.2.1
    refine (Ho (L.get 1 rfl) rfl (L.get 2 rfl) hy dH).mono ?_
    rintro H2 ⟨D8,hy2,cQ⟩
    have cx:=D8.cell
    have cy:=hy2.cell
    have fj:=L.lo
    rw[he]
    unfold pP
    simp only[go_sem,cx,cy,je]
    refine ⟨by simp[jf,je],L.fr.trans' cQ fun x hx=>.inr ?_⟩
    simp only[afa,ahy,or_false] at hx
    rcases hx with rfl | rfl
    ·exact (fj x (by simp[dR.bs])).1
    ·exact (fj x (by simp[dR.bs])).1
   simp only[go_sem]
   refine ⟨_,_,rfl,rfl,?_⟩
   simp only[go_sem,c26,YM]
   refine ⟨hg,bU.mono (jX.ok qQ) ?_ ?_⟩
   ·rintro v H7 ⟨n,r,hp,⟨cs,rfl,hr⟩,uI,fK⟩
    obtain ⟨kk,tt,nn,aa,ks⟩:=n
    obtain ⟨kv,rfl,jF⟩:=aD.cL hr
    have L:=(step L6 fK uI).add (L6.built jF)
    simp only[go_sem]
    refine L.ae 2 rfl rfl (ax (dp (L.fD (aW ks,[kv]) (by simp)))) fun H8 L=>?_
    dsimp only[ahp,ahk]at L
    simp only[go_sem]
    refine (look_ok L.st).mono ?_
    rintro v H9 ⟨rfl,dB⟩
    have L:=L.ext dB
    have c2:=L.cell 2 rfl
    have c1:=L.cell 1 rfl
    by_cases k6:(hd r).kind=6
    ·simp only[go_sem,jD,k6,c2]
     refine L.ae 2 rfl rfl (ax (dp (L.fD (aW ks,[kv]) (by simp)))) fun HA L=>?_
     dsimp only[ahp,ahk]at L
     simp only[go_sem]
     refine L.ae 1 rfl rfl (by simp[ah3]) fun HB L=>?_
     dsimp only[ahp,ahk]at L
     simp only[go_sem]
     refine (OJ (x:=b2) (y:=b1) HB).mono ?_
     rintro H2 rfl
     have c2:=L.cell 2 rfl
     have c1:=L.cell 1 rfl
     simp only[go_sem,c1,c2]
     have ht:mF p T= .ok (.mk kk tt nn aa ks):=by unfold mF; rw[hp]; simp only[k6,if_true]
     rw[ht]
     have hk:=L.fD (aW ks,[kv]) (by simp)
     exact ⟨⟨_,rfl,aD.nd (hk.more fun x hx=>.inl (.inl hx))⟩,L.fr⟩
    ·simp only[go_sem,jD,k6]
     refine (rH L.st 2).mono (fun _ _ h=>h.elim) ?_
     rintro ch HA ⟨rfl,hfA⟩
     refine over L rfl ?_ (gW hfA)
     unfold mF; rw[hp]; simp only[k6,if_false]
   ·rintro ch H7 ⟨e,hp,rfl,fK⟩
    exact over L6 rfl (by unfold mF; rw[hp]) fK
theorem Hr:ij 64 27 [] (aJ (bp 64)) jO:=by
 refine ⟨fun {X H ts} hs=>?_⟩
 refine aK (args:=[_]) Tryz.func27 XU (ahi rfl) ?_
 have L:=hs.walk
 simp only[go_sem,c27]
 refine L.aS fun b1 H1 L=>?_
 simp only[go_sem]
 refine (Kv 64).1.Q4 hs L (P0:=aJ (bp 64) ts) rfl fun kk tt nn aa ks kv r H5 L hp=>?_
 simp only[go_sem]
 refine L.ae 0 rfl rfl (ax (L.one (ks:=ks) (by simp))) fun HZ L=>?_
 dsimp only[ahp,ahk]at L
 have c:=L.cell 0 rfl
 simp only[go_sem,c]
 exact L.fin hp (.inl (by simp))
theorem KK:ij 64 39 [] (bV (dW 64)) jO:=by
 refine ⟨fun {X H ts} hs=>?_⟩
 refine aK (args:=[_]) Tryz.func39 X2 (ahi rfl) ?_
 have L:=hs.walk
 simp only[go_sem,c39]
 refine L.aS fun b1 H1 L=>?_
 simp only[go_sem]
 refine (Ez 64).Q4 hs L (P0:=bV (dW 64) ts) rfl fun kk tt nn aa ks kv r H5 L hp=>?_
 simp only[go_sem]
 refine L.ae 0 rfl rfl (ax (L.one (ks:=ks) (by simp))) fun HZ L=>?_
 dsimp only[ahp,ahk]at L
 have c:=L.cell 0 rfl
 simp only[go_sem,c]
 exact L.fin hp (.inl (by simp))
theorem EA:ij 64 34 [] ft jO:=by
 refine ⟨fun {X H ts} hs=>?_⟩
 refine aK (args:=[_]) Tryz.func34 XX (ahi rfl) ?_
 have L:=hs.walk
 have hlen:=L.len
 simp only[go_sem,c34]
 refine L.aS fun b1 H1 L=>?_
 simp only[go_sem]
 refine L.aS fun b2 H2 L=>?_
 simp only[go_sem]
 refine L.ae 0 rfl rfl (ax (t:=[]) rfl) fun H3 L=>?_
 dsimp only[ahp,ahk]at L
 have L:=L.B3 24 5
 simp only[go_sem]
 refine bC (fun (s:List Tk × List Nd × (Option Addr × Nat)) H'=>∃ g f,iQ X H s.1 64 H' [.row 24 5 (.slice s.2.2.1 s.2.1.length s.2.2.2) (s.2.1.map Nd.fD) g,.dz b2 24 [.int .i64 1,sv [],.int .i64 0,.int .i64 0,.slice s.2.2.1 s.2.1.length s.2.2.2],.dz b1 24 [.int .i64 0,sv [],.int .i64 0,.int .i64 0,.slice none 0 0]] []∧s.2.1.length + s.1.length≤1048576∧
  ft ts=bd (jd (f + 1) s.2.1) (fun l=>ret (.mk 1 [] 0 0 l)) s.1∧s.1.length≤f)
  (fun s=>[(0,ptr X.b),(2,.pointer (some ⟨b1,0,none⟩)),(3,.pointer (some ⟨b2,0,none⟩))]) (fun s=>s.1.length) (ts,[],(none,0)) ?_ ?_ ?_
 ·exact ⟨none,ts.length,L,by simpa using hlen,rfl,afJ _⟩
 ·simp only[go_sem,ptr]
 ·rintro ⟨cur,ns,va,vc⟩ H4 ⟨g,f,L,hle,hp,hf⟩
  simp only at L hp hf hle ⊢
  have dH:=L.ps.nil
  have qw:=aho.2 dH
  have hp:ft ts=if (hd cur).kind=6 then ret (Nd.mk 1 [] 0 0 ns) cur else bd eE (fun d=>bd (jd f (ns ++ [d])) (fun l=>ret (.mk 1 [] 0 0 l))) cur:=by
   rw[hp]
   conv=>lhs; unfold bd jd
   by_cases e:(hd cur).kind=6
   ·simp only[e,if_true]
   ·simp only[e,if_false]
    rw[← jw]; rfl
  simp only[go_sem]
  refine kQ L fun H5 L=>?_
  by_cases k6:(hd cur).kind=6
  ·rw[if_pos k6] at hp
   simp only[go_sem,jD,k6]
   have L:=L.nt 0 ns rfl
   dsimp only[ahp,ahk]at L
   have c:=L.cell 0 rfl
   simp only[go_sem,c]
   refine L.ae 1 rfl rfl (ax (t:=[]) rfl) fun HZ L=>?_
   dsimp only[ahp,ahk]at L
   have c:=L.cell 1 rfl
   simp only[go_sem,c]
   exact L.fin hp (.inl (by simp))
  ·rw[if_neg k6] at hp
   have c:=L.cell 1 rfl
   simp only[go_sem,jD,k6,c]
   refine wU.goN hs L hp fun kk tt nn aa ks kv r1 H6 L hp he=>?_
   have ba:=wQ he dH
   have c:=L.cell 1 rfl
   simp only[go_sem,c]
   refine L.bc fun bA HA L=>?_
   have c:=L.cell 2 rfl
   simp only[go_sem,c]
   refine L.vh (ns:=ns) (ks:=ks) 0 rfl (by simp) (by omega) fun a c g' HB L=>?_
   dsimp only[ahp,ahk]at L
   simp only[go_sem]
   refine L.bu 1 rfl (by simp) rfl fun HC L=>?_
   dsimp only[ahp,ahk]at L
   simp only[go_sem]
   obtain ⟨f,rfl⟩:∃ f',f=f' + 1:=⟨f - 1,by omega⟩
   refine aj (r1,ns ++ [.mk kk tt nn aa ks],(a,c)) ?_ ?_ ⟨g',f,L.drop (ahx _) (by simp),?_,hp,show r1.length≤f by omega⟩
   ·show r1.length < cur.length
    omega
   ·simp only[go_sem]
   ·simp only[ah1,afK,aht]; omega
section
variable (s:Bs) (hl:s.length≤maxLen) {H:Heap} (hG:bS H)
include hl hG
theorem Cg:aE afI 12 #[sv s] H fun v H'=>jf (dr (aJ (bp 64)) s) v H H'∧Fr [] H H':=by
 refine af (args:=[_]) Tryz.func12 YW (ahi rfl) ?_
 have L:Lv [] H [] (fun _=>True) H [] []:=Lv.start (by simp) (fun _ _ _ _=>trivial)
 simp only[go_sem,c12]
 refine L.aS fun b1 H1 L=>?_
 simp only[go_sem]
 refine L.aS fun b2 H2 L=>?_
 simp only[go_sem]
 refine (Aw (g:=27) (by kernel_rfl) Hr s hl (hG.ext L.fr)).mono ?_
 rintro v H3 ⟨hv,dE⟩
 cases e:dr (aJ (bp 64)) s with
 | error e=>
   rw[e] at hv
   simp only[jf] at hv
   subst hv
   have L:=L.ext dE
   simp only[go_sem,je,sv]
   refine L.ae 1 rfl rfl (by simp[ah3]) fun H4 L=>?_
   dsimp only[ahp,ahk]at L
   simp only[go_sem]
   refine L.ae 0 rfl rfl (by simp[ah3]) fun H5 L=>?_
   dsimp only[ahp,ahk]at L
   have c0:=L.cell 0 rfl
   have c1:=L.cell 1 rfl
   simp only[go_sem,c0,c1]
   exact ⟨by simp[jf,je,sv],L.fr⟩
 | ok n=>
   rw[e] at hv
   simp only[jf] at hv
   obtain ⟨cs,rfl,hr⟩:=hv
   obtain ⟨kk,tt,nn,aa,ks⟩:=n
   obtain ⟨kv,rfl,jF⟩:=aD.cL hr
   have L:=(L.ext dE).add (L.built jF)
   simp only[go_sem]
   refine L.ae 1 rfl rfl (ax (dp (L.fD (aW ks,[kv]) (by simp)))) fun H4 L=>?_
   dsimp only[ahp,ahk]at L
   simp only[go_sem]
   refine L.ae 0 rfl rfl (by simp[ah3]) fun H5 L=>?_
   dsimp only[ahp,ahk]at L
   have c0:=L.cell 0 rfl
   have c1:=L.cell 1 rfl
   simp only[go_sem,c0,c1]
   exact ⟨⟨_,rfl,aD.nd ((L.fD (aW ks,[kv]) (by simp)).more fun x hx=>.inl (.inl hx))⟩,L.fr⟩
theorem OK:aE afI 17 #[sv s] H fun v H'=>jf (dr (bV (dW 64)) s) v H H'∧Fr [] H H':=by
 refine af (args:=[_]) Tryz.func17 Y0 (ahi rfl) ?_
 have L:Lv [] H [] (fun _=>True) H [] []:=Lv.start (by simp) (fun _ _ _ _=>trivial)
 simp only[go_sem,c17]
 refine L.aS fun b1 H1 L=>?_
 simp only[go_sem]
 refine L.aS fun b2 H2 L=>?_
 simp only[go_sem]
 refine (Aw (g:=39) (by kernel_rfl) KK s hl (hG.ext L.fr)).mono ?_
 rintro v H3 ⟨hv,dE⟩
 cases e:dr (bV (dW 64)) s with
 | error e=>
   rw[e] at hv
   simp only[jf] at hv
   subst hv
   have L:=L.ext dE
   simp only[go_sem,je,sv]
   refine L.ae 1 rfl rfl (by simp[ah3]) fun H4 L=>?_
   dsimp only[ahp,ahk]at L
   simp only[go_sem]
   refine L.ae 0 rfl rfl (by simp[ah3]) fun H5 L=>?_
   dsimp only[ahp,ahk]at L
   have c0:=L.cell 0 rfl
   have c1:=L.cell 1 rfl
   simp only[go_sem,c0,c1]
   exact ⟨by simp[jf,je,sv],L.fr⟩
 | ok n=>
   rw[e] at hv
   simp only[jf] at hv
   obtain ⟨cs,rfl,hr⟩:=hv
   obtain ⟨kk,tt,nn,aa,ks⟩:=n
   obtain ⟨kv,rfl,jF⟩:=aD.cL hr
   have L:=(L.ext dE).add (L.built jF)
   simp only[go_sem]
   refine L.ae 1 rfl rfl (ax (dp (L.fD (aW ks,[kv]) (by simp)))) fun H4 L=>?_
   dsimp only[ahp,ahk]at L
   simp only[go_sem]
   refine L.ae 0 rfl rfl (by simp[ah3]) fun H5 L=>?_
   dsimp only[ahp,ahk]at L
   have c0:=L.cell 0 rfl
   have c1:=L.cell 1 rfl
   simp only[go_sem,c0,c1]
   exact ⟨⟨_,rfl,aD.nd ((L.fD (aW ks,[kv]) (by simp)).more fun x hx=>.inl (.inl hx))⟩,L.fr⟩
theorem y6:aE afI 15 #[sv s] H fun v H'=>jf (dr ft s) v H H'∧Fr [] H H':=by
 refine af (args:=[_]) Tryz.func15 YY (ahi rfl) ?_
 have L:Lv [] H [] (fun _=>True) H [] []:=Lv.start (by simp) (fun _ _ _ _=>trivial)
 simp only[go_sem,c15]
 refine L.aS fun b1 H1 L=>?_
 simp only[go_sem]
 refine L.aS fun b2 H2 L=>?_
 simp only[go_sem]
 refine (Aw (g:=34) (by kernel_rfl) EA s hl (hG.ext L.fr)).mono ?_
 rintro v H3 ⟨hv,dE⟩
 cases e:dr ft s with
 | error e=>
   rw[e] at hv
   simp only[jf] at hv
   subst hv
   have L:=L.ext dE
   simp only[go_sem,je,sv]
   refine L.ae 1 rfl rfl (by simp[ah3]) fun H4 L=>?_
   dsimp only[ahp,ahk]at L
   simp only[go_sem]
   refine L.ae 0 rfl rfl (by simp[ah3]) fun H5 L=>?_
   dsimp only[ahp,ahk]at L
   have c0:=L.cell 0 rfl
   have c1:=L.cell 1 rfl
   simp only[go_sem,c0,c1]
   exact ⟨by simp[jf,je,sv],L.fr⟩
 | ok n=>
   rw[e] at hv
   simp only[jf] at hv
   obtain ⟨cs,rfl,hr⟩:=hv
   obtain ⟨kk,tt,nn,aa,ks⟩:=n
   obtain ⟨kv,rfl,jF⟩:=aD.cL hr
   have L:=(L.ext dE).add (L.built jF)
   simp only[go_sem]
   refine L.ae 1 rfl rfl (ax (dp (L.fD (aW ks,[kv]) (by simp)))) fun H4 L=>?_
   dsimp only[ahp,ahk]at L
   simp only[go_sem]
   refine L.ae 0 rfl rfl (by simp[ah3]) fun H5 L=>?_
   dsimp only[ahp,ahk]at L
   have c0:=L.cell 0 rfl
   have c1:=L.cell 1 rfl
   simp only[go_sem,c0,c1]
   exact ⟨⟨_,rfl,aD.nd ((L.fD (aW ks,[kv]) (by simp)).more fun x hx=>.inl (.inl hx))⟩,L.fr⟩
end
mutual
def lP:Nd→Nd→Bool
 | .mk k t n _ ks,.mk k' t' n' _ iK=>decide (k=k') && decide (t=t') && decide (n=n') && decide (ks.length=iK.length) && gF ks iK
def gF:List Nd→List Nd→Bool
 | x :: xs,y :: ys=>lP x y && gF xs ys
 | _,_=>true
end
mutual
def aq:Nd→Nat
 | .mk _ _ _ _ ks=>aA ks + 1
def aA:List Nd→Nat
 | []=>0
 | x :: xs=>aq x + aA xs
end
theorem hJ:∀ (l:List Nd) (i:Nat) (h:i < l.length),aq l[i]≤aA l
 | x :: xs,0,_=>by simp only[List.getElem_cons_zero,aA]; omega
 | x :: xs,i + 1,h=>by
   have:=hJ xs i (by simpa using h)
   simp only[ah2,aA]; omega
def NA (H:Heap) (n:Nd) (v:Value):Prop:=∃ cs,v= .agg cs.toArray∧dA H [] n.fD cs
theorem NA.ext {H H':Heap} {n:Nd} {v:Value} (h:NA H n v) (hf:Fr [] H H'):NA H' n v:=by
 obtain ⟨cs,h1,h2⟩:=h
 exact ⟨cs,h1,h2.ext hf⟩
theorem NA.open {H:Heap} {k n a:Int} {t:Bs} {ks:List Nd} {v:Value} (h:NA H (.mk k t n a ks) v):∃ kv,v= .agg #[.int .i64 k,sv t,.int .i64 n,.int .i64 a,kv]∧dA H [] (aW ks) [kv]:=by
 obtain ⟨cs,rfl,h2⟩:=h
 obtain ⟨kv,rfl,h3⟩:=lb.1 h2
 exact ⟨kv,rfl,h3⟩
theorem cm {H:Heap} {ks:List Nd} {v:Value} (h:dA H [] (aW ks) [v]) (j:Nat) (hj:j < ks.length) :
 ∃ b o c k t n a bm kv,v= .slice (some ⟨b,o,none⟩) ks.length c∧ks[j]= .mk k t n a bm∧(ct H b (o + j * 5 + 0)=some (.int .i64 k)∧ct H b (o + j * 5 + 1)=some (sv t)∧ct H b (o + j * 5 + 2)=some (.int .i64 n)∧ct H b (o + j * 5 + 3)=some (.int .i64 a)∧ct H b (o + j * 5 + 4)=some kv)∧dA H [] (aW bm) [kv]:=by
 obtain ⟨b,o,c,x,h1,_,h3,h4,h5⟩:=dA.at h j (by simpa using hj) (by decide)
 rw[List.getElem_map] at h5
 rw[aia] at h1
 cases e:ks[j] with
 | mk k t n a bm=>
   rw[e] at h5
   obtain ⟨kv,rfl,h6⟩:=lb.1 h5
   exact ⟨b,o,c,k,t,n,a,bm,kv,h1,rfl,⟨h4 0 (by decide),h4 1 (by decide),h4 2 (by decide),h4 3 (by decide),h4 4 (by decide)⟩,h6⟩
theorem NA.mk {H:Heap} {k n a:Int} {t:Bs} {ks:List Nd} {kv:Value} (h:dA H [] (aW ks) [kv]):NA H (.mk k t n a ks) (.agg #[.int .i64 k,sv t,.int .i64 n,.int .i64 a,kv]):=⟨_,rfl,lb.2 ⟨kv,rfl,h⟩⟩
theorem fY {H:Heap} {ks:List Nd} {v:Value} (h:dA H [] (aW ks) [v]):∃ a c,v= .slice a ks.length c∧ks.length≤c∧ks.length≤maxLen:=by
 obtain ⟨a,c,h1,h2,h3⟩:=dA.slice h
 simp only[aia] at h1 h2
 exact ⟨a,c,h1,h2,by omega⟩
theorem dD {i n:Nat} (h:i < n) (hn:n≤maxLen):afd.wrap ((i:Int) + 1)=((i + 1:Nat):Int):=by
 unfold maxLen at hn
 rw[aV _ (by omega) (by omega)]; omega
theorem L0 (H:Heap):Lv [] H [] (fun _=>True) H [] []:=Lv.start (by simp) (fun _ _ _ _=>trivial)
theorem EC (l:List Nd) (i:Nat) (h:i < l.length):aA (l.take (i + 1))=aA (l.take i) + aq l[i]:=by
 induction l generalizing i with
 | nil=>simp at h
 | cons x xs ih=>
   cases i with
   | zero=>simp[aA]
   | succ i=>
     have:=ih i (by simpa using h)
     simp only[ahq,aA,ah2,this]; omega
theorem Ht (l:List Nd):aA (l.take l.length)=aA l:=by rw[List.take_length]
theorem KL (l:List Nd) (i:Nat):aA (l.take i)≤aA l:=by
 induction l generalizing i with
 | nil=>simp
 | cons x xs ih=>
   cases i with
   | zero=>simp[aA]
   | succ i=>
     have:=ih i
     simp only[ahq,aA]; omega
theorem OL:∀ (N:Nat) (x:Nd),aq x≤N→∀ {H:Heap} {vx:Value} {m:Nat},m < 2^62→NA H x vx→aE afI 22 #[vx,.int .i64 m] H fun v H'=>v= .int .i64 (if aq x≤m then (m:Int) - aq x else -1)∧Fr [] H H':=by
 intro N
 induction N with
 | zero=>
   intro x hx
   cases x; simp only[aq] at hx; omega
 | succ N ih=>
 intro x hx H vx m hm hax
 obtain ⟨k,t,n,a,ks⟩:=x
 obtain ⟨kv,rfl,hk⟩:=hax.open
 obtain ⟨aa,cc,rfl,jG,eJ⟩:=fY hk
 refine af (args:=[_,_]) Tryz.func22 Y3 (ahi rfl) ?_
 have L:=L0 H
 have hw0:afd.wrap ((m:Int) - 1)=(m:Int) - 1:=aV _ (by omega) (by omega)
 simp only[go_sem,c22,hw0]
 refine L.aS fun bx H1 L=>?_
 simp only[go_sem,hw0]
 refine bC (fun (i:Nat) H'=>i≤ks.length∧Lv [] H [] (fun _=>True) H' [.dz bx 24 [.int .i64 k,sv t,.int .i64 n,.int .i64 a,.slice aa ks.length cc]] [])
  (fun i=>[(1,.int .i64 (if 1 + aA (ks.take i)≤m then (m:Int) - (1 + aA (ks.take i):Nat) else -1)),(2,.pointer (some ⟨bx,0,none⟩)),(5,.int .i64 i)]) (fun i=>ks.length - i) 0 ?_ ?_ ?_
 ·exact ⟨ahn _,L⟩
 ·simp only[go_sem,aA,List.take_zero]
  split
  ·simp
  ·rename_i h
   have:m=0:=by omega
   subst this; rfl
 ·rintro i H3 ⟨hi,L⟩
  have ca:=L.cell 0 rfl
  obtain ⟨cur,qw⟩:∃ cur,cur=if 1 + aA (ks.take i)≤m then (m:Int) - (1 + aA (ks.take i):Nat) else -1:=⟨_,rfl⟩
  rw[← qw]
  rcases ae8 i ks.length with ba | nf
  ·have h0:(0:Int)≤(i:Int):=by omega
   have h1:(i:Int) < (ks.length:Int):=by omega
   have hs:=EC ks i ba
   by_cases hc:1 + aA (ks.take i)≤m
   ·rw[if_pos hc] at qw
    have QW:(0:Int)≤cur:=by omega
    obtain ⟨cn,hcn⟩:∃ cn:Nat,cur=cn:=⟨cur.toNat,by omega⟩
    have hw:=dD ba eJ
    obtain ⟨b,o,c,k1,t1,n1,a1,bm,mD,e1,e2,⟨q0,q1,q2,q3,q4⟩,hr⟩:=cm (hk.ext L.fr) i ba
    cases e1
    simp only[ahl] at q0
    have dO:=hJ ks i ba
    simp only[aq] at hx
    have FU:=ih ks[i] (by omega) (H:=H3) (m:=cn) (by omega) (e2 ▸ NA.mk hr)
    rw[← hcn] at FU
    unfold sv at *
    simp only[go_sem,h0,h1,QW,ca,q0,q1,q2,q3,q4]
    refine FU.mono ?_
    rintro v H4 ⟨rfl,hf⟩
    have L:=L.ext hf
    have pK:(if aq ks[i]≤cn then cur - aq ks[i] else -1)=if 1 + aA (ks.take (i + 1))≤m then (m:Int) - (1 + aA (ks.take (i + 1)):Nat) else -1:=by
     rw[hs]
     by_cases h:aq ks[i]≤cn
     ·rw[if_pos h,if_pos (by omega)]; omega
     ·rw[if_neg h,if_neg (by omega)]
    rw[pK]
    simp only[go_sem,hw]
    refine aj (i + 1) ?_ ?_ ⟨by omega,L⟩
    ·show ks.length - (i + 1) < ks.length - i
     omega
    ·simp only[go_sem,hw]
   ·rw[if_neg hc] at qw
    have cg:¬ (aq (.mk k t n a ks)≤m):=by
     have h2:=KL ks i
     simp only[aq]; omega
    rw[if_neg cg]
    subst qw
    simp only[go_sem,h1,ca]
    exact L.fr
  ·have h1:¬ ((i:Int) < (ks.length:Int)):=by omega
   obtain rfl:i=ks.length:=by omega
   simp only[go_sem,h1,ca]
   have e:cur=if aq (.mk k t n a ks)≤m then (m:Int) - aq (.mk k t n a ks) else -1:=by
    rw[qw,Ht]
    by_cases h:1 + aA ks≤m
    ·rw[if_pos h,if_pos (by simp only[aq]; omega)]; simp only[aq]; omega
    ·rw[if_neg h,if_neg (by simp only[aq]; omega)]
   rw[e]
   exact ⟨rfl,L.fr⟩
theorem KM (x:Nd) {H:Heap} {vx:Value} {m:Nat} (hm:m < 2^62) (hax:NA H x vx):aE afI 10 #[vx,.int .i64 m] H fun v H'=>v= .bool (decide (aq x≤m))∧Fr [] H H':=by
 obtain ⟨k,t,n,a,ks⟩:=x
 obtain ⟨kv,rfl,hk⟩:=hax.open
 obtain ⟨aa,cc,rfl,jG,eJ⟩:=fY hk
 refine af (args:=[_,_]) Tryz.func10 YU (ahi rfl) ?_
 have L:=L0 H
 simp only[go_sem,c10]
 refine L.aS fun bx H1 L=>?_
 have ca:=L.cell 0 rfl
 have FU:=OL _ (.mk k t n a ks) (afJ _) (H:=H1) hm ((NA.mk hk).ext L.fr)
 simp only[go_sem,ca]
 refine FU.mono ?_
 rintro v H2 ⟨rfl,hf⟩
 have hF:=L.fr.trans hf
 by_cases h:aq (.mk k t n a ks)≤m
 ·rw[if_pos h]
  have h2:(0:Int)≤(m:Int) - aq (.mk k t n a ks):=by omega
  simp only[go_sem,h,h2]
  exact hF
 ·rw[if_neg h]
  simp only[go_sem,h]
  exact hF
def Nk (l:List Tk):Prop:=∀ t ∈ l,t.kind≠6
theorem Nk.more {ts:List Tk} {i j:Nat} (h:Nk (ts.take i)) (h':Nk ((ts.drop i).take j)):Nk (ts.take (i + j)):=by
 intro t ht
 rw[List.take_add] at ht
 rcases ahu.1 ht with q | q
 ·exact h t q
 ·exact h' t q
theorem Nk.zero (ts:List Tk):Nk (ts.take 0):=by intro t ht; simp at ht
theorem Nk.one {ts:List Tk} (h:(hd ts).kind≠6):Nk (ts.take 1):=by
 cases ts with
 | nil=>intro t ht; simp at ht
 | cons t r=>intro t' ht; simp at ht; subst ht; exact h
def Wt {α:Type} (ts:List Tk):Except kc (α × List Tk)→Prop
 | .error e=>∃ i,Nk (ts.take i)∧e.2=(hd (ts.drop i)).at_∧(e.1=2∨(e.1=6∧(hd (ts.drop i)).kind≠6))
 | .ok x=>∃ i,Nk (ts.take i)∧x.2=ts.drop i
def Wg {α:Type} (p:PP α):Prop:=∀ ts,Wt ts (p ts)
theorem Wt.drop {α:Type} {ts:List Tk} {i:Nat} {A:Except kc (α × List Tk)} (h:Nk (ts.take i)) (hA:Wt (ts.drop i) A):Wt ts A:=by
 cases A with
 | error e=>
   obtain ⟨j,h1,h2,h3⟩:=hA
   rw[ahC] at h2 h3
   exact ⟨i + j,h.more h1,h2,h3⟩
 | ok x=>
   obtain ⟨j,h1,h2⟩:=hA
   rw[ahC] at h2
   exact ⟨i + j,h.more h1,h2⟩
theorem drop_one (ts:List Tk):ts.drop 1=ts.tail:=List.drop_one
theorem Wt.tl {α:Type} {ts:List Tk} {A:Except kc (α × List Tk)} (h:(hd ts).kind≠6) (hA:Wt ts.tail A):Wt ts A:=
 Wt.drop (i:=1) (Nk.one h) (by rw[drop_one]; exact hA)
theorem Wt.bad {α:Type} {ts:List Tk}:Wt (α:=α) ts (.error (2,(hd ts).at_)):=⟨0,Nk.zero ts,rfl,.inl rfl⟩
theorem Wt.Ra {α:Type} {ts:List Tk} (h:(hd ts).kind≠6):Wt (α:=α) ts (.error (6,(hd ts).at_)):=⟨0,Nk.zero ts,rfl,.inr ⟨rfl,h⟩⟩
theorem Wt.val {α:Type} {ts:List Tk} {a:α}:Wt ts (.ok (a,ts)):=⟨0,Nk.zero ts,rfl⟩
theorem Wt.one {α:Type} {ts:List Tk} {a:α} (h:(hd ts).kind≠6):Wt ts (.ok (a,ts.tail)):=⟨1,Nk.one h,(drop_one ts).symm⟩
theorem Wt.ite {α:Type} {c:Prop} [Decidable c] {ts:List Tk} {x y:Except kc (α × List Tk)} (h1:c→Wt ts x) (h2:¬ c→Wt ts y):Wt ts (if c then x else y):=by
 by_cases h:c
 ·rw[if_pos h]; exact h1 h
 ·rw[if_neg h]; exact h2 h
theorem Wg.ret {α:Type} (a:α):Wg (ret a):=fun ts=>Wt.val
theorem Wt.aO {α β:Type} {p:PP α} {f:α→PP β} {ts:List Tk} (h:Wt ts (p ts)) (hf:∀ a r,Wt r (f a r)):Wt ts (bd p f ts):=by
 cases e:p ts with
 | error e'=>rw[bN e]; rw[e] at h; exact h
 | ok x=>
   obtain ⟨a,r⟩:=x
   rw[az e]
   rw[e] at h
   obtain ⟨i,h1,h2⟩:=h
   simp only at h2
   subst h2
   exact Wt.drop h1 (hf a _)
theorem Wg.aO {α β:Type} {p:PP α} {f:α→PP β} (h:Wg p) (hf:∀ a,Wg (f a)):Wg (bd p f):=fun ts=>(h ts).aO fun a r=>hf a r
theorem Wg.lf {α β:Type} {p:PP α} {f:α→PP β} (h:Wg p) (hf:∀ a r,Wt r (f a r)):Wg (bd p f):=fun ts=>(h ts).aO hf
theorem Wg.kind {α:Type} {p:PP α} (h:Wg p) (hl:Lt p) {ts r:List Tk} {a:α} (e:p ts= .ok (a,r)):(hd ts).kind≠6:=by
 have h1:=h ts
 have h2:=hl _ _ _ e
 rw[e] at h1
 obtain ⟨i,h3,h4⟩:=h1
 simp only at h4
 subst h4
 cases ts with
 | nil=>simp at h2
 | cons t ts=>
   cases i with
   | zero=>simp at h2
   | succ i=>exact h3 t (by simp)
theorem fu {k:Int} (hk:k≠6):Wg (cK k):=fun ts=>by
 unfold cK
 exact Wt.ite (fun h=>Wt.one (by rw[h]; exact hk)) fun _=>Wt.bad
theorem aN (s:Bs):Wg (aU s):=fun ts=>by
 unfold aU
 exact Wt.ite (fun h=>Wt.one (ag h)) fun _=>Wt.bad
theorem jH {α β:Type} {lo:Option β} {s:Bs} {body:β→PP α} (h:∀ x,lo=some x→Wg (body x)):Wg (ea lo s body):=fun ts=>by
 unfold ea
 refine Wt.ite (fun e=>?_) fun _=>Wt.bad
 cases lo with
 | none=>exact Wt.Ra (ag e)
 | some x=>exact Wt.tl (ag e) (h x rfl _)
theorem mH:Wg ig:=fun ts=>by
 unfold ig
 exact Wt.ite (fun e=>Wt.tl (ag e) (((fu (by decide)).aO fun _=>Wg.ret _) _)) fun _=>((fu (by decide)).aO fun _=>Wg.ret _) _
theorem oQ (k:Int):Wg (dn k):=(fu (by decide)).aO fun _=>Wg.ret _
theorem iR:Wg ey:=(fu (by decide)).aO fun _=>Wg.ret _
theorem lQ {op:PP Nd} {kd:Kd} (h:Wg op):∀ f n,Wg (cP op kd f n)
 | 0,n=>Wg.ret n
 | f + 1,n=>fun ts=>by
   simp only[cP]
   exact Wt.ite (fun e=>Wt.tl (ag (ep e)) ((h.aO fun m=>lQ h f _) _)) fun _=>Wt.val
theorem oR {op:PP Nd} {kd:Kd} (h:Wg op):Wg (fW op kd):=h.lf fun n r=>lQ h _ n r
def KN (lo:Lo):Prop:=∀ x,lo=some x→Wg x.1∧Wg x.2
theorem iz {lo:Lo} (hl:KN lo):∀ f n,Wg (dC lo f n)
 | 0,n=>Wg.ret n
 | f + 1,n=>fun ts=>by
   simp only[dC]
   exact Wt.ite (fun e=>Wt.tl (ag e) (((fu (by decide)).aO fun t=>iz hl f _) _)) fun _=>
    Wt.ite (fun e=>jH (fun x hx=>(hl x hx).1.aO fun m=>(aN _).aO fun _=>iz hl f _) _) fun _=>Wt.val
theorem y7:Wg dF:=fun ts=>by
 unfold dF
 exact Wt.ite (fun e=>Wt.one (ag e)) fun _=>((aN _).aO fun _=>Wg.ret _) _
theorem vy {e:PP Nd} (he:Wg e) (fn:Bs):Wg (gD e fn):=fun ts=>by
 unfold gD
 exact Wt.ite (fun _=>((fu (by decide)).aO fun t=>(aN _).aO fun _=>he.aO fun _=>Wg.ret _) _) fun _=>
  Wt.ite (fun _=>(he.aO fun t=>(aN _).aO fun _=>he.aO fun _=>Wg.ret _) _) fun _=>he _
theorem wV {arg:PP Nd} (h:Wg arg):∀ f l,Wg (fL arg f l)
 | 0,l=>Wg.ret l
 | f + 1,l=>h.aO fun a=>y7.aO fun m=>by
   cases m
   ·exact Wg.ret _
   ·exact wV h f _
theorem nX {arg:PP Nd} (h:Wg arg):Wg (dY arg):=fun ts=>by
 unfold dY
 exact Wt.ite (fun e=>Wt.one (ag e)) fun _=>wV h _ _ _
section
variable {lo:Lo} (hl:KN lo)
include hl
theorem KO:Wg (dZ lo):=fun ts=>by
 unfold dZ
 refine Wt.ite (fun _=>mH _) fun _=>?_
 refine Wt.ite (fun _=>iR _) fun _=>?_
 refine Wt.ite (fun _=>oQ _ _) fun _=>?_
 refine Wt.ite (fun e=>Wt.one (ag e)) fun _=>?_
 refine Wt.ite (fun e=>Wt.one (ag e)) fun _=>?_
 refine Wt.ite (fun e=>Wt.one (ag e)) fun _=>?_
 refine Wt.ite (fun e=>Wt.one (ag e)) fun _=>?_
 refine Wt.ite (fun _=>jH (fun x hx=>(hl x hx).1.aO fun _=>(aN _).aO fun _=>Wg.ret _) _) fun _=>?_
 exact Wt.ite (fun e=>Wt.tl (by rw[e.1]; decide) (jH (fun x hx=>(nX (vy (hl x hx).1 _)).aO fun _=>Wg.ret _) _)) fun _=>Wt.bad
theorem Ch:Wg (kN lo):=(KO hl).lf fun n r=>iz hl _ n r
theorem FV:Wg (wB lo):=oR (Ch hl)
theorem wW:Wg (ke lo):=oR (FV hl)
theorem OM:Wg (nq lo):=(wW hl).lf fun n r=>
 Wt.ite (fun e=>Wt.tl (ag (ep e)) (((wW hl).aO fun _=>Wg.ret _) _)) fun _=>Wt.val
theorem vz:Wg (fX lo):=fun ts=>by
 unfold fX
 exact Wt.ite (fun _=>jH (fun x hx=>(hl x hx).2.aO fun _=>Wg.ret _) _) fun _=>OM hl _
theorem FW:Wg (wC lo):=oR (vz hl)
theorem UF:Wg (Kc lo):=oR (FW hl)
theorem wX:Wg (aJ lo):=fun ts=>by
 unfold aJ
 exact Wt.ite (fun _=>jH (fun x hx=>(hl x hx).1.aO fun _=>(aN _).aO fun _=>(hl x hx).1.aO fun _=>(aN _).aO fun _=>(hl x hx).1.aO fun _=>Wg.ret _) _) fun _=>UF hl _
end
theorem KP:∀ k,Wg (mB k).1∧Wg (mB k).2
 | 0=>by
   have h:KN none:=fun x hx=>by cases hx
   exact ⟨wX h,vz h⟩
 | k + 1=>by
   have h:KN (some (mB k)):=fun x hx=>by
    cases hx; exact KP k
   exact ⟨wX h,vz h⟩
theorem eB (k:Nat):KN (bp k):=by
 intro x hx
 cases k with
 | zero=>cases hx
 | succ k=>cases hx; exact KP k
theorem kl:∀ f l,Wg (dM f l)
 | 0,l=>Wg.ret l
 | f + 1,l=>fun ts=>by
   simp only[dM]
   exact Wt.ite (fun e=>Wt.tl (ag e) ((iR.aO fun m=>kl f _) _)) fun _=>Wt.val
theorem qz:Wg ej:=iR.lf fun n r=>kl _ _ r
theorem hP:Wg bJ:=fun ts=>by
 unfold bJ
 exact Wt.ite (fun e=>Wt.tl (ag e) ((qz.aO fun _=>(aN _).aO fun _=>Wg.ret _) _)) fun _=>Wt.val
theorem oU {p:PP Nd} (h:Wg p):Wg (lh p):=(aN _).aO fun _=>h.aO fun _=>(aN _).aO fun _=>h.aO fun _=>(aN _).aO fun _=>Wg.ret _
theorem Ax:Wg kH:=fun ts=>by
 unfold kH
 exact Wt.ite (fun _=>qz _) fun _=>Wt.val
theorem Ci:Wg jx:=fun ts=>by
 unfold jx
 exact (Ax.aO fun _=>(aN _).aO fun _=>iR.aO fun _=>Wg.ret _) _
theorem lS:∀ f l,Wg (eU f l)
 | 0,l=>Wg.ret l
 | f + 1,l=>fun ts=>by
   simp only[eU]
   exact Wt.ite (fun e=>Wt.tl (ag e) ((Ci.aO fun m=>lS f _) _)) fun _=>Wt.val
theorem wY:Wg gg:=(aN _).aO fun _=>Ax.lf fun l r=>((lS _ l).aO fun _=>(aN _).aO fun _=>Wg.ret _) r
theorem ON {x:PP Nd} (h:Wg x):Wg (vi x):=(fu (by decide)).aO fun _=>(aN _).aO fun _=>h.aO fun _=>Wg.ret _
theorem vA {x:PP Nd} (h:Wg x):∀ f l,Wg (lM x f l)
 | 0,l=>Wg.ret l
 | f + 1,l=>(ON h).lf fun m r=>Wt.ite (fun e=>Wt.tl (ag e) (vA h f _ _)) fun _=>Wt.val
theorem Cj {x:PP Nd} (h:Wg x):Wg (kR x):=fun ts=>by
 unfold kR
 exact ((vA h _ _).aO fun _=>(aN _).aO fun _=>Wg.ret _) _
theorem FX {lo:LLo} (hl:∀ x,lo=some x→Wg x):Wg (bV lo):=fun ts=>by
 unfold bV
 refine Wt.ite (fun _=>oQ _ _) fun _=>?_
 refine Wt.ite (fun e=>Wt.one (ag e)) fun _=>?_
 refine Wt.ite (fun e=>Wt.one (ag e)) fun _=>?_
 refine Wt.ite (fun e=>Wt.tl (ag e) ((hP.aO fun _=>Wg.ret _) _)) fun _=>?_
 refine Wt.ite (fun e=>Wt.tl (ag e) ((hP.aO fun _=>Wg.ret _) _)) fun _=>?_
 refine Wt.ite (fun _=>jH (fun x hx=>hP.aO fun _=>(hl x hx).aO fun _=>Wg.ret _) _) fun _=>?_
 refine Wt.ite (fun e=>Wt.tl (ag e) (((oU mH).aO fun _=>Wg.ret _) _)) fun _=>?_
 refine Wt.ite (fun e=>Wt.tl (ag e) (((oU mH).aO fun _=>Wg.ret _) _)) fun _=>?_
 refine Wt.ite (fun _=>jH (fun x hx=>(oU (hl x hx)).aO fun _=>Wg.ret _) _) fun _=>?_
 refine Wt.ite (fun _=>jH (fun x hx=>(Cj (hl x hx)).aO fun _=>Wg.ret _) _) fun _=>?_
 exact Wt.ite (fun e=>Wt.tl (ag e) ((wY.aO fun _=>Wg.ret _) _)) fun _=>Wt.bad
theorem rU:∀ k,Wg (gX k)
 | 0=>FX fun x hx=>by cases hx
 | k + 1=>FX fun x hx=>by cases hx; exact rU k
theorem nY:Wg eV:=fun ts=>by
 unfold eV
 refine Wt.ite (fun e=>Wt.one (ag e)) fun _=>?_
 refine Wt.ite (fun e=>Wt.one (ag e)) fun _=>?_
 refine Wt.ite (fun e=>Wt.one (ag e)) fun _=>?_
 exact Wt.ite (fun e=>Wt.one (ag e)) fun _=>Wt.bad
theorem tQ:Wg eA:=(fu (by decide)).aO fun _=>(aN _).aO fun _=>nY.aO fun _=>Wg.ret _
theorem Ck:Wg (aJ (bp 64)):=wX (eB 64)
theorem y8 (kind:Int):Wg (if kind=5 then bd (aU [58]) fun _=>eV else ret 0):=by
 split
 ·exact (aN _).aO fun _=>nY
 ·exact Wg.ret _
theorem rV (a k:Int):Wg (wK a k):=(fu (by decide)).aO fun _=>(aN _).aO fun _=>(nX tQ).aO fun _=>(aN _).aO fun _=>(oQ _).aO fun _=>(y8 k).aO fun _=>
 (aN _).aO fun _=>Ck.aO fun _=>(aN _).aO fun _=>Wg.ret _
theorem vB (a k:Int) (s:Bs):Wg (Eu a k s):=(fu (by decide)).aO fun _=>(aN _).aO fun _=>(rU 64).aO fun _=>(aN _).aO fun _=>Wg.ret _
theorem KQ:Wg eE:=fun ts=>by
 unfold eE
 refine Wt.ite (fun e=>Wt.tl (ag e) (vB _ _ _ _)) fun _=>?_
 refine Wt.ite (fun e=>Wt.tl (ag e) (vB _ _ _ _)) fun _=>?_
 refine Wt.ite (fun e=>Wt.tl (ag e) (rV _ _ _)) fun _=>?_
 exact Wt.ite (fun e=>Wt.tl (ag e) (rV _ _ _)) fun _=>Wt.bad
theorem Cl:∀ f l,Wg (jd f l)
 | 0,l=>Wg.ret l
 | f + 1,l=>fun ts=>by
   simp only[jd]
   exact Wt.ite (fun _=>Wt.val) fun _=>(KQ.aO fun d=>Cl f _) _
def Ay (a b:Tk):Prop:=a.kind=b.kind∧a.text=b.text∧a.n=b.n
theorem Ay.refl (a:Tk):Ay a a:=⟨rfl,rfl,rfl⟩
def UG:List Bs:=[[41],[108,97,116,116,105,99,101],[111,98,106,101,99,116],[117,112,100,97,116,101],[113,117,101,114,121]]
def UH (t:Tk):Prop:=t.kind=6∨((t.kind=2∨t.kind=5)∧t.text ∈ UG)
def cU (n n':Nd):Prop:=lP n n'=true
def bI (l l':List Nd):Prop:=l.length=l'.length∧gF l l'=true
theorem ik {k k' n n' a a':Int} {t t':Bs} {ks iK:List Nd} (h1:k=k') (h2:t=t') (h3:n=n') (h4:bI ks iK):cU (.mk k t n a ks) (.mk k' t' n' a' iK):=by
 unfold cU
 simp only[lP,h1,h2,h3,h4.1,h4.2,decide_true,aii]
theorem bI.nil:bI [] []:=⟨rfl,by simp[gF]⟩
theorem bI.cons {n n':Nd} {l l':List Nd} (h:cU n n') (h':bI l l'):bI (n :: l) (n' :: l'):=by
 refine ⟨by simp[h'.1],?_⟩
 unfold cU at h
 simp only[gF,h,h'.2,aii]
theorem bI.one {n n':Nd} (h:cU n n'):bI [n] [n']:=bI.cons h bI.nil
theorem bI.two {n n' m m':Nd} (h:cU n n') (h':cU m m'):bI [n,m] [n',m']:=bI.cons h (bI.one h')
theorem bI.app:∀ {l l' m m':List Nd},bI l l'→bI m m'→bI (l ++ m) (l' ++ m')
 | [],[],m,m',_,h=>h
 | x :: l,y :: l',m,m',h,h'=>by
   have h1:=h.1
   have h2:=h.2
   simp only[gF,ae5] at h2
   exact bI.cons h2.1 (bI.app (l:=l) (l':=l') ⟨by simpa using h1,h2.2⟩ h')
 | [],_ :: _,_,_,h,_=>by have:=h.1; simp at this
 | _ :: _,[],_,_,h,_=>by have:=h.1; simp at this
structure Md where
 W:List Tk
 W':List Tk
 S:Nat→Prop
 Ra:Prop
 kx:Prop
 UI:Prop
structure Md.Ok (M:Md):Prop where
 sync:∀ i,M.S i→Ay (hd (M.W.drop i)) (hd (M.W'.drop i))∨(M.kx∧(hd (M.W.drop i)).kind=6∧UH (hd (M.W'.drop i)))
 next:∀ i,M.S i→(hd (M.W.drop i)).kind≠6→M.S (i + 1)∨M.UI
 ne:∀ i,M.S i→Nk (M.W.take i)→M.W.drop i≠[]∧M.W'.drop i≠[]
def In (M:Md) (ts bQ:List Tk):Prop:=∃ i,M.S i∧Nk (M.W.take i)∧ts=M.W.drop i∧bQ=M.W'.drop i
def Zn (M:Md) {α:Type} (A:Except kc (α × List Tk)):Prop:=M.UI∧∃ i,¬ M.S i∧Nk (M.W.take i)∧Wt (M.W.drop i) A
def Ou (M:Md) {α:Type} (φ:α→α→Prop) (A B:Except kc (α × List Tk)):Prop:=
 (M.Ra∧∃ o,B= .error (6,o))∨Zn M A∨(match A with
  | .error e=>M.kx∨∃ ts bQ,In M ts bQ∧e.2=(hd ts).at_∧B= .error (e.1,(hd bQ).at_)
  | .ok x=>∃ n' r',B= .ok (n',r')∧φ x.1 n'∧In M x.2 r')
def Rl (M:Md) {α:Type} (φ:α→α→Prop) (p q:PP α):Prop:=∀ ts bQ,In M ts bQ→Ou M φ (p ts) (q bQ)
def Az (M:Md) {β:Type} (R:β→β→Prop) (lo UJ:Option β):Prop:=(∀ x',UJ=some x'→∃ x,lo=some x∧R x x')∧(UJ=none→lo=none∨M.Ra)
section
variable {M:Md}
theorem Ou.bd {α β:Type} {p q:PP α} {f g:α→PP β} {φ:α→α→Prop} {ψ:β→β→Prop} {ts bQ:List Tk} (h:Ou M φ (p ts) (q bQ)) (hw:∀ a r,Wt r (f a r))
 (hf:∀ a a' r r',p ts= .ok (a,r)→q bQ= .ok (a',r')→φ a a'→In M r r'→Ou M ψ (f a r) (g a' r')):Ou M ψ (bd p f ts) (bd q g bQ):=by
 rcases h with ⟨hl,o,hB⟩ | ⟨DK,i,h1,h2,h3⟩ | h
 ·exact .inl ⟨hl,o,bN hB⟩
 ·exact .inr (.inl ⟨DK,i,h1,h2,by
   cases e:p ts with
   | error e'=>rw[bN e]; rw[e] at h3; exact h3
   | ok x=>
     obtain ⟨a,r⟩:=x
     rw[az e]
     rw[e] at h3
     obtain ⟨j,n1,n2⟩:=h3
     simp only at n2
     subst n2
     exact Wt.drop n1 (hw a _)⟩)
 ·cases e:p ts with
  | error e'=>
    rw[e] at h
    rw[bN e]
    rcases h with h | ⟨us,KR,h1,h2,h3⟩
    ·exact .inr (.inr (.inl h))
    ·exact .inr (.inr (.inr ⟨us,KR,h1,h2,bN h3⟩))
  | ok x=>
    obtain ⟨a,r⟩:=x
    rw[e] at h
    rw[az e]
    obtain ⟨a',r',h1,h2,h3⟩:=h
    rw[az h1]
    exact hf a a' r r' e h1 h2 h3
theorem Ou.err {α:Type} {φ:α→α→Prop} {ts bQ:List Tk} {c:Int} (hi:In M ts bQ):Ou M φ (.error (c,(hd ts).at_)) (.error (c,(hd bQ).at_)):=.inr (.inr (.inr ⟨ts,bQ,hi,rfl,rfl⟩))
theorem Ou.kx {α:Type} {φ:α→α→Prop} {e:kc} {B:Except kc (α × List Tk)} (h:M.kx):Ou M φ (.error e) B:=.inr (.inr (.inl h))
theorem Ou.val {α:Type} {φ:α→α→Prop} {a a':α} {ts bQ:List Tk} (hi:In M ts bQ) (h:φ a a'):Ou M φ (.ok (a,ts)) (.ok (a',bQ)):=.inr (.inr ⟨a',bQ,rfl,h,hi⟩)
theorem Ou.ret {α:Type} {φ:α→α→Prop} {a a':α} {ts bQ:List Tk} (hi:In M ts bQ) (h:φ a a'):Ou M φ (ret a ts) (ret a' bQ):=Ou.val hi h
theorem Ou.ite {α:Type} {φ:α→α→Prop} {c c':Prop} [Decidable c] [Decidable c'] {x y x' y':Except kc (α × List Tk)} (h:c'↔c) (h1:c→Ou M φ x x') (h2:¬ c→Ou M φ y y'):Ou M φ (if c then x else y) (if c' then x' else y'):=by
 by_cases e:c
 ·rw[if_pos e,if_pos (h.2 e)]; exact h1 e
 ·rw[if_neg e,if_neg (fun q=>e (h.1 q))]; exact h2 e
variable (hM:M.Ok)
include hM
theorem In.tl {ts bQ:List Tk} (hi:In M ts bQ) (hk:(hd ts).kind≠6):In M ts.tail bQ.tail∨(M.UI∧∃ i,¬ M.S i∧Nk (M.W.take i)∧ts.tail=M.W.drop i):=by
 obtain ⟨i,h1,h2,rfl,rfl⟩:=hi
 have e:∀ W:List Tk,(W.drop i).tail=W.drop (i + 1):=fun W=>by rw[← drop_one,ahC]
 have hn:Nk (M.W.take (i + 1)):=h2.more (Nk.one hk)
 by_cases hs:M.S (i + 1)
 ·exact .inl ⟨i + 1,hs,hn,e _,e _⟩
 ·rcases hM.next i h1 hk with h | h
  ·exact absurd h hs
  ·exact .inr ⟨h,i + 1,hs,hn,e _⟩
theorem Ou.tl {α:Type} {φ:α→α→Prop} {ts bQ:List Tk} {A B:Except kc (α × List Tk)} (hi:In M ts bQ) (hk:(hd ts).kind≠6) (hw:Wt ts.tail A) (h:In M ts.tail bQ.tail→Ou M φ A B):Ou M φ A B:=by
 rcases hi.tl hM hk with q | ⟨q,i,h1,h2,h3⟩
 ·exact h q
 ·exact .inr (.inl ⟨q,i,h1,h2,by rw[← h3]; exact hw⟩)
theorem Ou.one {α:Type} {φ:α→α→Prop} {a a':α} {ts bQ:List Tk} (hi:In M ts bQ) (hk:(hd ts).kind≠6) (h:φ a a'):Ou M φ (.ok (a,ts.tail)) (.ok (a',bQ.tail)):=
 Ou.tl hM hi hk Wt.val fun iD=>Ou.val iD h
theorem In.both {ts bQ:List Tk} (hi:In M ts bQ):Ay (hd ts) (hd bQ)∨(M.kx∧(hd ts).kind=6∧UH (hd bQ)):=by
 obtain ⟨i,h1,h2,rfl,rfl⟩:=hi
 exact hM.sync i h1
theorem In.sync {ts bQ:List Tk} (hi:In M ts bQ) (hk:(hd ts).kind≠6):Ay (hd ts) (hd bQ):=by
 rcases hi.both hM with h | ⟨_,h,_⟩
 ·exact h
 ·exact absurd h hk
theorem In.len {ts bQ:List Tk} (hi:In M ts bQ):0 < ts.length∧0 < bQ.length:=by
 obtain ⟨i,h1,h2,rfl,rfl⟩:=hi
 obtain ⟨h3,h4⟩:=hM.ne i h1 h2
 exact ⟨aho.2 h3,aho.2 h4⟩
omit hM in
theorem fh {s:Bs} {ts:List Tk}:aY s ts=true↔((hd ts).kind=2∨(hd ts).kind=5)∧(hd ts).text=s:=by
 unfold aY
 simp only[ae5,afl,decide_eq_true_eq]
theorem In.aY {ts bQ:List Tk} (hi:In M ts bQ) (s:Bs) (hs:s ∉ UG):aY s bQ=true↔aY s ts=true:=by
 rw[fh,fh]
 rcases hi.both hM with ⟨h1,h2,_⟩ | ⟨_,h,h'⟩
 ·rw[h1,h2]
 ·constructor
  ·rintro ⟨q1,q2⟩
   rcases h' with h' | h'
   ·omega
   ·rw[q2] at h'; exact absurd h'.2 hs
  ·rintro ⟨q1,q2⟩; omega
theorem In.kd {ts bQ:List Tk} (hi:In M ts bQ) (k:Int) (hk:k≠2∧k≠5∧k≠6):(hd bQ).kind=k↔(hd ts).kind=k:=by
 rcases hi.both hM with ⟨h1,h2,_⟩ | ⟨_,h,h'⟩
 ·rw[h1]
 ·unfold UH at h'
  omega
omit hM in
theorem Cm {kd:Kd} {ts:List Tk}:fE kd ts=true↔eb kd (hd ts).text≠0∧((hd ts).kind=2∨(hd ts).kind=5):=by
 unfold fE
 rw[ae5,fh,decide_eq_true_eq]
 exact ⟨fun h=>⟨h.1,h.2.1⟩,fun h=>⟨h.1,h.2,rfl⟩⟩
theorem In.op {ts bQ:List Tk} (hi:In M ts bQ) {kd:Kd} (hk:∀ c ∈ UG,eb kd c=0):fE kd bQ=true↔fE kd ts=true:=by
 rw[Cm,Cm]
 rcases hi.both hM with ⟨h1,h2,_⟩ | ⟨_,h,h'⟩
 ·rw[h1,h2]
 ·constructor
  ·rintro ⟨q1,q2⟩
   rcases h' with h' | h'
   ·omega
   ·exact absurd (hk _ h'.2) q1
  ·rintro ⟨q1,q2⟩; omega
theorem In.fn {ts bQ:List Tk} (hi:In M ts bQ):((hd bQ).kind=2∧(hd bQ).text ∈ aZ)↔((hd ts).kind=2∧(hd ts).text ∈ aZ):=by
 rcases hi.both hM with ⟨h1,h2,_⟩ | ⟨_,h,h'⟩
 ·rw[h1,h2]
 ·constructor
  ·rintro ⟨q1,q2⟩
   rcases h' with h' | h'
   ·omega
   ·have:∀ c ∈ UG,c ∉ aZ:=by decide
    exact absurd q2 (this _ h'.2)
  ·rintro ⟨q1,q2⟩; omega
theorem gG {k:Int} (hk:k≠2∧k≠5∧k≠6):Rl M Ay (cK k) (cK k):=fun ts bQ hi=>by
 unfold cK
 refine Ou.ite (hi.kd hM k hk) (fun e=>?_) fun e=>Ou.err hi
 have h6:(hd ts).kind≠6:=by rw[e]; exact hk.2.2
 exact Ou.one hM hi h6 (hi.sync hM h6)
theorem cY (s:Bs):Rl M (fun _ _=>True) (aU s) (aU s):=fun ts bQ hi=>by
 unfold aU
 rcases hi.both hM with h | ⟨h0,h,h'⟩
 ·have e:aY s bQ=true↔aY s ts=true:=by
   rw[fh,fh,h.1,h.2.1]
  exact Ou.ite e (fun e=>Ou.one hM hi (ag e) trivial) fun e=>Ou.err hi
 ·rw[if_neg (fun e=>ag e h)]
  exact Ou.kx h0
theorem mI {α β:Type} {R:β→β→Prop} {lo UJ:Option β} {s:Bs} {body Rb:β→PP α} {φ:α→α→Prop} (fj:Az M R lo UJ) (hs:s ∉ UG) (hw:∀ x,lo=some x→Wg (body x))
 (hb:∀ x x',lo=some x→UJ=some x'→R x x'→Rl M φ (body x) (Rb x')) {ts bQ:List Tk} (hi:In M ts bQ):Ou M φ (ea lo s body ts) (ea UJ s Rb bQ):=by
 unfold ea
 refine Ou.ite (hi.aY hM s hs) (fun e=>?_) fun e=>Ou.err hi
 cases e':UJ with
 | none=>
   rcases fj.2 e' with h | h
   ·subst h; exact Ou.err hi
   ·exact .inl ⟨h,_,rfl⟩
 | some x'=>
   obtain ⟨x,rfl,hR⟩:=fj.1 x' e'
   exact Ou.tl hM hi (ag e) (hw x rfl _) fun iD=>hb x x' rfl e' hR _ _ iD
theorem AA:Rl M cU ig ig:=fun ts bQ hi=>by
 unfold ig
 refine Ou.ite (hi.aY hM _ (by decide)) (fun e=>?_) fun e=>?_
 ·exact Ou.tl hM hi (ag e) (((fu (by decide)).aO fun _=>Wg.ret _) _) fun iD=>(gG hM (by decide) _ _ iD).bd (fun _=>Wg.ret _) fun t t' r r' _ _ ht hr=>Ou.ret hr (ik rfl rfl (by rw[ht.2.2]) bI.nil)
 ·exact (gG hM (by decide) _ _ hi).bd (fun _=>Wg.ret _) fun t t' r r' _ _ ht hr=>Ou.ret hr (ik rfl rfl (by rw[ht.2.2]) bI.nil)
theorem tR (k:Int):Rl M cU (dn k) (dn k):=fun ts bQ hi=>(gG hM (by decide) _ _ hi).bd (fun _=>Wg.ret _) fun t t' r r' _ _ ht hr=>Ou.ret hr (ik rfl ht.2.1 rfl bI.nil)
theorem oV:Rl M cU ey ey:=fun ts bQ hi=>(gG hM (by decide) _ _ hi).bd (fun _=>Wg.ret _) fun t t' r r' _ _ ht hr=>Ou.ret hr (ik rfl ht.2.1 rfl bI.nil)
theorem y9 {op UK:PP Nd} {kd:Kd} (pX:∀ c ∈ UG,eb kd c=0) (hw:Wg op) (h1:Dn op) (h2:Dn UK) (h:Rl M cU op UK) :
 ∀ (f f':Nat) (n n':Nd) (ts bQ:List Tk),ts.length≤f→bQ.length≤f'→cU n n'→In M ts bQ→Ou M cU (cP op kd f n ts) (cP UK kd f' n' bQ)
 | 0,_,n,n',ts,bQ,hf,_,_,hi=>by have:=(hi.len hM).1; omega
 | _ + 1,0,n,n',ts,bQ,_,hf,_,hi=>by have:=(hi.len hM).2; omega
 | f + 1,f' + 1,n,n',ts,bQ,hf,fJ,hn,hi=>by
   simp only[cP]
   refine Ou.ite (hi.op hM pX) (fun e=>?_) fun e=>Ou.val hi hn
   have hs:=hi.sync hM (ag (ep e))
   have l1:=gE (ep e)
   have l2:=gE (ep ((hi.op hM pX).2 e))
   exact Ou.tl hM hi (ag (ep e)) ((hw.aO fun m=>lQ hw f _) _) fun iD=>(h _ _ iD).bd (fun _=>lQ hw f _) fun m m' r r' e1 e2 hm hr=>by
    have:=h1.of e1
    have:=h2.of e2
    exact y9 pX hw h1 h2 h f f' _ _ r r' (by omega) (by omega) (ik (by rw[hs.2.1]) rfl rfl (bI.two hn hm)) hr
theorem oW {op UK:PP Nd} {kd:Kd} (pX:∀ c ∈ UG,eb kd c=0) (hw:Wg op) (h1:Dn op) (h2:Dn UK) (h:Rl M cU op UK):Rl M cU (fW op kd) (fW UK kd):=fun ts bQ hi=>
 (h _ _ hi).bd (fun n r=>lQ hw _ n r) fun n n' r r' e1 e2 hn hr=>y9 hM pX hw h1 h2 h _ _ n n' r r' (afJ _) (afJ _) hn hr
def Hu (M:Md) (x x':PP Nd × PP Nd):Prop:=Rl M cU x.1 x'.1∧Rl M cU x.2 x'.2
omit hM in
theorem KS (k:Nat):∀ x,bp k=some x→Lt x.1∧Lt x.2:=by
 intro x hx
 cases k with
 | zero=>cases hx
 | succ k=>cases hx; exact UE k
variable {k k':Nat} (fj:Az M (Hu M) (bp k) (bp k'))
include fj
theorem wZ:∀ (f f':Nat) (n n':Nd) (ts bQ:List Tk),ts.length≤f→bQ.length≤f'→cU n n'→In M ts bQ→Ou M cU (dC (bp k) f n ts) (dC (bp k') f' n' bQ)
 | 0,_,n,n',ts,bQ,hf,_,_,hi=>by have:=(hi.len hM).1; omega
 | _ + 1,0,n,n',ts,bQ,_,hf,_,hi=>by have:=(hi.len hM).2; omega
 | f + 1,f' + 1,n,n',ts,bQ,hf,fJ,hn,hi=>by
   simp only[dC]
   refine Ou.ite (hi.aY hM _ (by decide)) (fun e=>?_) fun e=>?_
   ·have l1:=gE e
    have l2:=gE ((hi.aY hM _ (by decide)).2 e)
    exact Ou.tl hM hi (ag e) (((fu (by decide)).aO fun t=>iz (eB k) f _) _) fun iD=>(gG hM (by decide) _ _ iD).bd (fun _=>iz (eB k) f _) fun t t' r r' e1 e2 ht hr=>by
     have:=rT (by decide) e1
     have:=rT (by decide) e2
     exact wZ f f' _ _ r r' (by omega) (by omega) (ik rfl ht.2.1 rfl (bI.one hn)) hr
   refine Ou.ite (hi.aY hM _ (by decide)) (fun e2=>?_) fun e2=>Ou.val hi hn
   have l1:=gE e2
   have l2:=gE ((hi.aY hM _ (by decide)).2 e2)
   unfold ea
   rw[if_pos e2,if_pos ((hi.aY hM _ (by decide)).2 e2)]
   cases e':bp k' with
   | none=>
     rcases fj.2 e' with h | h
     ·rw[h]; exact Ou.err hi
     ·exact .inl ⟨h,_,rfl⟩
   | some x'=>
     obtain ⟨x,ex,hR⟩:=fj.1 x' e'
     rw[ex]
     have hwx:=(eB k x ex).1
     refine Ou.tl hM hi (ag e2) ((hwx.aO fun m=>(aN _).aO fun _=>?_) _) fun iD=>(hR.1 _ _ iD).bd (fun _=>(aN _).aO fun _=>?_) fun m m' r r' e3 e4 hm hr=>(cY hM _ _ _ hr).bd (fun _=>?_) fun _ _ r2 Rc e5 e6 _ qS=>?_
     ·rw[← ex]; exact iz (eB k) f _
     ·rw[← ex]; exact iz (eB k) f _
     ·rw[← ex]; exact iz (eB k) f _
     ·have:=(dG k x ex).1.of e3
      have:=(dG k' x' e').1.of e4
      have:=oP e5
      have:=oP e6
      have ih:=wZ f f' (.mk 43 [] 0 (hd ts).at_ [n,m]) (.mk 43 [] 0 (hd bQ).at_ [n',m']) r2 Rc (by omega) (by omega) (ik rfl rfl rfl (bI.two hn hm)) qS
      rw[ex,e'] at ih
      exact ih
omit fj
theorem Hv:Rl M (fun a b=>a=b) dF dF:=fun ts bQ hi=>by
 unfold dF
 exact Ou.ite (hi.aY hM _ (by decide)) (fun e=>Ou.one hM hi (ag e) rfl) fun e=>(cY hM _ _ _ hi).bd (fun _=>Wg.ret _) fun _ _ r r' _ _ _ hr=>Ou.ret hr rfl
theorem OO {e e':PP Nd} (hw:Wg e) (h:Rl M cU e e') (fn:Bs):Rl M cU (gD e fn) (gD e' fn):=fun ts bQ hi=>by
 unfold gD
 refine Ou.ite Iff.rfl (fun _=>?_) fun _=>Ou.ite Iff.rfl (fun _=>?_) fun _=>h _ _ hi
 ·exact (gG hM (by decide) _ _ hi).bd (fun _=>(aN _).aO fun _=>hw.aO fun _=>Wg.ret _) fun t t' r r' _ _ ht hr=>(cY hM _ _ _ hr).bd (fun _=>hw.aO fun _=>Wg.ret _) fun _ _ r2 Rc _ _ _ qS=>
   (h _ _ qS).bd (fun _=>Wg.ret _) fun x x' r3 r3' _ _ hx Hf=>Ou.ret Hf (ik rfl ht.2.1 rfl (bI.one hx))
 ·exact (h _ _ hi).bd (fun _=>(aN _).aO fun _=>hw.aO fun _=>Wg.ret _) fun x x' r r' _ _ hx hr=>(cY hM _ _ _ hr).bd (fun _=>hw.aO fun _=>Wg.ret _) fun _ _ r2 Rc _ _ _ qS=>
   (h _ _ qS).bd (fun _=>Wg.ret _) fun y y' r3 r3' _ _ hy Hf=>Ou.ret Hf (ik rfl rfl rfl (bI.two hx hy))
theorem Cn {arg ED:PP Nd} (hw:Wg arg) (h1:Lt arg) (h2:Lt ED) (h:Rl M cU arg ED) :
 ∀ (f f':Nat) (l l':List Nd) (ts bQ:List Tk),ts.length≤f→bQ.length≤f'→bI l l'→In M ts bQ→Ou M bI (fL arg f l ts) (fL ED f' l' bQ)
 | 0,_,n,n',ts,bQ,hf,_,_,hi=>by have:=(hi.len hM).1; omega
 | _ + 1,0,n,n',ts,bQ,_,hf,_,hi=>by have:=(hi.len hM).2; omega
 | f + 1,f' + 1,l,l',ts,bQ,hf,fJ,hn,hi=>by
   simp only[fL]
   have OP:∀ (a:Nd) (m:Bool),Wg (if m=true then fL arg f (l ++ [a]) else Go.Proofs.YtmhdkbmnpekpoaaGreatDoor.ret (l ++ [a])):=fun a m=>by
    cases m
    ·exact Wg.ret _
    ·exact wV hw f _
   refine (h _ _ hi).bd (fun a=>y7.aO fun m=>OP a m) fun a a' r r' e1 e2 ha hr=>(Hv hM _ _ hr).bd (fun m=>OP a m) fun m m' r2 Rc e3 e4 hm qS=>?_
   have:=h1.of e1
   have:=h2.of e2
   have:=lN e3
   have:=lN e4
   subst hm
   cases m with
   | false=>exact Ou.ret qS (hn.app (bI.one ha))
   | true=>exact Cn hw h1 h2 h f f' _ _ r2 Rc (by omega) (by omega) (hn.app (bI.one ha)) qS
theorem Co {arg ED:PP Nd} (hw:Wg arg) (h1:Lt arg) (h2:Lt ED) (h:Rl M cU arg ED):Rl M bI (dY arg) (dY ED):=fun ts bQ hi=>by
 unfold dY
 rcases hi.both hM with hs | ⟨h0,h6,h'⟩
 ·have e:aY [41] bQ=true↔aY [41] ts=true:=by rw[fh,fh,hs.1,hs.2.1]
  exact Ou.ite e (fun e=>Ou.one hM hi (ag e) bI.nil) fun e=>Cn hM hw h1 h2 h _ _ _ _ ts bQ (afJ _) (afJ _) bI.nil hi
 ·rw[if_neg (fun e=>ag e h6)]
  have tE:=(hi.len hM).1
  obtain ⟨f,hf⟩:∃ f,ts.length=f + 1:=⟨ts.length - 1,by omega⟩
  rw[hf,fL]
  cases e:arg ts with
  | error e'=>rw[bN e]; exact Ou.kx h0
  | ok x=>exact absurd h6 (hw.kind h1 e)
include fj
theorem KT:Rl M cU (dZ (bp k)) (dZ (bp k')):=fun ts bQ hi=>by
 have nn:∀ {c:Int},cU (.mk c [] 0 (hd ts).at_ []) (.mk c [] 0 (hd bQ).at_ []):=ik rfl rfl rfl bI.nil
 unfold dZ
 refine Ou.ite (or_congr (hi.kd hM 3 (by decide)) (hi.aY hM _ (by decide))) (fun _=>AA hM _ _ hi) fun _=>?_
 refine Ou.ite (hi.kd hM 4 (by decide)) (fun _=>oV hM _ _ hi) fun _=>?_
 refine Ou.ite (hi.kd hM 1 (by decide)) (fun _=>tR hM _ _ _ hi) fun _=>?_
 refine Ou.ite (hi.aY hM _ (by decide)) (fun e=>Ou.one hM hi (ag e) nn) fun _=>?_
 refine Ou.ite (hi.aY hM _ (by decide)) (fun e=>Ou.one hM hi (ag e) nn) fun _=>?_
 refine Ou.ite (hi.aY hM _ (by decide)) (fun e=>Ou.one hM hi (ag e) nn) fun _=>?_
 refine Ou.ite (hi.aY hM _ (by decide)) (fun e=>Ou.one hM hi (ag e) nn) fun _=>?_
 refine Ou.ite (hi.aY hM _ (by decide)) (fun e=>?_) fun _=>?_
 ·exact mI hM fj (by decide) (fun x hx=>(eB k x hx).1.aO fun _=>(aN _).aO fun _=>Wg.ret _) (fun x x' hx IE hR us KR iD=>(hR.1 _ _ iD).bd (fun _=>(aN _).aO fun _=>Wg.ret _) fun n n' r r' _ _ hn hr=>
   (cY hM _ _ _ hr).bd (fun _=>Wg.ret _) fun _ _ r2 Rc _ _ _ qS=>Ou.ret qS hn) hi
 refine Ou.ite (hi.fn hM) (fun e=>?_) fun _=>Ou.err hi
 have h6:(hd ts).kind≠6:=by rw[e.1]; decide
 have ht:=(hi.sync hM h6).2.1
 rw[← ht]
 refine Ou.tl hM hi h6 (jH (fun x hx=>(nX (vy (eB k x hx).1 _)).aO fun _=>Wg.ret _) _) fun iD=>?_
 exact mI hM fj (by decide) (fun x hx=>(nX (vy (eB k x hx).1 _)).aO fun _=>Wg.ret _) (fun x x' hx IE hR us KR iD=>
  (Co hM (vy (eB k x hx).1 _) (Au (KS k x hx).1 (dG k x hx).1 _) (Au (KS k' x' IE).1 (dG k' x' IE).1 _) (OO hM (eB k x hx).1 hR.1 _) _ _ iD).bd (fun _=>Wg.ret _) fun l l' r r' _ _ hl hr=>Ou.ret hr (ik rfl rfl rfl hl)) iD
theorem KU:Rl M cU (kN (bp k)) (kN (bp k')):=fun ts bQ hi=>(KT hM fj _ _ hi).bd (fun n r=>iz (eB k) _ n r) fun n n' r r' _ _ hn hr=>
 wZ hM fj _ _ n n' r r' (afJ _) (afJ _) hn hr
theorem OQ:Rl M cU (wB (bp k)) (wB (bp k')):=oW hM (by decide) (Ch (eB k)) (lL (dG k)) (lL (dG k')) (KU hM fj)
theorem KV:Rl M cU (ke (bp k)) (ke (bp k')):=oW hM (by decide) (FV (eB k)) (oM (dG k)) (oM (dG k')) (OQ hM fj)
theorem OR:Rl M cU (nq (bp k)) (nq (bp k')):=fun ts bQ hi=>by
 have hj:=KV hM fj
 have hw:=wW (eB k)
 refine (hj _ _ hi).bd (fun n r=>Wt.ite (fun e=>Wt.tl (ag (ep e)) ((hw.aO fun _=>Wg.ret _) _)) fun _=>Wt.val) fun n n' r r' _ _ hn hr=>?_
 refine Ou.ite (hr.op hM (by decide)) (fun e=>?_) fun e=>Ou.val hr hn
 have hs:=hr.sync hM (ag (ep e))
 exact Ou.tl hM hr (ag (ep e)) ((hw.aO fun _=>Wg.ret _) _) fun iD=>(hj _ _ iD).bd (fun _=>Wg.ret _) fun m m' r2 Rc _ _ hm qS=>Ou.ret qS (ik (by rw[hs.2.1]) rfl rfl (bI.two hn hm))
theorem AB:Rl M cU (fX (bp k)) (fX (bp k')):=fun ts bQ hi=>by
 unfold fX
 refine Ou.ite (hi.aY hM _ (by decide)) (fun e=>?_) fun e=>OR hM fj _ _ hi
 exact mI hM fj (by decide) (fun x hx=>(eB k x hx).2.aO fun _=>Wg.ret _) (fun x x' hx IE hR us KR iD=>(hR.2 _ _ iD).bd (fun _=>Wg.ret _) fun n n' r r' _ _ hn hr=>Ou.ret hr (ik rfl rfl rfl (bI.one hn))) hi
theorem OS:Rl M cU (wC (bp k)) (wC (bp k')):=oW hM (by decide) (vz (eB k)) (kP (dG k)) (kP (dG k')) (AB hM fj)
theorem UL:Rl M cU (Kc (bp k)) (Kc (bp k')):=oW hM (by decide) (FW (eB k)) (oO (dG k)) (oO (dG k')) (OS hM fj)
theorem rW:Rl M cU (aJ (bp k)) (aJ (bp k')):=fun ts bQ hi=>by
 unfold aJ
 refine Ou.ite (hi.aY hM _ (by decide)) (fun e=>?_) fun e=>UL hM fj _ _ hi
 refine mI hM fj (by decide) (fun x hx=>?_) (fun x x' hx IE hR us KR iD=>?_) hi
 ·have hw:=(eB k x hx).1
  exact hw.aO fun _=>(aN _).aO fun _=>hw.aO fun _=>(aN _).aO fun _=>hw.aO fun _=>Wg.ret _
 ·have hw:=(eB k x hx).1
  exact (hR.1 _ _ iD).bd (fun _=>(aN _).aO fun _=>hw.aO fun _=>(aN _).aO fun _=>hw.aO fun _=>Wg.ret _) fun a a' r r' _ _ ha hr=>
   (cY hM _ _ _ hr).bd (fun _=>hw.aO fun _=>(aN _).aO fun _=>hw.aO fun _=>Wg.ret _) fun _ _ r r' _ _ _ hr=>
   (hR.1 _ _ hr).bd (fun _=>(aN _).aO fun _=>hw.aO fun _=>Wg.ret _) fun b b' r r' _ _ hb hr=>
   (cY hM _ _ _ hr).bd (fun _=>hw.aO fun _=>Wg.ret _) fun _ _ r r' _ _ _ hr=>
   (hR.1 _ _ hr).bd (fun _=>Wg.ret _) fun c c' r r' _ _ hc hr=>Ou.ret hr (ik rfl rfl rfl (bI.cons ha (bI.two hb hc)))
omit fj
theorem UM:∀ k:Nat,Hu M (mB k) (mB k)∧Az M (Hu M) (bp k) (bp k):=by
 have key:∀ k,Az M (Hu M) (bp k) (bp k)→Hu M (mB k) (mB k):=fun k h=>by
  rw[qv]; exact ⟨rW hM h,AB hM h⟩
 intro k
 induction k with
 | zero=>
   have h:Az M (Hu M) (bp 0) (bp 0):=⟨fun x' h=>(by cases h),fun _=>.inl rfl⟩
   exact ⟨key 0 h,h⟩
 | succ k ih=>
   have h:Az M (Hu M) (bp (k + 1)) (bp (k + 1)):=⟨fun x' h=>⟨x',h,by cases h; exact ih.1⟩,fun h=>by cases h⟩
   exact ⟨key _ h,h⟩
theorem FY (k:Nat):Rl M cU (aJ (bp k)) (aJ (bp k)):=rW hM (UM hM k).2
theorem KW (hl:M.Ra):∀ k:Nat,Hu M (mB (k + 1)) (mB k)∧Az M (Hu M) (bp (k + 1)) (bp k):=by
 have key:∀ k,Az M (Hu M) (bp (k + 1)) (bp k)→Hu M (mB (k + 1)) (mB k):=fun k h=>by
  rw[qv,qv]; exact ⟨rW hM h,AB hM h⟩
 intro k
 induction k with
 | zero=>
   have h:Az M (Hu M) (bp 1) (bp 0):=⟨fun x' h=>(by cases h),fun _=>.inr hl⟩
   exact ⟨key 0 h,h⟩
 | succ k ih=>
   have h:Az M (Hu M) (bp (k + 2)) (bp (k + 1)):=⟨fun x' h=>⟨mB (k + 1),rfl,by cases h; exact ih.1⟩,fun h=>by cases h⟩
   exact ⟨key _ h,h⟩
theorem Hw (hl:M.Ra) (k:Nat):Rl M cU (aJ (bp (k + 1))) (aJ (bp k)):=rW hM (KW hM hl k).2
end
section
variable {M:Md} (hM:M.Ok)
include hM
theorem w9:∀ (f f':Nat) (l l':List Nd) (ts bQ:List Tk),ts.length≤f→bQ.length≤f'→bI l l'→In M ts bQ→Ou M bI (dM f l ts) (dM f' l' bQ)
 | 0,_,n,n',ts,bQ,hf,_,_,hi=>by have:=(hi.len hM).1; omega
 | _ + 1,0,n,n',ts,bQ,_,hf,_,hi=>by have:=(hi.len hM).2; omega
 | f + 1,f' + 1,l,l',ts,bQ,hf,fJ,hn,hi=>by
   simp only[dM]
   refine Ou.ite (hi.aY hM _ (by decide)) (fun e=>?_) fun e=>Ou.val hi hn
   have l1:=gE e
   have l2:=gE ((hi.aY hM _ (by decide)).2 e)
   exact Ou.tl hM hi (ag e) ((iR.aO fun m=>kl f _) _) fun iD=>(oV hM _ _ iD).bd (fun _=>kl f _) fun q q' r r' e1 e2 hq hr=>by
    have:=y5 e1
    have:=y5 e2
    exact w9 f f' _ _ r r' (by omega) (by omega) (hn.app (bI.one hq)) hr
theorem xb:Rl M bI ej ej:=fun ts bQ hi=>(oV hM _ _ hi).bd (fun q r=>kl _ _ r) fun q q' r r' _ _ hq hr=>
 w9 hM _ _ _ _ r r' (afJ _) (afJ _) (bI.one hq) hr
theorem nZ:Rl M bI bJ bJ:=fun ts bQ hi=>by
 unfold bJ
 refine Ou.ite (hi.aY hM _ (by decide)) (fun e=>?_) fun e=>Ou.val hi bI.nil
 exact Ou.tl hM hi (ag e) ((qz.aO fun _=>(aN _).aO fun _=>Wg.ret _) _) fun iD=>(xb hM _ _ iD).bd (fun _=>(aN _).aO fun _=>Wg.ret _) fun l l' r r' _ _ hl hr=>
  (cY hM _ _ _ hr).bd (fun _=>Wg.ret _) fun _ _ r2 Rc _ _ _ qS=>Ou.ret qS hl
theorem AD {p p':PP Nd} (hw:Wg p) (h:Rl M cU p p'):Rl M bI (lh p) (lh p'):=fun ts bQ hi=>
 (cY hM _ _ _ hi).bd (fun _=>hw.aO fun _=>(aN _).aO fun _=>hw.aO fun _=>(aN _).aO fun _=>Wg.ret _) fun _ _ r r' _ _ _ hr=>
 (h _ _ hr).bd (fun _=>(aN _).aO fun _=>hw.aO fun _=>(aN _).aO fun _=>Wg.ret _) fun a a' r r' _ _ ha hr=>
 (cY hM _ _ _ hr).bd (fun _=>hw.aO fun _=>(aN _).aO fun _=>Wg.ret _) fun _ _ r r' _ _ _ hr=>
 (h _ _ hr).bd (fun _=>(aN _).aO fun _=>Wg.ret _) fun b b' r r' _ _ hb hr=>
 (cY hM _ _ _ hr).bd (fun _=>Wg.ret _) fun _ _ r r' _ _ _ hr=>Ou.ret hr (bI.two ha hb)
theorem FZ:Rl M bI kH kH:=fun ts bQ hi=>by
 unfold kH
 exact Ou.ite (hi.kd hM 4 (by decide)) (fun _=>xb hM _ _ hi) fun _=>Ou.val hi bI.nil
theorem KX:Rl M cU jx jx:=fun ts bQ hi=>by
 unfold jx
 exact (FZ hM _ _ hi).bd (fun _=>(aN _).aO fun _=>iR.aO fun _=>Wg.ret _) fun q q' r r' _ _ hq hr=>
  (cY hM _ _ _ hr).bd (fun _=>iR.aO fun _=>Wg.ret _) fun _ _ r r' _ _ _ hr=>
  (oV hM _ _ hr).bd (fun _=>Wg.ret _) fun c c' r r' _ _ hc hr=>Ou.ret hr (ik rfl rfl rfl (hq.app (bI.one hc)))
theorem za:∀ (f f':Nat) (l l':List Nd) (ts bQ:List Tk),ts.length≤f→bQ.length≤f'→bI l l'→In M ts bQ→Ou M bI (eU f l ts) (eU f' l' bQ)
 | 0,_,n,n',ts,bQ,hf,_,_,hi=>by have:=(hi.len hM).1; omega
 | _ + 1,0,n,n',ts,bQ,_,hf,_,hi=>by have:=(hi.len hM).2; omega
 | f + 1,f' + 1,l,l',ts,bQ,hf,fJ,hn,hi=>by
   simp only[eU]
   refine Ou.ite (hi.aY hM _ (by decide)) (fun e=>?_) fun e=>Ou.val hi hn
   have l1:=gE e
   have l2:=gE ((hi.aY hM _ (by decide)).2 e)
   exact Ou.tl hM hi (ag e) ((Ci.aO fun m=>lS f _) _) fun iD=>(KX hM _ _ iD).bd (fun _=>lS f _) fun q q' r r' e1 e2 hq hr=>by
    have:=wP.of e1
    have:=wP.of e2
    exact za f f' _ _ r r' (by omega) (by omega) (hn.app (bI.one hq)) hr
theorem EE:Rl M bI gg gg:=fun ts bQ hi=>by
 have hw:∀ (l:List Nd) (r:List Tk),Wt r (bd (eU r.length l) (fun l=>bd (aU [41]) fun _=>ret l) r):=fun l r=>((lS _ l).aO fun _=>(aN _).aO fun _=>Wg.ret _) r
 exact (cY hM _ _ _ hi).bd (fun _=>Ax.lf hw) fun _ _ r r' _ _ _ hr=>(FZ hM _ _ hr).bd hw fun l l' r r' _ _ hl hr=>
  (za hM _ _ _ _ r r' (afJ _) (afJ _) hl hr).bd (fun _=>(aN _).aO fun _=>Wg.ret _) fun l l' r r' _ _ hl hr=>
  (cY hM _ _ _ hr).bd (fun _=>Wg.ret _) fun _ _ r r' _ _ _ hr=>Ou.ret hr hl
theorem OT {x x':PP Nd} (hw:Wg x) (h:Rl M cU x x'):Rl M cU (vi x) (vi x'):=fun ts bQ hi=>
 (gG hM (by decide) _ _ hi).bd (fun _=>(aN _).aO fun _=>hw.aO fun _=>Wg.ret _) fun t t' r r' _ _ ht hr=>
 (cY hM _ _ _ hr).bd (fun _=>hw.aO fun _=>Wg.ret _) fun _ _ r r' _ _ _ hr=>
 (h _ _ hr).bd (fun _=>Wg.ret _) fun y y' r r' _ _ hy hr=>Ou.ret hr (ik rfl ht.2.1 rfl (bI.one hy))
theorem F0 {x x':PP Nd} (hw:Wg x) (h1:Dn x) (h2:Dn x') (h:Rl M cU x x'):∀ (f f':Nat) (l l':List Nd) (ts bQ:List Tk),ts.length≤f→bQ.length≤f'→bI l l'→In M ts bQ→Ou M bI (lM x f l ts) (lM x' f' l' bQ)
 | 0,_,n,n',ts,bQ,hf,_,_,hi=>by have:=(hi.len hM).1; omega
 | _ + 1,0,n,n',ts,bQ,_,hf,_,hi=>by have:=(hi.len hM).2; omega
 | f + 1,f' + 1,l,l',ts,bQ,hf,fJ,hn,hi=>by
   simp only[lM]
   refine (OT hM hw h _ _ hi).bd (fun m r=>Wt.ite (fun e=>Wt.tl (ag e) (vA hw f _ _)) fun _=>Wt.val) fun m m' r r' e1 e2 hm hr=>?_
   have:=(Av h1).of e1
   have:=(Av h2).of e2
   refine Ou.ite (hr.aY hM _ (by decide)) (fun e=>?_) fun e=>Ou.val hr (hn.app (bI.one hm))
   have l1:=gE e
   have l2:=gE ((hr.aY hM _ (by decide)).2 e)
   exact Ou.tl hM hr (ag e) (vA hw f _ _) fun iD=>F0 hw h1 h2 h f f' _ _ _ _ (by omega) (by omega) (hn.app (bI.one hm)) iD
theorem KY {x x':PP Nd} (hw:Wg x) (h1:Dn x) (h2:Dn x') (h:Rl M cU x x'):Rl M bI (kR x) (kR x'):=fun ts bQ hi=>by
 unfold kR
 exact (F0 hM hw h1 h2 h _ _ _ _ ts bQ (aie _) (aie _) bI.nil hi).bd (fun _=>(aN _).aO fun _=>Wg.ret _) fun l l' r r' _ _ hl hr=>
  (cY hM _ _ _ hr).bd (fun _=>Wg.ret _) fun _ _ r r' _ _ _ hr=>Ou.ret hr hl
omit hM in
theorem tS (k:Nat):∀ x,dW k=some x→Wg x:=by
 intro x hx
 cases k with
 | zero=>cases hx
 | succ k=>cases hx; exact rU k
theorem vC {k k':Nat} (fj:Az M (Rl M cU) (dW k) (dW k')):Rl M cU (bV (dW k)) (bV (dW k')):=fun ts bQ hi=>by
 have nn:∀ {c:Int} {l l':List Nd},bI l l'→cU (.mk c [] 0 (hd ts).at_ l) (.mk c [] 0 (hd bQ).at_ l'):=fun h=>ik rfl rfl rfl h
 unfold bV
 refine Ou.ite (hi.kd hM 1 (by decide)) (fun _=>tR hM _ _ _ hi) fun _=>?_
 refine Ou.ite (hi.aY hM _ (by decide)) (fun e=>Ou.one hM hi (ag e) (nn bI.nil)) fun _=>?_
 refine Ou.ite (hi.aY hM _ (by decide)) (fun e=>Ou.one hM hi (ag e) (nn bI.nil)) fun _=>?_
 refine Ou.ite (hi.aY hM _ (by decide)) (fun e=>Ou.tl hM hi (ag e) ((hP.aO fun _=>Wg.ret _) _) fun iD=>(nZ hM _ _ iD).bd (fun _=>Wg.ret _) fun l l' r r' _ _ hl hr=>Ou.ret hr (nn hl)) fun _=>?_
 refine Ou.ite (hi.aY hM _ (by decide)) (fun e=>Ou.tl hM hi (ag e) ((hP.aO fun _=>Wg.ret _) _) fun iD=>(nZ hM _ _ iD).bd (fun _=>Wg.ret _) fun l l' r r' _ _ hl hr=>Ou.ret hr (nn hl)) fun _=>?_
 refine Ou.ite (hi.aY hM _ (by decide)) (fun e=>?_) fun _=>?_
 ·exact mI hM fj (by decide) (fun x hx=>hP.aO fun _=>(tS k x hx).aO fun _=>Wg.ret _) (fun x x' hx IE hR us KR iD=>(nZ hM _ _ iD).bd (fun _=>(tS k x hx).aO fun _=>Wg.ret _) fun l l' r r' _ _ hl hr=>
   (hR _ _ hr).bd (fun _=>Wg.ret _) fun y y' r r' _ _ hy hr=>Ou.ret hr (nn (hl.app (bI.one hy)))) hi
 refine Ou.ite (hi.aY hM _ (by decide)) (fun e=>Ou.tl hM hi (ag e) (((oU mH).aO fun _=>Wg.ret _) _) fun iD=>(AD hM mH (AA hM) _ _ iD).bd (fun _=>Wg.ret _) fun l l' r r' _ _ hl hr=>Ou.ret hr (nn hl)) fun _=>?_
 refine Ou.ite (hi.aY hM _ (by decide)) (fun e=>Ou.tl hM hi (ag e) (((oU mH).aO fun _=>Wg.ret _) _) fun iD=>(AD hM mH (AA hM) _ _ iD).bd (fun _=>Wg.ret _) fun l l' r r' _ _ hl hr=>Ou.ret hr (nn hl)) fun _=>?_
 refine Ou.ite (hi.aY hM _ (by decide)) (fun e=>?_) fun _=>?_
 ·exact mI hM fj (by decide) (fun x hx=>(oU (tS k x hx)).aO fun _=>Wg.ret _) (fun x x' hx IE hR us KR iD=>(AD hM (tS k x hx) hR _ _ iD).bd (fun _=>Wg.ret _) fun l l' r r' _ _ hl hr=>Ou.ret hr (nn hl)) hi
 refine Ou.ite (hi.aY hM _ (by decide)) (fun e=>?_) fun _=>?_
 ·exact mI hM fj (by decide) (fun x hx=>(Cj (tS k x hx)).aO fun _=>Wg.ret _) (fun x x' hx IE hR us KR iD=>(KY hM (tS k x hx) (Ew k x hx) (Ew k' x' IE) hR _ _ iD).bd (fun _=>Wg.ret _) fun l l' r r' _ _ hl hr=>Ou.ret hr (nn hl)) hi
 exact Ou.ite (hi.aY hM _ (by decide)) (fun e=>Ou.tl hM hi (ag e) ((wY.aO fun _=>Wg.ret _) _) fun iD=>(EE hM _ _ iD).bd (fun _=>Wg.ret _) fun l l' r r' _ _ hl hr=>Ou.ret hr (nn hl)) fun _=>Ou.err hi
theorem F1:∀ k:Nat,Rl M cU (gX k) (gX k)∧Az M (Rl M cU) (dW k) (dW k):=by
 have key:∀ k,Az M (Rl M cU) (dW k) (dW k)→Rl M cU (gX k) (gX k):=fun k h=>by
  rw[fg]; exact vC hM h
 intro k
 induction k with
 | zero=>
   have h:Az M (Rl M cU) (dW 0) (dW 0):=⟨fun x' h=>(by cases h),fun _=>.inl rfl⟩
   exact ⟨key 0 h,h⟩
 | succ k ih=>
   have h:Az M (Rl M cU) (dW (k + 1)) (dW (k + 1)):=⟨fun x' h=>⟨x',h,by cases h; exact ih.1⟩,fun h=>by cases h⟩
   exact ⟨key _ h,h⟩
theorem Hx (hl:M.Ra):∀ k:Nat,Rl M cU (gX (k + 1)) (gX k)∧Az M (Rl M cU) (dW (k + 1)) (dW k):=by
 have key:∀ k,Az M (Rl M cU) (dW (k + 1)) (dW k)→Rl M cU (gX (k + 1)) (gX k):=fun k h=>by
  rw[fg,fg]; exact vC hM h
 intro k
 induction k with
 | zero=>
   have h:Az M (Rl M cU) (dW 1) (dW 0):=⟨fun x' h=>(by cases h),fun _=>.inr hl⟩
   exact ⟨key 0 h,h⟩
 | succ k ih=>
   have h:Az M (Rl M cU) (dW (k + 2)) (dW (k + 1)):=⟨fun x' h=>⟨gX (k + 1),rfl,by cases h; exact ih.1⟩,fun h=>by cases h⟩
   exact ⟨key _ h,h⟩
theorem KZ (hl:M.Ra) (k:Nat):Rl M cU (bV (dW (k + 1))) (bV (dW k)):=vC hM (Hx hM hl k).2
theorem Cp:Rl M (fun a b=>a=b) eV eV:=fun ts bQ hi=>by
 unfold eV
 refine Ou.ite (hi.aY hM _ (by decide)) (fun e=>Ou.one hM hi (ag e) rfl) fun _=>?_
 refine Ou.ite (hi.aY hM _ (by decide)) (fun e=>Ou.one hM hi (ag e) rfl) fun _=>?_
 refine Ou.ite (hi.aY hM _ (by decide)) (fun e=>Ou.one hM hi (ag e) rfl) fun _=>?_
 exact Ou.ite (hi.aY hM _ (by decide)) (fun e=>Ou.one hM hi (ag e) rfl) fun _=>Ou.err hi
theorem HE:Rl M cU eA eA:=fun ts bQ hi=>
 (gG hM (by decide) _ _ hi).bd (fun _=>(aN _).aO fun _=>nY.aO fun _=>Wg.ret _) fun t t' r r' _ _ ht hr=>
 (cY hM _ _ _ hr).bd (fun _=>nY.aO fun _=>Wg.ret _) fun _ _ r r' _ _ _ hr=>
 (Cp hM _ _ hr).bd (fun _=>Wg.ret _) fun y y' r r' _ _ hy hr=>Ou.ret hr (ik rfl ht.2.1 hy bI.nil)
theorem HF (kind:Int):Rl M (fun a b=>a=b) (if kind=5 then bd (aU [58]) fun _=>eV else ret 0) (if kind=5 then bd (aU [58]) fun _=>eV else ret 0):=by
 split
 ·exact fun ts bQ hi=>(cY hM _ _ _ hi).bd (fun _=>nY) fun _ _ r r' _ _ _ hr=>Cp hM _ _ hr
 ·exact fun ts bQ hi=>Ou.ret hi rfl
theorem Cq (a a' kind:Int):Rl M cU (wK a kind) (wK a' kind):=fun ts bQ hi=>by
 have w1:∀ (t:Tk) (ps:List Nd) (o:Nd) (n:Int) (e:Nd),Wg (bd (aU [59]) fun _=>ret (Nd.mk kind t.text n a (ps ++ [o] ++ [e]))):=fun t ps o n e=>(aN _).aO fun _=>Wg.ret _
 have w2:=fun (t:Tk) (ps:List Nd) (o:Nd) (n:Int)=>Ck.aO fun e=>w1 t ps o n e
 have w3:=fun (t:Tk) (ps:List Nd) (o:Nd) (n:Int)=>(aN [61]).aO fun _=>w2 t ps o n
 have w4:=fun (t:Tk) (ps:List Nd) (o:Nd)=>(y8 kind).aO fun n=>w3 t ps o n
 have w5:=fun (t:Tk) (ps:List Nd)=>(oQ 48).aO fun o=>w4 t ps o
 have w6:=fun (t:Tk) (ps:List Nd)=>(aN [111,110]).aO fun _=>w5 t ps
 have w7:=fun (t:Tk)=>(nX tQ).aO fun ps=>w6 t ps
 have w8:=fun (t:Tk)=>(aN [40]).aO fun _=>w7 t
 exact (gG hM (by decide) _ _ hi).bd (fun t=>w8 t) fun t t' r r' _ _ ht hr=>
  (cY hM _ _ _ hr).bd (fun _=>w7 t) fun _ _ r r' _ _ _ hr=>
  (Co hM tQ tP tP (HE hM) _ _ hr).bd (fun ps=>w6 t ps) fun ps ps' r r' _ _ qQ hr=>
  (cY hM _ _ _ hr).bd (fun _=>w5 t ps) fun _ _ r r' _ _ _ hr=>
  (tR hM _ _ _ hr).bd (fun o=>w4 t ps o) fun o o' r r' _ _ ho hr=>
  (HF hM kind _ _ hr).bd (fun n=>w3 t ps o n) fun n n' r r' _ _ hn hr=>
  (cY hM _ _ _ hr).bd (fun _=>w2 t ps o n) fun _ _ r r' _ _ _ hr=>
  (FY hM 64 _ _ hr).bd (fun e=>w1 t ps o n e) fun e e' r r' _ _ he hr=>
  (cY hM _ _ _ hr).bd (fun _=>Wg.ret _) fun _ _ r r' _ _ _ hr=>Ou.ret hr (ik rfl ht.2.1 hn ((qQ.app (bI.one ho)).app (bI.one he)))
theorem F3 (a a' kind:Int) (s:Bs):Rl M cU (Eu a kind s) (Eu a' kind s):=fun ts bQ hi=>
 (gG hM (by decide) _ _ hi).bd (fun _=>(aN _).aO fun _=>(rU 64).aO fun _=>(aN _).aO fun _=>Wg.ret _) fun t t' r r' _ _ ht hr=>
 (cY hM _ _ _ hr).bd (fun _=>(rU 64).aO fun _=>(aN _).aO fun _=>Wg.ret _) fun _ _ r r' _ _ _ hr=>
 ((F1 hM 64).1 _ _ hr).bd (fun _=>(aN _).aO fun _=>Wg.ret _) fun x x' r r' _ _ hx hr=>
 (cY hM _ _ _ hr).bd (fun _=>Wg.ret _) fun _ _ r r' _ _ _ hr=>Ou.ret hr (ik rfl ht.2.1 rfl (bI.one hx))
omit hM in
theorem HG {ts:List Tk} (h:(hd ts).kind=6):eE ts= .error (2,(hd ts).at_):=by
 have n:∀ s,¬ aY s ts=true:=fun s e=>ag e h
 unfold eE
 rw[if_neg (n _),if_neg (n _),if_neg (n _),if_neg (n _)]
theorem K0:Rl M cU eE eE:=fun ts bQ hi=>by
 rcases hi.both hM with hs | ⟨h0,h6,h'⟩
 ·have e:∀ s,aY s bQ=true↔aY s ts=true:=fun s=>by rw[fh,fh,hs.1,hs.2.1]
  unfold eE
  refine Ou.ite (e _) (fun e=>Ou.tl hM hi (ag e) (vB _ _ _ _) fun iD=>F3 hM _ _ _ _ _ _ iD) fun _=>?_
  refine Ou.ite (e _) (fun e=>Ou.tl hM hi (ag e) (vB _ _ _ _) fun iD=>F3 hM _ _ _ _ _ _ iD) fun _=>?_
  refine Ou.ite (e _) (fun e=>Ou.tl hM hi (ag e) (rV _ _ _) fun iD=>Cq hM _ _ _ _ _ iD) fun _=>?_
  exact Ou.ite (e _) (fun e=>Ou.tl hM hi (ag e) (rV _ _ _) fun iD=>Cq hM _ _ _ _ _ iD) fun _=>Ou.err hi
 ·rw[HG h6]; exact Ou.kx h0
theorem Cr (hk:¬ M.kx):∀ (f f':Nat) (l l':List Nd) (ts bQ:List Tk),ts.length≤f→bQ.length≤f'→bI l l'→In M ts bQ→Ou M bI (jd f l ts) (jd f' l' bQ)
 | 0,_,n,n',ts,bQ,hf,_,_,hi=>by have:=(hi.len hM).1; omega
 | _ + 1,0,n,n',ts,bQ,_,hf,_,hi=>by have:=(hi.len hM).2; omega
 | f + 1,f' + 1,l,l',ts,bQ,hf,fJ,hn,hi=>by
   simp only[jd]
   have hs:Ay (hd ts) (hd bQ):=by
    rcases hi.both hM with h | ⟨h,_⟩
    ·exact h
    ·exact absurd h hk
   have hl:=hi.len hM
   refine Ou.ite (by rw[hs.1]) (fun _=>Ou.val hi hn) fun _=>(K0 hM _ _ hi).bd (fun d=>Cl f _) fun d d' r r' e1 e2 hd hr=>?_
   have:=wQ e1 (aho.1 hl.1)
   have:=wQ e2 (aho.1 hl.2)
   exact Cr hk f f' _ _ r r' (by omega) (by omega) (hn.app (bI.one hd)) hr
theorem K1 (hk:¬ M.kx):Rl M cU ft ft:=fun ts bQ hi=>by
 unfold ft
 exact (Cr hM hk _ _ _ _ ts bQ (aie _) (aie _) bI.nil hi).bd (fun _=>Wg.ret _) fun l l' r r' _ _ hl hr=>Ou.ret hr (ik rfl rfl rfl hl)
end
def UN (o:Bool) (x y:Tk):Bool:=decide (x.kind=y.kind) && (decide (x.text=y.text) && (decide (x.n=y.n) && (!o || decide (x.at_=y.at_))))
def eW (o:Bool):List Tk→List Tk→Bool
 | [],[]=>true
 | x :: xs,y :: ys=>UN o x y && eW o xs ys
 | _,_=>false
theorem oX {o:Bool}:∀ {a b:List Tk},eW o a b=true→a.length=b.length
 | [],[],_=>rfl
 | x :: xs,y :: ys,h=>by
   simp only[eW,ae5] at h
   simp[oX h.2]
 | [],_ :: _,h=>by simp[eW] at h
 | _ :: _,[],h=>by simp[eW] at h
def fM (t:Tk):Bs:=if t.kind=3 then ah4 t.n else if t.kind=4 then 39 :: (t.text ++ [39]) else if t.kind=6 then [] else t.text
def lp (t:Tk):Bool:=
 (decide (t.kind=3) || decide (t.n=0)) && (if t.kind=1 then bM t.text && !ve t.text else if t.kind=2 then ve t.text else if t.kind=3 then decide (t.text=[]) && (decide (0≤t.n) && decide (t.n≤1000000000000000))
  else if t.kind=4 then bM t.text else if t.kind=5 then cj t.text else if t.kind=6 then decide (t.text=[]) else false)
theorem mJ:∀ (k u:Nat),u < 10 ^ (k + 1)→Lib.nDigits u≤k + 1
 | 0,u,h=>by rw[aik (by simpa using h)]; exact afJ _
 | k + 1,u,h=>by
   by_cases hu:u < 10
   ·rw[aik hu]; omega
   ·rw[Lib.nDigits_big hu]
    have:=mJ k (u / 10) (by rw[Nat.pow_succ] at h; omega)
    omega
theorem Cs {n:Int} (h0:0≤n) (h1:n≤1000000000000000):(ah4 n).length≤16:=by
 unfold ah4
 rw[if_neg (by omega),Lib.decDigits_eq,aia,List.length_range]
 refine mJ 15 n.toNat ?_
 have:n.toNat≤1000000000000000:=by omega
 exact Nat.lt_of_le_of_lt this (by decide)
theorem oY {s:Bs} (h:bM s=true):s.length≤16:=by
 unfold bM at h
 simp only[ae5,decide_eq_true_eq] at h
 exact h.2.1
theorem iA {n:Nat} (h:n < 10):ah5 n=[UInt8.ofNat (48 + n)]:=by rw[ah5,dif_pos h]
theorem EF {n:Nat} (h:¬ n < 10):ah5 n=ah5 (n / 10) ++ ah5 (n % 10):=by
 rw[ah5,dif_neg h,iA (n:=n % 10) (by omega)]
theorem km (u:Nat):ah4 (u:Int)=ah5 u:=by
 unfold ah4; rw[if_neg (by omega)]; simp
theorem zb (c:UInt8) (v:Bs):∀ (a:Nat),my a (v ++ [c])=10 * my a v + (c.toNat - 48):=by
 induction v with
 | nil=>intro a; rfl
 | cons d v ih=>
   intro a
   have e1:my a (d :: v ++ [c])=my (10 * a + (d.toNat - 48)) (v ++ [c]):=rfl
   have e2:my a (d :: v)=my (10 * a + (d.toNat - 48)) v:=rfl
   rw[e1,e2,ih]
theorem AE (n a:Int):fM ⟨3,[],n,a⟩=ah4 n:=rfl
theorem Cu (t:Bs) (a:Int):lp ⟨5,t,0,a⟩=cj t:=by simp[lp]
theorem rX (c:UInt8):dh c=true↔48≤c.toNat∧c.toNat≤57:=by
 simp only[dh,ae5,decide_eq_true_eq]; omega
theorem Cv {c:UInt8} (h:dh c=true):UInt8.ofNat (48 + (c.toNat - 48))=c:=by
 rw[rX] at h
 apply UInt8.toNat_inj.1
 rw[UInt8.toNat_ofNat']
 omega
theorem K2 {P:Bs→Prop} (h0:P []) (h1:∀ v c,P v→P (v ++ [c])) (w:Bs):P w:=by
 have:∀ n (w:Bs),w.length=n→P w:=by
  intro n
  induction n with
  | zero=>intro w h; rw[afL h]; exact h0
  | succ n ih=>
    intro w h
    have dH:w≠[]:=fun e=>by rw[e] at h; cases h
    rw[← List.dropLast_concat_getLast dH]
    exact h1 _ _ (ih _ (by rw[List.length_dropLast]; omega))
 exact this _ w rfl
theorem UO (w:Bs):w.all dh=true→w≠[]→w.getD 0 0≠48→ah5 (iG w)=w∧1≤iG w:=by
 refine K2 (P:=fun w=>w.all dh=true→w≠[]→w.getD 0 0≠48→ah5 (iG w)=w∧1≤iG w) (fun _ h=>absurd rfl h) ?_ w
 intro v c ih dk _ hh
 rw[aid,ae5] at dk
 have hc:dh c=true:=by simpa using dk.2
 have hc':=(rX c).1 hc
 have hn:iG (v ++ [c])=10 * iG v + (c.toNat - 48):=zb c v 0
 cases v with
 | nil=>
   have dH:c≠48:=hh
   have Ai:c.toNat≠48:=fun e=>dH (UInt8.toNat_inj.1 (by rw[e]; decide))
   have e0:iG ([]:Bs)=0:=rfl
   rw[hn,e0]
   refine ⟨?_,by omega⟩
   rw[show 10 * 0 + (c.toNat - 48)=c.toNat - 48 by omega,iA (by omega),Cv hc]; rfl
 | cons d v'=>
   obtain ⟨h1,h2⟩:=ih dk.1 (by simp) hh
   generalize iG (d :: v')=u at *
   rw[hn]
   refine ⟨?_,by omega⟩
   rw[EF (by omega),show (10 * u + (c.toNat - 48)) / 10=u by omega,show (10 * u + (c.toNat - 48)) % 10=c.toNat - 48 by omega,h1,iA (by omega),Cv hc]
theorem K3 (n:Nat):(ah5 n).all dh=true∧iG (ah5 n)=n∧ah5 n≠[]∧(1 < (ah5 n).length→(ah5 n).getD 0 0≠48):=by
 induction n using Nat.strongRecOn with
 | _ n ih=>
   have P3:∀ k,k < 10→dh (UInt8.ofNat (48 + k))=true∧(UInt8.ofNat (48 + k)).toNat - 48=k∧(1≤k→UInt8.ofNat (48 + k)≠48):=by decide
   by_cases h:n < 10
   ·rw[iA h]
    obtain ⟨a,b,_⟩:=P3 n h
    refine ⟨by rw[afb,a]; rfl,?_,by simp,by simp⟩
    show 10 * 0 + ((UInt8.ofNat (48 + n)).toNat - 48)=n
    omega
   ·obtain ⟨i1,i2,i3,i4⟩:=ih (n / 10) (by omega)
    obtain ⟨a,b,_⟩:=P3 (n % 10) (by omega)
    rw[EF h,iA (n:=n % 10) (by omega)]
    refine ⟨by rw[aid,i1,afb,a]; rfl,?_,by simp,fun _=>?_⟩
    ·show my 0 _=n
     rw[zb]
     have:my 0 (ah5 (n / 10))=n / 10:=i2
     rw[this,b]; omega
    ·cases e:ah5 (n / 10) with
     | nil=>exact absurd e i3
     | cons c v=>
       rw[e] at i2 i4
       show c≠48
       cases v with
       | nil=>
         intro hc
         subst hc
         have:iG [48]=0:=by decide
         omega
       | cons d v'=>exact i4 (by simp)
theorem zc {c:UInt8} (h:fV c=true):bg c=true:=by simp[bg,h]
theorem p9 (p:UInt8→Bool) (w:Bs) (h:w.all p=true):w.takeWhile p=w:=by
 induction w with
 | nil=>rfl
 | cons c r ih=>
   rw[afb,ae5] at h
   rw[ahr,if_pos h.1,ih h.2]
theorem EG {s:Bs} {k n:Int} {t:Bs} {m:Nat} (h:cl s= .ok k t n m) (h6:k≠6) (a:Int) :
 lp ⟨k,t,n,a⟩=true∧m=(fM ⟨k,t,n,a⟩).length∧s.take m=fM ⟨k,t,n,a⟩:=by
 cases s with
 | nil=>simp only[cl,TR.ok.injEq] at h; exact absurd h.1.symm h6
 | cons c r=>
   simp only[cl] at h
   split at h
   ·rename_i hc
    have Rd:=lK bg (c :: r)
    unfold lJ at Rd
    have dk:((c :: r).takeWhile bg).all bg=true:=ahM
    have hhd:((c :: r).takeWhile bg).getD 0 0=c:=by rw[ahr,if_pos (zc hc)]; rfl
    have tE:0 < ((c :: r).takeWhile bg).length:=by rw[ahr,if_pos (zc hc)]; simp
    generalize (c :: r).takeWhile bg=w at *
    unfold wi at h
    split at h
    ·cases h
    ·rename_i BR
     simp only[TR.ok.injEq] at h
     obtain ⟨h1,rfl,rfl,rfl⟩:=h
     have hv:bM w=true:=by
      unfold bM
      rw[dk,hhd,hc]
      simp; omega
     cases ek:ve w
     ·rw[ek] at h1
      obtain rfl:(1:Int)=k:=h1
      exact ⟨by simp[lp,hv,ek],rfl,Rd⟩
     ·rw[ek] at h1
      obtain rfl:(2:Int)=k:=h1
      exact ⟨by simp[lp,ek],rfl,Rd⟩
   ·split at h
    ·rename_i _ hc
     have Rd:=lK dh (c :: r)
     unfold lJ at Rd
     have dk:((c :: r).takeWhile dh).all dh=true:=ahM
     have dH:(c :: r).takeWhile dh≠[]:=by rw[ahr,if_pos hc]; simp
     generalize (c :: r).takeWhile dh=w at *
     unfold yx at h
     split at h
     ·cases h
     ·rename_i uJ
      split at h
      ·cases h
      ·rename_i BK
       simp only[TR.ok.injEq] at h
       obtain ⟨rfl,rfl,rfl,rfl⟩:=h
       have Bd:ah5 (iG w)=w:=by
        by_cases Ai:w.getD 0 0=48
        ·match w,dH,uJ,Ai with
         | [d],_,_,Ai=>
           obtain rfl:d=48:=Ai
           show ah5 0=_
           rw[iA (by decide)]; rfl
         | d :: e :: v,_,uJ,Ai=>exact absurd ⟨by simp,Ai⟩ uJ
        ·exact (UO w dk dH Ai).1
       have rr:fM ⟨3,[],(iG w:Int),a⟩=w:=by
        rw[AE,km,Bd]
       rw[rr]
       refine ⟨?_,rfl,Rd⟩
       simp[lp]; omega
    ·split at h
     ·rename_i hq
      have Rd:=lK bg r
      have hdw:=wk bg r
      unfold lJ at Rd hdw
      unfold wj at h
      split at h
      ·cases h
      ·rename_i dH
       split at h
       ·rename_i hv
        simp only[TR.ok.injEq] at h
        obtain ⟨rfl,rfl,rfl,rfl⟩:=h
        have ad3:c=39:=by
         apply UInt8.toNat_inj.1
         have:(UInt8.toNat 39)=39:=by decide
         omega
        generalize hw:r.takeWhile bg=w at *
        cases hd:r.dropWhile bg with
        | nil=>exact absurd (.inl hd) dH
        | cons d u=>
          have TH:d=39:=by
           by_cases hx:d=39
           ·exact hx
           ·exact absurd (.inr (by rw[hd]; simpa using hx)) dH
          subst TH ad3
          have hr:r=w ++ 39 :: u:=by
           rw[← hd,← hw]; exact List.takeWhile_append_dropWhile.symm
          refine ⟨by simp[lp,hv],by simp[fM],?_⟩
          show (39 :: r).take (w.length + 2)=39 :: (w ++ [39])
          rw[ahq,hr,show w ++ 39 :: u=(w ++ [39]) ++ u by simp,show w.length + 1=(w ++ [39]).length by simp,List.take_left]
       ·cases h
     ·unfold rA at h
      split at h
      ·rename_i h2
       simp only[TR.ok.injEq] at h
       obtain ⟨rfl,rfl,rfl,rfl⟩:=h
       refine ⟨by rw[Cu]; exact h2.2,?_,rfl⟩
       show 2=((c :: r).take 2).length
       rw[List.length_take]; omega
      ·split at h
       ·rename_i h1
        simp only[TR.ok.injEq] at h
        obtain ⟨rfl,rfl,rfl,rfl⟩:=h
        refine ⟨by rw[Cu]; exact h1,?_,rfl⟩
        show 1=((c :: r).take 1).length
        simp
       ·cases h
theorem jP (f:Nat) (s:Bs) (o:Nat):j8 (f + 1) s o=match cl (s.drop (ew false s)) with
 | .bad e=>.bad e (o + ew false s)
 | .ok k t n m=>if k=6 then .ok [⟨k,t,n,(o + ew false s:Nat)⟩] else LR.cons ⟨k,t,n,(o + ew false s:Nat)⟩ (j8 f (s.drop (ew false s + m)) (o + ew false s + m)):=rfl
theorem OU {s:Bs} {k n:Int} {t:Bs} {m:Nat} (h:cl s= .ok k t n m):k=6↔s=[]:=by
 obtain ⟨h1,h2,h3⟩:=ka h
 exact ⟨fun h6=>by
  by_cases e:s=[]
  ·exact e
  ·exact absurd h6 (h2 e).2,h3⟩
theorem OV {k n:Int} {t:Bs} {m:Nat} (h:cl []= .ok k t n m):k=6∧t=[]∧n=0∧m=0:=by
 simp only[cl,TR.ok.injEq] at h
 obtain ⟨rfl,rfl,rfl,rfl⟩:=h
 exact ⟨rfl,rfl,rfl,rfl⟩
def tT (e:Nat):Bs→Nat→List Tk→Prop
 | _,_,[]=>False
 | s,o,t :: r=>(r=[]∧t=⟨6,[],0,(e:Int)⟩∧e=o + s.length)∨
  (lp t=true∧t.kind≠6∧∃ q:Nat,q + (fM t).length≤s.length∧t.at_=(o + q:Nat)∧1≤(fM t).length∧(s.drop q).take (fM t).length=fM t∧tT e (s.drop (q + (fM t).length)) (o + q + (fM t).length) r)
theorem qA:∀ (f:Nat) (s:Bs) (o:Nat) (ts:List Tk),s.length < f→j8 f s o= .ok ts→tT (o + s.length) s o ts
 | 0,s,o,ts,h,_=>by omega
 | f + 1,s,o,ts,hf,h=>by
   rw[jP] at h
   have hk:=nL false s
   cases e:cl (s.drop (ew false s)) with
   | bad c=>rw[e] at h; cases h
   | ok k t n m=>
     rw[e] at h
     obtain ⟨l1,l2,l3⟩:=ka e
     simp only at h
     split at h
     ·rename_i h6
      have wT:=(OU e).1 h6
      rw[wT] at e
      obtain ⟨_,rfl,rfl,_⟩:=OV e
      cases h
      have hlen:s.length≤ew false s:=by
       have:=congrArg List.length wT
       simp only[ahs,aht] at this
       omega
      refine .inl ⟨rfl,?_,rfl⟩
      have:ew false s=s.length:=by omega
      rw[this,h6]
     ·rename_i h6
      obtain ⟨p1,p2,p3⟩:=EG e h6 (o + ew false s:Nat)
      have dH:s.drop (ew false s)≠[]:=fun q=>h6 (l3 q)
      obtain ⟨hm,_⟩:=l2 dH
      simp only[ahs] at l1
      cases er:j8 f (s.drop (ew false s + m)) (o + ew false s + m) with
      | bad c q=>rw[er] at h; cases h
      | ok r=>
        rw[er] at h
        have h':LR.ok (⟨k,t,n,(o + ew false s:Nat)⟩ :: r)=LR.ok ts:=h
        cases h'
        have ih:=qA f _ _ r (by simp only[ahs]; omega) er
        have hlen:o + ew false s + m + (s.drop (ew false s + m)).length=o + s.length:=by simp only[ahs]; omega
        rw[hlen] at ih
        rw[p2] at ih hm p3
        refine .inr ⟨p1,h6,ew false s,by rw[← p2]; omega,rfl,hm,p3,ih⟩
theorem F4 {t:Tk} (h:lp t=true) (h6:t.kind≠6):cl (fM t)= .ok t.kind t.text t.n (fM t).length:=by
 have Re:∀ g ∈ la,bM g=true:=by decide
 have hsg:∀ g ∈ eP,cl g= .ok 5 g 0 g.length:=by decide
 have word:∀ w:Bs,bM w=true→cl w= .ok (if ve w then 2 else 1) w 0 w.length:=by
  intro w hv
  unfold bM at hv
  simp only[ae5,decide_eq_true_eq] at hv
  obtain ⟨v1,v2,v3,v4⟩:=hv
  cases w with
  | nil=>simp at v1
  | cons c r=>
    have hc:fV c=true:=v3
    simp only[cl,hc,if_true]
    rw[p9 bg _ v4]
    unfold wi
    rw[if_neg (by omega)]
 obtain ⟨k,tx,n,a⟩:=t
 have hp:=h
 unfold lp at hp
 simp only[ae5,afl,decide_eq_true_eq] at hp h6
 obtain ⟨hn,hp⟩:=hp
 by_cases k1:k=1
 ·subst k1
  simp only[if_true,ae5,Bool.not_eq_true'] at hp
  have kD:n=0:=by omega
  subst kD
  show cl tx=_
  rw[word tx hp.1,hp.2]; rfl
 rw[if_neg k1] at hp
 by_cases k2:k=2
 ·subst k2
  rw[if_pos rfl] at hp
  have kD:n=0:=by omega
  subst kD
  show cl tx=_
  have hv:=Re tx (by unfold ve at hp; simpa using hp)
  rw[word tx hv,hp]; rfl
 rw[if_neg k2] at hp
 by_cases k3:k=3
 ·subst k3
  simp only[if_true,ae5,decide_eq_true_eq] at hp
  obtain ⟨rfl,h0,h1⟩:=hp
  obtain ⟨u,rfl⟩:∃ u:Nat,n=u:=⟨n.toNat,by omega⟩
  have rr:fM ⟨3,[],(u:Int),a⟩=ah5 u:=by
   rw[AE,km]
  rw[rr]
  obtain ⟨d1,d2,d3,d4⟩:=K3 u
  show cl (ah5 u)= .ok 3 [] (u:Int) _
  generalize ah5 u=w at *
  cases w with
  | nil=>exact absurd rfl d3
  | cons c r=>
    have hc:dh c=true:=by rw[afb,ae5] at d1; exact d1.1
    have hl:fV c=false:=by
     rw[rX] at hc
     simp[fV]; omega
    simp only[cl,hl,hc,ae6,if_false,if_true]
    rw[p9 dh _ d1]
    unfold yx
    rw[if_neg (fun q=>d4 q.1 q.2),if_neg (by rw[d2]; omega),d2]
 rw[if_neg k3] at hp
 have kD:n=0:=by omega
 subst kD
 by_cases k4:k=4
 ·subst k4
  rw[if_pos rfl] at hp
  show cl (39 :: (tx ++ [39]))= .ok 4 tx 0 (39 :: (tx ++ [39])).length
  have hv:=hp
  unfold bM at hv
  simp only[ae5,decide_eq_true_eq] at hv
  have dk:∀ x ∈ tx,bg x=true:=List.all_eq_true.1 hv.2.2.2
  have a1:fV 39=false:=by decide
  have a2:dh 39=false:=by decide
  have a3:((UInt8.toNat 39:Nat):Int)=39:=by decide
  simp only[cl,a1,a2,a3,ae6,if_false,if_true]
  have e1:(tx ++ [39]).takeWhile bg=tx:=by
   rw[List.takeWhile_append_of_pos dk]
   have:([39]:Bs).takeWhile bg=[]:=by decide
   rw[this]; simp
  have e2:(tx ++ [39]).dropWhile bg=[39]:=by
   rw[List.dropWhile_append_of_pos dk]; decide
  rw[e1,e2]
  unfold wj
  rw[if_neg (by simp),if_pos hp]
  simp
 rw[if_neg k4] at hp
 by_cases k5:k=5
 ·subst k5
  rw[if_pos rfl] at hp
  show cl tx=_
  rw[hsg tx (by unfold cj at hp; simpa using hp)]
  rfl
 ·rw[if_neg k5,if_neg h6] at hp
  cases hp
theorem rY {t:Tk} (h:lp t=true) (h6:t.kind≠6) (s:Bs):fM t≠[]∧ew false (fM t ++ s)=0:=by
 have ht:=F4 h h6
 have hlen:=ka ht
 have dH:fM t≠[]:=fun e=>h6 (hlen.2.2 e)
 refine ⟨dH,?_⟩
 cases e:fM t with
 | nil=>exact absurd e dH
 | cons c r=>
   rw[e] at ht
   rw[ahm]
   refine yT ?_ ?_ _
   ·cases hb:cN c
    ·rfl
    ·exfalso
     obtain ⟨b1,b2,b3⟩:=tC hb
     have hq:¬ (c.toNat:Int)=39:=by
      simp only[cN,afl,decide_eq_true_eq] at hb; omega
     simp only[cl,b1,b2,hq,ae6,if_false] at ht
     have hs:∀ x:UInt8,cN x=true→∀ g ∈ eP,g.getD 0 0≠x:=by
      intro x hx g hg e
      simp only[cN,afl,decide_eq_true_eq] at hx
      have:∀ g ∈ eP,¬ cN (g.getD 0 0)=true:=by decide
      exact this g hg (by rw[e]; simp only[cN,afl,decide_eq_true_eq]; exact hx)
     unfold rA at ht
     split at ht
     ·rename_i h2
      have:=h2.2
      unfold cj at this
      rw[decide_eq_true_eq] at this
      exact hs c hb _ this rfl
     ·split at ht
      ·rename_i h2
       unfold cj at h2
       rw[decide_eq_true_eq] at h2
       exact hs c hb _ h2 rfl
      ·cases ht
   ·intro hh
    have b1:fV c=false:=by simp[fV]; omega
    have b2:dh c=false:=by simp[dh]; omega
    have hq:¬ (c.toNat:Int)=39:=by omega
    simp only[cl,b1,b2,hq,ae6,if_false] at ht
    have:∀ g ∈ eP,(g.getD 0 0).toNat≠35:=by decide
    unfold rA at ht
    split at ht
    ·rename_i h2
     have h3:=h2.2
     unfold cj at h3
     rw[decide_eq_true_eq] at h3
     exact this _ h3 (by show c.toNat=35; omega)
    ·split at ht
     ·rename_i h2
      unfold cj at h2
      rw[decide_eq_true_eq] at h2
      exact this _ h2 (by show c.toNat=35; omega)
     ·cases ht
theorem K4 {t:Tk} (h:lp t=true) (h6:t.kind≠6) {s:Bs} (hs:s=[]∨∃ y,s=32 :: y) (f:Nat) (o:Nat) :
 j8 (f + 1) (fM t ++ s) o=LR.cons ⟨t.kind,t.text,t.n,(o:Int)⟩ (j8 f s (o + (fM t).length)):=by
 obtain ⟨dH,QU⟩:=rY h h6 s
 have ht:=F4 h h6
 have nM:cl (fM t ++ s)= .ok t.kind t.text t.n (fM t).length:=by
  have h0:cl (fM t ++ [])= .ok t.kind t.text t.n (fM t).length:=by rw[ah7]; exact ht
  refine BQ h0 dH ?_
  rcases hs with rfl | ⟨y,rfl⟩
  ·exact .inl rfl
  ·exact .inr (.inr ⟨by show cN 32=true; decide,by simp⟩)
 rw[jP,QU,aic,nM]
 simp only
 rw[if_neg h6,afT,List.drop_left,ahl]
theorem xc {x y:Tk}:UN false x y=true↔Ay x y:=by
 unfold Ay
 simp only[UN,ae5,decide_eq_true_eq,Bool.not_false,Bool.true_or,and_true]
theorem mK {x y:Tk} {a b:List Tk} (h:Ay x y) (h':eW false a b=true):eW false (x :: a) (y :: b)=true:=by
 simp only[eW,ae5]
 exact ⟨xc.2 h,h'⟩
theorem Cw:∀ {a b:List Tk} (i:Nat),eW false a b=true→Ay (hd (a.drop i)) (hd (b.drop i))
 | [],[],i,_=>by simp[Ay]
 | x :: a,y :: b,0,h=>by
   simp only[eW,ae5] at h
   exact xc.1 h.1
 | x :: a,y :: b,i + 1,h=>by
   simp only[eW,ae5] at h
   exact Cw i h.2
 | [],_ :: _,_,h=>by simp[eW] at h
 | _ :: _,[],_,h=>by simp[eW] at h
def Lx (s:Bs) (T:List Tk):Prop:=∀ o,∃ T',j8 (s.length + 1) s o= .ok T'∧eW false T' T=true
def eT:Tk:=⟨6,[],0,0⟩
def eK:Tk:=⟨5,[40],0,0⟩
def cR:Tk:=⟨5,[41],0,0⟩
theorem Lx.at {s:Bs} {T:List Tk} (h:Lx s T) {f:Nat} (hf:s.length < f) (o:Nat):∃ T',j8 f s o= .ok T'∧eW false T' T=true:=by
 obtain ⟨T',h1,h2⟩:=h o
 exact ⟨T',by rw[tB f (s.length + 1) s o hf (by omega)]; exact h1,h2⟩
theorem Lx.jb {s:Bs} {T:List Tk} (h:Lx s T) (hl:s.length≤65536):∃ T',jb s= .ok T'∧eW false T' T=true:=by
 unfold Go.Proofs.YtmhdkbmnpekpoaaGreatDoor.jb Ae
 rw[if_neg (by omega),aic]
 exact h 0
theorem Lx.nil:Lx [] [eT]:=fun o=>⟨[⟨6,[],0,(o:Int)⟩],rfl,mK ⟨rfl,rfl,rfl⟩ rfl⟩
theorem Lx.sign {c:UInt8} (h:c=40∨c=41) {s:Bs} {T:List Tk} (hs:Lx s T):Lx (c :: s) (⟨5,[c],0,0⟩ :: T):=fun o=>by
 obtain ⟨T',h1,h2⟩:=hs (o + 1)
 have QU:ew false (c :: s)=0:=by rcases h with rfl | rfl <;> rfl
 have ht:cl (c :: s)= .ok 5 [c] 0 1:=by
  have hl:fV c=false:=by rcases h with rfl | rfl <;> decide
  have hd:dh c=false:=by rcases h with rfl | rfl <;> decide
  have hq:¬ (c.toNat:Int)=39:=by rcases h with rfl | rfl <;> decide
  have hg:cj [c]=true:=by rcases h with rfl | rfl <;> decide
  have vv:∀ d,cj [c,d]=false:=by
   intro d
   unfold cj
   rcases h with rfl | rfl <;> simp[eP]
  simp only[cl,hl,hd,hq,ae6,if_false]
  unfold rA
  cases s with
  | nil=>simp[hg]
  | cons d s=>simp[hg,vv]
 rw[afK,jP,QU,aic,ht]
 simp only
 rw[if_neg (by decide),afT,ahl]
 have e1:(c :: s).drop 1=s:=rfl
 rw[e1,h1]
 exact ⟨_,rfl,mK ⟨rfl,rfl,rfl⟩ h2⟩
theorem Lx.open {s:Bs} {T:List Tk} (hs:Lx s T):Lx (40 :: s) (eK :: T):=Lx.sign (.inl rfl) hs
theorem Lx.close {s:Bs} {T:List Tk} (hs:Lx s T):Lx (41 :: s) (cR :: T):=Lx.sign (.inr rfl) hs
theorem OW {c:UInt8} (h:cN c=true) (f:Nat) (x:Bs) (o:Nat):j8 (f + 1) (c :: x) o=j8 (f + 1) x (o + 1):=by
 rw[jP,jP]
 have h:ew false (c :: x)=ew false x + 1:=by
  simp only[ew]; rw[if_pos h]
 rw[h,afQ,show o + (ew false x + 1)=o + 1 + ew false x by omega]
 cases cl (x.drop (ew false x)) with
 | bad c=>rfl
 | ok k t n m=>
   simp only
   rw[show ew false x + 1 + m=(ew false x + m) + 1 by omega,afQ]
theorem Lx.blank {c:UInt8} (h:cN c=true) {s:Bs} {T:List Tk} (hs:Lx s T):Lx (c :: s) T:=fun o=>by
 obtain ⟨T',h1,h2⟩:=hs.at (f:=s.length + 2) (by omega) (o + 1)
 exact ⟨T',by rw[afK,OW h]; exact h1,h2⟩
theorem Lx.tok {t:Tk} (h:lp t=true) (h6:t.kind≠6) {s:Bs} {T:List Tk} (hs:Lx (32 :: s) T):Lx (fM t ++ 32 :: s) (t :: T):=fun o=>by
 obtain ⟨T',h1,h2⟩:=hs.at (f:=(fM t ++ 32 :: s).length) (by
  have:=aho.2 (rY h h6 []).1
  simp; omega) (o + (fM t).length)
 rw[K4 h h6 (.inr ⟨s,rfl⟩),h1]
 exact ⟨_,rfl,mK ⟨rfl,rfl,rfl⟩ h2⟩
section
variable {A B:Int→Prop}
end
def AF (T:List Tk):Prop:=∃ t ∈ T,t.kind=6
theorem AF.ne {T:List Tk} (h:AF T) {i:Nat} (hn:Nk (T.take i)):T.drop i≠[]:=by
 obtain ⟨t,ht,hk⟩:=h
 intro e
 rw[aih] at e
 rw[List.take_of_length_le e] at hn
 exact hn t ht hk
theorem K5 {a b:List Tk} (h:eW false a b=true) {i:Nat} (hn:a.drop i≠[]):b.drop i≠[]:=by
 rw[ne_eq,aih] at *
 rw[← oX h]; exact hn
def ad4 (A B:Except kc Nd):Prop:=(∃ n n',A= .ok n∧B= .ok n'∧cU n n')∨∃ c o o',A= .error (c,o)∧B= .error (c,o')
theorem HH {p:PP Nd} {T T':List Tk} (hs:eW false T T'=true) (he:AF T) (h:∀ M:Md,M.Ok→¬ M.kx→Rl M cU p p):ad4 (mF p T) (mF p T'):=by
 have hM:Md.Ok ⟨T,T',fun _=>True,False,False,False⟩:=⟨fun i _=>.inl (Cw i hs),fun _ _ _=>.inl trivial,fun i _ hn=>⟨he.ne hn,K5 hs (he.ne hn)⟩⟩
 have hi:In ⟨T,T',fun _=>True,False,False,False⟩ T T':=⟨0,trivial,Nk.zero T,rfl,rfl⟩
 have ho:=h _ hM (fun q=>q) _ _ hi
 unfold mF
 rcases ho with ⟨q,_⟩ | ⟨q,_⟩ | ho
 ·exact q.elim
 ·exact q.elim
 cases e:p T with
 | error e'=>
   rw[e] at ho
   rcases ho with q | ⟨us,KR,h1,h2,h3⟩
   ·exact q.elim
   ·rw[h3]
    exact .inr ⟨_,_,_,rfl,rfl⟩
 | ok x=>
   obtain ⟨n,r⟩:=x
   rw[e] at ho
   obtain ⟨n',r',h1,h2,h3⟩:=ho
   rw[h1]
   simp only
   have hk:(hd r).kind=(hd r').kind:=by
    rcases h3.both hM with q | ⟨q,_⟩
    ·exact q.1
    ·exact q.elim
   by_cases k6:(hd r).kind=6
   ·rw[if_pos k6,if_pos (hk ▸ k6)]
    exact .inl ⟨n,n',rfl,rfl,h2⟩
   ·rw[if_neg k6,if_neg (fun q=>k6 (hk.trans q))]
    exact .inr ⟨2,_,_,rfl,rfl⟩
theorem K6:∀ M:Md,M.Ok→¬ M.kx→Rl M cU ft ft:=fun M hM hk=>K1 hM hk
theorem K7:∀ M:Md,M.Ok→¬ M.kx→Rl M cU (aJ (bp 64)) (aJ (bp 64)):=fun M hM _=>FY hM 64
theorem tU {s:Bs} {T:List Tk} (h:jb s= .ok T):∃ I,T=I ++ [⟨6,[],0,(s.length:Int)⟩]∧(∀ t ∈ I,lp t=true∧t.kind≠6):=by
 unfold jb at h
 split at h
 ·cases h
 ·unfold Ae at h
  rw[aic] at h
  have hc:=qA _ _ _ _ (Nat.lt_succ_self _) h
  rw[afT] at hc
  have key:∀ (e:Nat) (s:Bs) (o:Nat) (ts:List Tk),tT e s o ts→∃ I,ts=I ++ [⟨6,[],0,(e:Int)⟩]∧(∀ t ∈ I,lp t=true∧t.kind≠6):=by
   intro e s o ts
   induction ts generalizing s o with
   | nil=>intro h; exact h.elim
   | cons t r ih=>
     rintro (⟨rfl,rfl,_⟩ | ⟨h1,h2,q,h3,h4,h5,h6,h7⟩)
     ·exact ⟨[],rfl,by simp⟩
     ·obtain ⟨I,rfl,hI⟩:=ih _ _ h7
      refine ⟨t :: I,rfl,fun x hx=>?_⟩
      rcases afa.1 hx with rfl | hx
      ·exact ⟨h1,h2⟩
      ·exact hI x hx
  exact key _ _ _ _ hc
theorem F5 {s:Bs} {T:List Tk} (h:jb s= .ok T):AF T:=by
 obtain ⟨I,rfl,_⟩:=tU h
 exact ⟨⟨6,[],0,(s.length:Int)⟩,by simp,rfl⟩
mutual
theorem xd:∀ x:Nd,lP x x=true
 | .mk k t n a ks=>by simp[lP,xf ks]
theorem xf:∀ l:List Nd,gF l l=true
 | []=>by simp[gF]
 | x :: l=>by simp[gF,xd x,xf l]
end
mutual
theorem xg:∀ x y:Nd,lP x y=lP y x
 | .mk k t n a ks,.mk k' t' n' a' iK=>by
   simp only[lP,xh ks iK,eq_comm (a:=k),eq_comm (a:=t),eq_comm (a:=n),eq_comm (a:=ks.length)]
theorem xh:∀ l m:List Nd,gF l m=gF m l
 | [],[]=>rfl
 | [],_ :: _=>by simp[gF]
 | _ :: _,[]=>by simp[gF]
 | x :: l,y :: m=>by simp only[gF,xg x y,xh l m]
end
theorem cU.symm {n m:Nd} (h:cU n m):cU m n:=by unfold cU at *; rw[xg]; exact h
theorem cU.refl (n:Nd):cU n n:=xd n
mutual
theorem uO:∀ x y z:Nd,lP x y=true→lP y z=true→lP x z=true
 | .mk k t n a ks,.mk k' t' n' a' iK,.mk k2 t2 n2 a2 ks2,h,h'=>by
   simp only[lP,ae5,decide_eq_true_eq] at h h' ⊢
   obtain ⟨⟨⟨⟨h1,h2⟩,h3⟩,h4⟩,h5⟩:=h
   obtain ⟨⟨⟨⟨g1,g2⟩,g3⟩,g4⟩,g5⟩:=h'
   exact ⟨⟨⟨⟨h1.trans g1,h2.trans g2⟩,h3.trans g3⟩,h4.trans g4⟩,uP ks iK ks2 h4 h5 g5⟩
theorem uP:∀ x y z:List Nd,x.length=y.length→gF x y=true→gF y z=true→gF x z=true
 | [],_,_,_,_,_=>by simp[gF]
 | x :: l,y :: m,[],_,_,_=>by simp[gF]
 | x :: l,[],z,h,_,_=>by simp at h
 | x :: l,y :: m,z :: r,hl,h,h'=>by
   simp only[gF,ae5] at h h' ⊢
   exact ⟨uO x y z h.1 h'.1,uP l m r (by simpa using hl) h.2 h'.2⟩
end
theorem cU.trans {a b c:Nd} (h:cU a b) (h':cU b c):cU a c:=uO a b c h h'
theorem zd {k:Nat} {ts:List Tk} (he:AF ts):(∀ m r,aJ (bp (k + 1)) ts= .ok (m,r)→(∃ o,aJ (bp k) ts= .error (6,o))∨∃ m',aJ (bp k) ts= .ok (m',r)∧cU m m')∧
 (∀ c o,aJ (bp (k + 1)) ts= .error (c,o)→∃ o',aJ (bp k) ts= .error (6,o')∨aJ (bp k) ts= .error (c,o')):=by
 have hM:Md.Ok ⟨ts,ts,fun _=>True,True,False,False⟩:=⟨fun i _=>.inl (Ay.refl _),fun _ _ _=>.inl trivial,fun i _ hn=>⟨he.ne hn,he.ne hn⟩⟩
 have ho:=Hw hM trivial k _ _ ⟨0,trivial,Nk.zero _,rfl,rfl⟩
 change Ou _ cU (aJ (bp (k + 1)) ts) (aJ (bp k) ts) at ho
 refine ⟨fun m r h=>?_,fun c o h=>?_⟩
 ·rw[h] at ho
  rcases ho with ⟨_,q⟩ | ⟨q,_⟩ | ⟨m',r',h1,h2,j,h3,h4,h5,h7⟩
  ·exact .inl q
  ·exact q.elim
  ·have h5:r=ts.drop j:=h5
   have h7:r'=ts.drop j:=h7
   exact .inr ⟨m',by rw[h1,h7,h5],h2⟩
 ·rw[h] at ho
  rcases ho with ⟨_,o',q⟩ | ⟨q,_⟩ | ⟨q | ⟨us,KR,h1,h2,h3⟩⟩
  ·exact ⟨o',.inl q⟩
  ·exact q.elim
  ·exact q.elim
  ·exact ⟨_,.inr h3⟩
theorem K8 {ts:List Tk} (he:AF ts) {k:Nat} {m:Nd} {r:List Tk} (h:aJ (bp k) ts= .ok (m,r)):∀ j,j≤k→(∃ o,aJ (bp j) ts= .error (6,o))∨∃ m',aJ (bp j) ts= .ok (m',r)∧cU m m':=by
 have key:∀ d j,j + d=k→(∃ o,aJ (bp j) ts= .error (6,o))∨∃ m',aJ (bp j) ts= .ok (m',r)∧cU m m':=by
  intro d
  induction d with
  | zero=>intro j hj; obtain rfl:j=k:=hj; exact .inr ⟨m,h,cU.refl m⟩
  | succ d ih=>
    intro j hj
    rcases ih (j + 1) (by omega) with ⟨o,q⟩ | ⟨m',q,hm⟩
    ·obtain ⟨o',q | q⟩:=(zd he).2 _ _ q
     ·exact .inl ⟨o',q⟩
     ·exact .inl ⟨o',q⟩
    ·rcases (zd he).1 _ _ q with q | ⟨m2,q,nr⟩
     ·exact .inl q
     ·exact .inr ⟨m2,q,hm.trans nr⟩
 exact fun j hj=>key (k - j) j (by omega)
def EH (ts:List Tk):Prop:=(hd ts).kind=5∧(hd ts).text=[40]
theorem EH.aY {ts:List Tk} (h:EH ts) (s:Bs):aY s ts=decide (s=[40]):=by
 unfold Go.Proofs.YtmhdkbmnpekpoaaGreatDoor.aY
 rw[h.1,h.2]
 simp[eq_comm]
theorem HI {k:Nat} {ts:List Tk} (h:EH ts):dZ (bp (k + 1)) ts=bd (aJ (bp k)) (fun n=>bd (aU [41]) fun _=>ret n) ts.tail:=by
 unfold dZ
 have hb:=h.aY
 have k5:=h.1
 have e:bp (k + 1)=some (aJ (bp k),fX (bp k)):=by
  show some (mB k)=_
  rw[qv]
 rw[e]
 simp only[k5,hb]
 simp[ea,hb]
theorem K9 {k:Nat} {ts r:List Tk} {m:Nd} (h:EH ts) (he:aJ (bp k) ts.tail= .ok (m,r)) (hr:(hd r).kind=5∧(hd r).text=[41]):dZ (bp (k + 1)) ts= .ok (m,r.tail):=by
 rw[HI h,az he]
 have e:aU [41] r= .ok ((hd r).at_,r.tail):=by
  unfold aU
  rw[if_pos]
  unfold aY
  rw[hr.1,hr.2]; simp
 rw[az e]; rfl
theorem kS {op:PP Nd} {kd:Kd} {n:Nd} {r:List Tk} (h:fE kd r=false):∀ f,cP op kd f n r= .ok (n,r)
 | 0=>rfl
 | f + 1=>by simp only[cP,h,ae6,if_false]
def stops (r:List Tk):Prop:=aY [46] r=false∧aY [91] r=false
theorem EI {lo:Lo} {n:Nd} {r:List Tk} (h:stops r):∀ f,dC lo f n r= .ok (n,r)
 | 0=>rfl
 | f + 1=>by simp only[dC,h.1,h.2,ae6,if_false]
theorem La {lo:Lo} {ts r:List Tk} {n:Nd} (h:ke lo ts= .ok (n,r)) (hr:fE mA r=false):nq lo ts= .ok (n,r):=by
 unfold nq
 rw[az h]
 simp only[hr,ae6,if_false]
def kdL:Nat→Kd
 | 0=>TW
 | 1=>Ej
 | 2=>mA
 | 3=>wA
 | _=>Ei
theorem Lb {lo:Lo} {ts u r:List Tk} {n m:Nd} {o:Tk} (h:ke lo ts= .ok (n,o :: u)) (hr:fE mA (o :: u)=true) (hu:ke lo u= .ok (m,r)):nq lo ts= .ok (.mk (eb mA o.text) [] 0 o.at_ [n,m],r):=by
 unfold nq
 rw[az h]
 simp only[hr,if_true,aif]
 rw[az hu]; rfl
structure OpF (o:Tk) (a:Nat) (k:Int):Prop where
 at_:∀ l s,l < 5→fE (kdL l) (o :: s)=decide (l=a)
 kind:eb (kdL a) o.text=k
 stop:∀ s,stops (o :: s)
 lt:a < 5
section
variable {lo:Lo} {o1 o2:Tk} {a b:Nat} {k1 k2:Int} (f1:OpF o1 a k1) (f2:OpF o2 b k2) {s0 s1 s2:List Tk} (i0:EH s0) (i1:EH s1) (i2:EH s2) {e:kc} {x0 x1 x2:Nd}
include f2 i1
include f1 i0 i2
end
theorem HJ {T:List Tk} {n:Nd} (h:mF ft T= .ok n):∃ l r,jd (T.length + 1) [] T= .ok (l,r)∧(hd r).kind=6∧n= .mk 1 [] 0 0 l:=by
 unfold mF ft at h
 cases e:jd (T.length + 1) [] T with
 | error e'=>rw[bN e] at h; cases h
 | ok x=>
   obtain ⟨l,r⟩:=x
   rw[az e] at h
   simp only[ret] at h
   split at h
   ·cases h; exact ⟨l,r,rfl,by assumption,rfl⟩
   ·cases h
def bh (s:Bs):Tk:=⟨2,s,0,0⟩
def aM (s:Bs):Tk:=⟨5,s,0,0⟩
def dS (s:Bs):Tk:=⟨1,s,0,0⟩
def oZ (s:Bs):Tk:=⟨4,s,0,0⟩
def vD (n:Int):Tk:=⟨3,[],n,0⟩
def eH (k:Int):Option (Tk × Nat × Nat × Nat):=
 if k=31 then some (bh [111,114],1,1,2)
 else if k=32 then some (bh [97,110,100],2,2,3)
 else if k=34 then some (aM [60,61],4,5,5)
 else if k=35 then some (aM [60],4,5,5)
 else if k=36 then some (aM [61,61],4,5,5)
 else if k=37 then some (bh [105,110],4,5,5)
 else if k=38 then some (bh [108,101,113],4,5,5)
 else if k=39 then some (bh [106,111,105,110],5,5,6)
 else if k=40 then some (aM [43],6,6,7)
 else if k=41 then some (aM [45],6,6,7)
 else none
def ko (k:Int):Nat:=if k=30 then 0 else if k=33 then 3 else if k=42∨k=43 then 7 else match eH k with
 | some x=>x.2.1
 | none=>8
def kindOf:Nd→Int
 | .mk k _ _ _ _=>k
def jm (n:Nd):Nat:=ko (kindOf n)
def dx (k:Int):Option Bs:=if k=45 then some [116,114,117,101] else if k=46 then some [102,97,108,115,101] else if k=49 then some [115] else if k=50 then some [98,111,116,116,111,109] else none
def kT (b:Bool) (l:List Tk):List Tk:=if b then eK :: (l ++ [cR]) else l
def dc (n:Int):List Tk:=if n < 0 then [aM [45],vD (-n)] else [vD n]
mutual
def cp:Nd→List Tk
 | .mk k t n _ ks=>match eH k with
   | some (o,_,l,r)=>(match ks with
     | [a,b]=>kT (decide (jm a < l)) (cp a) ++ o :: kT (decide (jm b < r)) (cp b)
     | _=>[])
   | none=>
     if k=30 then (match ks with
      | [a,b,c]=>bh [105,102] :: (cp a ++ bh [116,104,101,110] :: (cp b ++ bh [101,108,115,101] :: cp c))
      | _=>[])
     else if k=33 then (match ks with
      | [a]=>bh [110,111,116] :: kT (decide (jm a < 3)) (cp a)
      | _=>[])
     else if k=42 then (match ks with
      | [a]=>kT (decide (jm a < 7)) (cp a) ++ [aM [46],dS t]
      | _=>[])
     else if k=43 then (match ks with
      | [a,b]=>kT (decide (jm a < 7)) (cp a) ++ aM [91] :: (cp b ++ [aM [93]])
      | _=>[])
     else if k=44 then dc n
     else if k=47 then [oZ t]
     else if k=48 then [dS t]
     else if k=51 then bh t :: eK :: (jy t true ks ++ [cR])
     else match dx k with
      | some w=>[bh w]
      | none=>[]
def jy (fn:Bs):Bool→List Nd→List Tk
 | _,[]=>[]
 | first,a :: r=>(if first then [] else [aM [44]]) ++ (qT fn a ++ jy fn false r)
def qT (fn:Bs):Nd→List Tk
 | .mk k t n p ks=>if fn=[114,101,99] then (match ks with
  | [x]=>dS t :: aM [58] :: cp x
  | _=>[])
  else if fn=[109,97,112] then (match ks with
   | [x,y]=>cp x ++ aM [58] :: cp y
   | _=>[])
  else cp (.mk k t n p ks)
end
def bW (n:Nd) (req:Nat):List Tk:=kT (decide (jm n < req)) (cp n)
def aT (s:Bs):Bool:=bM s && !ve s
mutual
def okB:Nd→Bool
 | .mk k t n _ ks=>match eH k with
   | some _=>(match ks with
     | [a,b]=>decide (t=[]) && decide (n=0) && okB a && okB b
     | _=>false)
   | none=>
     if k=30 then (match ks with
      | [a,b,c]=>decide (t=[]) && decide (n=0) && okB a && okB b && okB c
      | _=>false)
     else if k=33 then (match ks with
      | [a]=>decide (t=[]) && decide (n=0) && okB a
      | _=>false)
     else if k=42 then (match ks with
      | [a]=>aT t && decide (n=0) && okB a
      | _=>false)
     else if k=43 then (match ks with
      | [a,b]=>decide (t=[]) && decide (n=0) && okB a && okB b
      | _=>false)
     else if k=44 then decide (t=[]) && ks.isEmpty && decide (-1000000000000000≤n) && decide (n≤1000000000000000)
     else if k=47 then bM t && decide (n=0) && ks.isEmpty
     else if k=48 then aT t && decide (n=0) && ks.isEmpty
     else if k=51 then decide (t ∈ aZ) && decide (n=0) && nu t ks
     else match dx k with
      | some _=>decide (t=[]) && decide (n=0) && ks.isEmpty
      | none=>false
def nu (fn:Bs):List Nd→Bool
 | []=>true
 | a :: r=>lU fn a && nu fn r
def lU (fn:Bs):Nd→Bool
 | .mk k t n p ks=>if fn=[114,101,99] then (match ks with
  | [x]=>decide (k=52) && aT t && decide (n=0) && okB x
  | _=>false)
  else if fn=[109,97,112] then (match ks with
   | [x,y]=>decide (k=52) && decide (t=[]) && decide (n=0) && okB x && okB y
   | _=>false)
  else okB (.mk k t n p ks)
end
def iI (b:Bool) (m:Nat):Nat:=if b then m + 1 else m
mutual
def gu:Nd→Nat
 | .mk k t n _ ks=>match eH k with
   | some (_,_,l,r)=>(match ks with
     | [a,b]=>max (iI (decide (jm a < l)) (gu a)) (iI (decide (jm b < r)) (gu b))
     | _=>0)
   | none=>
     if k=30 then (match ks with
      | [a,b,c]=>max (gu a) (max (gu b) (gu c)) + 1
      | _=>0)
     else if k=33 then (match ks with
      | [a]=>iI (decide (jm a < 3)) (gu a) + 1
      | _=>0)
     else if k=42 then (match ks with
      | [a]=>iI (decide (jm a < 7)) (gu a)
      | _=>0)
     else if k=43 then (match ks with
      | [a,b]=>max (iI (decide (jm a < 7)) (gu a)) (gu b + 1)
      | _=>0)
     else if k=51 then ze t ks + 1
     else 0
def ze (fn:Bs):List Nd→Nat
 | []=>0
 | a :: r=>max (zf fn a) (ze fn r)
def zf (fn:Bs):Nd→Nat
 | .mk k t n p ks=>if fn=[114,101,99] then (match ks with
  | [x]=>gu x
  | _=>0)
  else if fn=[109,97,112] then (match ks with
   | [x,y]=>max (gu x) (gu y)
   | _=>0)
  else gu (.mk k t n p ks)
end
def bT (n:Nd) (req:Nat):Nat:=iI (decide (jm n < req)) (gu n)
def Rf (lo:Lo):Nat→PP Nd
 | 0=>aJ lo
 | 1=>Kc lo
 | 2=>wC lo
 | 3=>fX lo
 | 4=>nq lo
 | 5=>ke lo
 | 6=>wB lo
 | 7=>kN lo
 | _=>dZ lo
def Rg:Nat→Kd
 | 1=>TW
 | 2=>Ej
 | 4=>mA
 | 5=>wA
 | 6=>Ei
 | _=>[]
def xi (l:Nat) (Y:List Tk):Prop:=(∀ j,l≤j→j≤6→fE (Rg j) Y=false)∧(l≤7→stops Y)
theorem xi.mono {l l':Nat} {Y:List Tk} (h:xi l Y) (hl:l≤l'):xi l' Y:=⟨fun j h1 h2=>h.1 j (by omega) h2,fun h1=>h.2 (by omega)⟩
def Ct (lo:Lo):Nat→Nd→PP Nd
 | 1,n=>fun Y=>cP (wC lo) TW Y.length n Y
 | 2,n=>fun Y=>cP (fX lo) Ej Y.length n Y
 | 5,n=>fun Y=>cP (wB lo) wA Y.length n Y
 | 6,n=>fun Y=>cP (kN lo) Ei Y.length n Y
 | 7,n=>fun Y=>dC lo Y.length n Y
 | _,n=>fun Y=>.ok (n,Y)
theorem xj {lo:Lo} {Y:List Tk} {n:Nd}:∀ {l:Nat},xi l Y→Ct lo l n Y= .ok (n,Y)
 | 0,_=>rfl
 | 1,h=>kS (h.1 1 (by omega) (by omega)) _
 | 2,h=>kS (h.1 2 (by omega) (by omega)) _
 | 3,_=>rfl
 | 4,_=>rfl
 | 5,h=>kS (h.1 5 (by omega) (by omega)) _
 | 6,h=>kS (h.1 6 (by omega) (by omega)) _
 | 7,h=>EI (h.2 (by omega)) _
 | l + 8,_=>rfl
def pre (l:Nat) (Y:List Tk):Prop:=xi (if l=4 then 4 else l + 1) Y
theorem jI {l:Nat} {Y:List Tk} (h:pre l Y):xi (l + 1) Y:=by
 unfold pre at h
 split at h
 ·exact h.mono (by omega)
 ·exact h
theorem vE {l:Nat} {Y:List Tk} (h:xi l Y):pre l Y:=by
 unfold pre
 split
 ·exact h.mono (by omega)
 ·exact h.mono (by omega)
theorem OX {lo:Lo} {ts Y:List Tk} {n:Nd}:∀ {l:Nat},l < 8→(l=0→aY [105,102] ts=false)→(l=3→aY [110,111,116] ts=false)→pre l Y→Rf lo (l + 1) ts=Ct lo (l + 1) n Y→Rf lo l ts=Ct lo l n Y
 | 0,_,h0,_,hp,h=>by
   show aJ lo ts=_
   unfold aJ
   rw[if_neg (by rw[h0 rfl]; decide)]
   exact h.trans (xj (jI hp))
 | 1,_,_,_,hp,h=>by
   rw[xj (jI hp)] at h
   exact az h
 | 2,_,_,_,hp,h=>by
   rw[xj (jI hp)] at h
   exact az h
 | 3,_,_,h3,hp,h=>by
   show fX lo ts=_
   unfold fX
   rw[if_neg (by rw[h3 rfl]; decide)]
   exact h
 | 4,_,_,_,hp,h=>by
   have hp:xi 4 Y:=hp
   rw[xj (hp.mono (by omega))] at h
   exact La h (hp.1 4 (by omega) (by omega))
 | 5,_,_,_,hp,h=>by
   rw[xj (jI hp)] at h
   exact az h
 | 6,_,_,_,hp,h=>by
   rw[xj (jI hp)] at h
   exact az h
 | 7,_,_,_,hp,h=>az h
 | l + 8,hl,_,_,_,_=>by omega
theorem xl {lo:Lo} {ts Y:List Tk} {n:Nd} {l m:Nat} (hlm:l≤m) (hm:m≤8) (h0:l=0→0 < m→aY [105,102] ts=false) (h3:l≤3→3 < m→aY [110,111,116] ts=false) (hp:pre l Y) (h:Rf lo m ts=Ct lo m n Y):Rf lo l ts=Ct lo l n Y:=by
 have key:∀ d,∀ j,j + d=m→l≤j→Rf lo j ts=Ct lo j n Y:=by
  intro d
  induction d with
  | zero=>intro j hj _; obtain rfl:j=m:=hj; exact h
  | succ d ih=>
    intro j hj hl
    refine OX (by omega) (fun e=>h0 (by omega) (by omega)) (fun e=>h3 (by omega) (by omega)) ?_ (ih (j + 1) (by omega) (by omega))
    rcases aij hl with e | e
    ·rw[← e]; exact hp
    ·exact vE ((jI hp).mono (by omega))
 exact key (m - l) l (by omega) (afJ _)
structure UP (k:Int) (o:Tk) (lv l r:Nat):Prop where
 mB:ko k=lv
 ops:lv=4∧l=5∧r=5∨(lv=1∨lv=2∨lv=5∨lv=6)∧l=lv∧r=lv + 1
 at_:∀ j s,j < 7→fE (Rg j) (o :: s)=decide (j=lv)
 kind:eb (Rg lv) o.text=k
 stop:∀ s,stops (o :: s)
 hif:∀ s,aY [105,102] (o :: s)=false
 I7:∀ s,aY [110,111,116] (o :: s)=false
 zero:o.at_=0
 po:lp o=true∧o.kind≠6
theorem n9 {k:Int} {o:Tk} {lv l r:Nat} (h:eH k=some (o,lv,l,r)):UP k o lv l r:=by
 have key:∀ (k:Int) (o:Tk) (lv l r:Nat),ko k=lv→(lv=4∧l=5∧r=5∨(lv=1∨lv=2∨lv=5∨lv=6)∧l=lv∧r=lv + 1)→(∀ j,j < 7→decide (eb (Rg j) o.text≠0)=decide (j=lv))→eb (Rg lv) o.text=k→(o.kind=2∨o.kind=5)→o.text≠[46]→o.text≠[91]→o.text≠[105,102]→o.text≠[110,111,116]→o.at_=0→(lp o=true∧o.kind≠6)→UP k o lv l r:=fun k o lv l r h1 h2 h3 h4 h5 h6 h7 h8 h9 hz hp=>by
  have no:∀ s x,o.text≠x→aY x (o :: s)=false:=fun s x hx=>by
   cases e:aY x (o :: s) with
   | false=>rfl
   | true=>exact absurd (fh.1 e).2 hx
  refine ⟨h1,h2,fun j s hj=>?_,h4,fun s=>⟨no s _ h6,no s _ h7⟩,fun s=>no s _ h8,fun s=>no s _ h9,hz,hp⟩
  have e:aY o.text (o :: s)=true:=fh.2 ⟨h5,rfl⟩
  show (decide (eb (Rg j) o.text≠0) && aY o.text (o :: s))=_
  rw[e,Bool.and_true]; exact h3 j hj
 unfold eH at h
 repeat' split at h
 all_goals first
  | (cases h; done)
  | (rename_i hk
     subst hk
     simp only[Option.some.injEq,aff.injEq] at h
     obtain ⟨rfl,rfl,rfl,rfl⟩:=h
     exact key _ _ _ _ _ (by decide) (by decide) (by decide) (by decide) (by decide) (by decide) (by decide) (by decide) (by decide) (by decide) (by decide))
section
variable {k n p:Int} {t:Bs} {a b c:Nd} {ks:List Nd} {o:Tk} {lv l r:Nat}
theorem jJ (h:eH k=some (o,lv,l,r)):cp (.mk k t n p [a,b])=bW a l ++ o :: bW b r:=by
 rw[cp.eq_def]; simp only[h]; rfl
theorem pd (h:eH k=some (o,lv,l,r)):gu (.mk k t n p [a,b])=max (bT a l) (bT b r):=by
 rw[gu.eq_def]; simp only[h]; rfl
theorem oa:cp (.mk 30 t n p [a,b,c])=bh [105,102] :: (cp a ++ bh [116,104,101,110] :: (cp b ++ bh [101,108,115,101] :: cp c)):=by
 rw[cp.eq_def]; rfl
theorem xm:gu (.mk 30 t n p [a,b,c])=max (gu a) (max (gu b) (gu c)) + 1:=by
 rw[gu.eq_def]; rfl
theorem kU:cp (.mk 33 t n p [a])=bh [110,111,116] :: bW a 3:=by
 rw[cp.eq_def]; rfl
theorem rZ:gu (.mk 33 t n p [a])=bT a 3 + 1:=by
 rw[gu.eq_def]; rfl
theorem hU:cp (.mk 42 t n p [a])=bW a 7 ++ [aM [46],dS t]:=by
 rw[cp.eq_def]; rfl
theorem lV:gu (.mk 42 t n p [a])=bT a 7:=by
 rw[gu.eq_def]; rfl
theorem hX:cp (.mk 43 t n p [a,b])=bW a 7 ++ aM [91] :: (cp b ++ [aM [93]]):=by
 rw[cp.eq_def]; rfl
theorem lW:gu (.mk 43 t n p [a,b])=max (bT a 7) (gu b + 1):=by
 rw[gu.eq_def]; rfl
theorem jK:cp (.mk 44 t n p ks)=dc n:=by
 rw[cp.eq_def]; rfl
theorem ia:cp (.mk 47 t n p ks)=[oZ t]:=by
 rw[cp.eq_def]; rfl
theorem jg:cp (.mk 48 t n p ks)=[dS t]:=by
 rw[cp.eq_def]; rfl
theorem jh:cp (.mk 51 t n p ks)=bh t :: eK :: (jy t true ks ++ [cR]):=by
 rw[cp.eq_def]; rfl
theorem od:gu (.mk 51 t n p ks)=ze t ks + 1:=by
 rw[gu.eq_def]; rfl
theorem ji {w:Bs} (h:dx k=some w):cp (.mk k t n p ks)=[bh w]:=by
 have hk:k=45∨k=46∨k=49∨k=50:=by
  unfold dx at h
  repeat' split at h
  all_goals first
   | (cases h; done)
   | omega
 rcases hk with rfl | rfl | rfl | rfl <;> (rw[cp.eq_def]; cases h; rfl)
end
inductive Lc:Nd→Prop
 | bin {k n p:Int} {t:Bs} {a b:Nd} {o:Tk} {lv l r:Nat} (h:eH k=some (o,lv,l,r)) (ht:t=[]) (hn:n=0) (ha:okB a=true) (hb:okB b=true):Lc (.mk k t n p [a,b])
 | cond {n p:Int} {t:Bs} {a b c:Nd} (ht:t=[]) (hn:n=0) (ha:okB a=true) (hb:okB b=true) (hc:okB c=true):Lc (.mk 30 t n p [a,b,c])
 | not {n p:Int} {t:Bs} {a:Nd} (ht:t=[]) (hn:n=0) (ha:okB a=true):Lc (.mk 33 t n p [a])
 | field {n p:Int} {t:Bs} {a:Nd} (ht:aT t=true) (hn:n=0) (ha:okB a=true):Lc (.mk 42 t n p [a])
 | index {n p:Int} {t:Bs} {a b:Nd} (ht:t=[]) (hn:n=0) (ha:okB a=true) (hb:okB b=true):Lc (.mk 43 t n p [a,b])
 | int {n p:Int} {t:Bs} (ht:t=[]) (h1:-1000000000000000≤n) (h2:n≤1000000000000000):Lc (.mk 44 t n p [])
 | quote {n p:Int} {t:Bs} (ht:bM t=true) (hn:n=0):Lc (.mk 47 t n p [])
 | name {n p:Int} {t:Bs} (ht:aT t=true) (hn:n=0):Lc (.mk 48 t n p [])
 | call {n p:Int} {t:Bs} {ks:List Nd} (ht:t ∈ aZ) (hn:n=0) (hk:nu t ks=true):Lc (.mk 51 t n p ks)
 | word {k n p:Int} {t w:Bs} (h:dx k=some w) (hb:eH k=none) (ht:t=[]) (hn:n=0):Lc (.mk k t n p [])
theorem kp:∀ {x:Nd},okB x=true→Lc x
 | .mk k t n p ks,h=>by
   rw[okB.eq_def] at h
   simp only at h
   split at h
   ·rename_i y hb
    obtain ⟨o,lv,l,r⟩:=y
    match ks,h with
    | [a,b],h=>
      simp only[ae5,decide_eq_true_eq] at h
      exact .bin hb h.1.1.1 h.1.1.2 h.1.2 h.2
   ·rename_i hb
    by_cases k0:k=30
    ·subst k0
     rw[if_pos rfl] at h
     match ks,h with
     | [a,b,c],h=>
       simp only[ae5,decide_eq_true_eq] at h
       exact .cond h.1.1.1.1 h.1.1.1.2 h.1.1.2 h.1.2 h.2
    rw[if_neg k0] at h
    by_cases k1:k=33
    ·subst k1
     rw[if_pos rfl] at h
     match ks,h with
     | [a],h=>
       simp only[ae5,decide_eq_true_eq] at h
       exact .not h.1.1 h.1.2 h.2
    rw[if_neg k1] at h
    by_cases k2:k=42
    ·subst k2
     rw[if_pos rfl] at h
     match ks,h with
     | [a],h=>
       simp only[ae5,decide_eq_true_eq] at h
       exact .field h.1.1 h.1.2 h.2
    rw[if_neg k2] at h
    by_cases k3:k=43
    ·subst k3
     rw[if_pos rfl] at h
     match ks,h with
     | [a,b],h=>
       simp only[ae5,decide_eq_true_eq] at h
       exact .index h.1.1.1 h.1.1.2 h.1.2 h.2
    rw[if_neg k3] at h
    by_cases k4:k=44
    ·subst k4
     rw[if_pos rfl] at h
     simp only[ae5,decide_eq_true_eq,ah6] at h
     obtain ⟨⟨⟨h1,rfl⟩,h3⟩,h4⟩:=h
     exact .int h1 h3 h4
    rw[if_neg k4] at h
    by_cases k5:k=47
    ·subst k5
     rw[if_pos rfl] at h
     simp only[ae5,decide_eq_true_eq,ah6] at h
     obtain ⟨⟨h1,h3⟩,rfl⟩:=h
     exact .quote h1 h3
    rw[if_neg k5] at h
    by_cases k6:k=48
    ·subst k6
     rw[if_pos rfl] at h
     simp only[ae5,decide_eq_true_eq,ah6] at h
     obtain ⟨⟨h1,h3⟩,rfl⟩:=h
     exact .name h1 h3
    rw[if_neg k6] at h
    by_cases k7:k=51
    ·subst k7
     rw[if_pos rfl] at h
     simp only[ae5,decide_eq_true_eq] at h
     exact .call h.1.1 h.1.2 h.2
    rw[if_neg k7] at h
    split at h
    ·rename_i w hw
     simp only[ae5,decide_eq_true_eq,ah6] at h
     obtain ⟨⟨h1,h3⟩,rfl⟩:=h
     exact .word hw hb h1 h3
    ·cases h
theorem Rh (x:Nd):jm x≤8:=by
 unfold jm ko
 split
 ·omega
 split
 ·omega
 split
 ·omega
 split
 ·rename_i y hy
  have:=(n9 (o:=y.1) (lv:=y.2.1) (l:=y.2.2.1) (r:=y.2.2.2) hy).ops
  omega
 ·omega
theorem sd:∀ (N:Nat) (x:Nd),aq x≤N→okB x=true→∃ u s,cp x=u :: s∧(1≤jm x→aY [105,102] [u]=false)∧(4≤jm x→aY [110,111,116] [u]=false)∧aY [41] [u]=false
 | 0,x,h,_=>by cases x; simp only[aq] at h; omega
 | N + 1,x,h,ho=>by
   have at_:∀ (a:Nd) (q:Nat) (s:List Tk),aq a≤N→okB a=true→∃ u s',bW a q ++ s=u :: s'∧(1≤q→aY [105,102] [u]=false)∧(4≤q→aY [110,111,116] [u]=false)∧aY [41] [u]=false:=fun a q s ha hoa=>by
    unfold bW kT
    by_cases hw:jm a < q
    ·rw[if_pos (by simpa using hw)]
     exact ⟨eK,_,rfl,fun _=>rfl,fun _=>rfl,rfl⟩
    ·rw[if_neg (by simpa using hw)]
     obtain ⟨u,s',h1,h2,h3,h4⟩:=sd N a ha hoa
     rw[h1]
     exact ⟨u,s' ++ s,rfl,fun q=>h2 (by omega),fun q=>h3 (by omega),h4⟩
   have hs:=kp ho
   cases hs with
   | @bin k n p t a b o lv l r hb ht hn ha yj=>
     have hf:=n9 hb
     simp only[aq,aA] at h
     obtain ⟨u,s',e,e1,e2,e3⟩:=at_ a l (o :: bW b r) (by omega) ha
     rw[jJ hb]
     have hl:jm (.mk k t n p [a,b])=lv:=hf.mB
     refine ⟨u,s',e,fun q=>e1 ?_,fun q=>e2 ?_,e3⟩
     ·have:=hf.ops; omega
     ·have:=hf.ops; omega
   | cond=>rw[oa]; exact ⟨_,_,rfl,fun q=>absurd (show 1≤0 from q) (by decide),fun q=>absurd (show 4≤0 from q) (by decide),rfl⟩
   | not=>rw[kU]; exact ⟨_,_,rfl,fun q=>rfl,fun q=>absurd (show 4≤3 from q) (by decide),rfl⟩
   | @field n p t a ht hn ha=>
     simp only[aq,aA] at h
     obtain ⟨u,s',e,e1,e2,e3⟩:=at_ a 7 [aM [46],dS t] (by omega) ha
     rw[hU]
     exact ⟨u,s',e,fun q=>e1 (by omega),fun q=>e2 (by omega),e3⟩
   | @index n p t a b ht hn ha hb=>
     simp only[aq,aA] at h
     obtain ⟨u,s',e,e1,e2,e3⟩:=at_ a 7 (aM [91] :: (cp b ++ [aM [93]])) (by omega) ha
     rw[hX]
     exact ⟨u,s',e,fun q=>e1 (by omega),fun q=>e2 (by omega),e3⟩
   | int=>
     rw[jK]
     unfold dc
     split
     ·exact ⟨_,_,rfl,fun q=>rfl,fun q=>rfl,rfl⟩
     ·exact ⟨_,_,rfl,fun q=>rfl,fun q=>rfl,rfl⟩
   | quote=>rw[ia]; exact ⟨_,_,rfl,fun q=>rfl,fun q=>rfl,rfl⟩
   | name=>rw[jg]; exact ⟨_,_,rfl,fun q=>rfl,fun q=>rfl,rfl⟩
   | @call n p t ks ht hn hk=>
     rw[jh]
     have:∀ f ∈ aZ,aY [105,102] [bh f]=false∧aY [110,111,116] [bh f]=false∧aY [41] [bh f]=false:=by decide
     exact ⟨_,_,rfl,fun q=>(this t ht).1,fun q=>(this t ht).2.1,(this t ht).2.2⟩
   | @word k n p t w hw hb ht hn=>
     rw[ji hw]
     have:aY [105,102] [bh w]=false∧aY [110,111,116] [bh w]=false∧aY [41] [bh w]=false:=by
      unfold dx at hw
      repeat' split at hw
      all_goals first
       | (cases hw; done)
       | (cases hw; exact ⟨rfl,rfl,rfl⟩)
     exact ⟨_,_,rfl,fun q=>this.1,fun q=>this.2.1,this.2.2⟩
theorem Cy {x:Nd} (h:okB x=true) (hl:1≤jm x) (Y:List Tk):aY [105,102] (cp x ++ Y)=false:=by
 obtain ⟨u,s,e,e1,_,_⟩:=sd _ x (afJ _) h
 rw[e]; exact e1 hl
theorem zg {x:Nd} (h:okB x=true) (hl:4≤jm x) (Y:List Tk):aY [110,111,116] (cp x ++ Y)=false:=by
 obtain ⟨u,s,e,_,e2,_⟩:=sd _ x (afJ _) h
 rw[e]; exact e2 hl
theorem Cz {x:Nd} (h:okB x=true) (Y:List Tk):aY [41] (cp x ++ Y)=false:=by
 obtain ⟨u,s,e,_,_,e3⟩:=sd _ x (afJ _) h
 rw[e]; exact e3
theorem zh (x:Nd):bW x 0=cp x:=by simp[bW,kT]
theorem zi (x:Nd):bT x 0=gu x:=by simp[bT,iI]
theorem mL {t:Tk} (h:(∀ j,j < 7→eb (Rg j) t.text=0)∧t.text≠[46]∧t.text≠[91]) (s:List Tk):xi 0 (t :: s):=by
 have no:∀ x,t.text≠x→aY x (t :: s)=false:=fun x hx=>by
  cases e:aY x (t :: s) with
  | false=>rfl
  | true=>exact absurd (fh.1 e).2 hx
 refine ⟨fun j _ hj=>?_,fun _=>⟨no _ h.2.1,no _ h.2.2⟩⟩
 show (decide (eb (Rg j) t.text≠0) && aY t.text (t :: s))=false
 rw[h.1 j (by omega)]; rfl
theorem F6 {k:Int} {o:Tk} {lv l r:Nat} (h:UP k o lv l r) (s:List Tk):xi (lv + 1) (o :: s):=by
 refine ⟨fun j h1 h2=>?_,fun _=>h.stop s⟩
 rw[h.at_ j s (by omega)]
 simp; omega
theorem Ld (s:List Tk):xi 0 (cR :: s):=mL (by decide) s
def RtA (x:Nd):Prop:=okB x=true→∀ k,gu x≤k→∀ Y,pre (jm x) Y→∃ x',cU x x'∧Rf (bp k) (jm x) (cp x ++ Y)=Ct (bp k) (jm x) x' Y
theorem Le {l:Nat} {Y:List Tk} (h:xi 0 Y):pre l Y:=vE (h.mono (ahn l))
theorem iW {x:Nd} (ho:okB x=true) (h:RtA x) {k:Nat} (hk:gu x≤k) {Y:List Tk} (hY:xi 0 Y):∃ x',cU x x'∧aJ (bp k) (cp x ++ Y)= .ok (x',Y):=by
 obtain ⟨x',h1,h2⟩:=h ho k hk Y (Le hY)
 exact ⟨x',h1,xl (l:=0) (ahn _) (Rh x) (fun _ q=>Cy ho q Y) (fun _ q=>zg ho q Y) (Le hY) h2⟩
theorem rtB {x:Nd} (ho:okB x=true) (h:RtA x) {req:Nat} (hr:req≤8) {k:Nat} (hk:bT x req≤k) {Y:List Tk} (hp:pre req Y):∃ x',cU x x'∧Rf (bp k) req (bW x req ++ Y)=Ct (bp k) req x' Y:=by
 by_cases hw:jm x < req
 ·have e1:bW x req=eK :: (cp x ++ [cR]):=by unfold bW kT; rw[if_pos (by simpa using hw)]
  have e2:bT x req=gu x + 1:=by unfold bT iI; rw[if_pos (by simpa using hw)]
  obtain ⟨k,rfl⟩:∃ k',k=k' + 1:=⟨k - 1,by omega⟩
  obtain ⟨x',h1,h2⟩:=iW ho h (k:=k) (by omega) (Ld Y)
  refine ⟨x',h1,?_⟩
  rw[e1]
  have e3:eK :: (cp x ++ [cR]) ++ Y=eK :: (cp x ++ cR :: Y):=by simp
  rw[e3]
  refine xl hr (afJ 8) (fun _ _=>rfl) (fun _ _=>rfl) hp ?_
  exact K9 (ts:=eK :: (cp x ++ cR :: Y)) (r:=cR :: Y) ⟨rfl,rfl⟩ h2 ⟨rfl,rfl⟩
 ·have e1:bW x req=cp x:=by unfold bW kT; rw[if_neg (by simpa using hw)]
  have e2:bT x req=gu x:=by unfold bT iI; rw[if_neg (by simpa using hw)]
  have fQ:pre (jm x) Y:=by
   rcases aij (ail hw) with e | e
   ·rw[← e]; exact hp
   ·exact vE ((jI hp).mono (by omega))
  obtain ⟨x',h1,h2⟩:=h ho k (by omega) Y fQ
  rw[e1]
  exact ⟨x',h1,xl (ail hw) (Rh x) (fun _ q=>Cy ho q Y) (fun _ q=>zg ho q Y) hp h2⟩
theorem Lf {x:Nd} (ho:okB x=true) (h:RtA x) {req:Nat} (hr:req≤8) {k:Nat} (hk:bT x req≤k) {Y:List Tk} (hf:xi req Y):∃ x',cU x x'∧Rf (bp k) req (bW x req ++ Y)= .ok (x',Y):=by
 obtain ⟨x',h1,h2⟩:=rtB ho h hr hk (vE hf)
 exact ⟨x',h1,by rw[h2,xj hf]⟩
theorem pf {op:PP Nd} {kd:Kd} (jX:Dn op) {A Z Y:List Tk} {o:Tk} {a' b':Nd} (ha:fW op kd (A ++ o :: Z)=cP op kd (o :: Z).length a' (o :: Z)) (ho:fE kd (o :: Z)=true) (hb:op Z= .ok (b',Y)) :
 fW op kd (A ++ o :: Z)=cP op kd Y.length (.mk (eb kd o.text) [] 0 o.at_ [a',b']) Y:=by
 rw[ha]
 simp only[afK,cP,ho,if_true,aif]
 rw[az hb]
 exact uN jX _ _ _ _ (jX.of hb) (afJ _)
theorem Lg (k:Nat):bp (k + 1)=some (aJ (bp k),fX (bp k)):=by
 show some (mB k)=_
 rw[qv]
theorem dT {s:Bs} {t:Tk} (h1:t.kind=2∨t.kind=5) (h2:t.text=s) (r:List Tk):aY s (t :: r)=true:=fh.2 ⟨h1,h2⟩
theorem kq {s:Bs} {t:Tk} (h2:t.text≠s) (r:List Tk):aY s (t :: r)=false:=by
 cases e:aY s (t :: r) with
 | false=>rfl
 | true=>exact absurd (fh.1 e).2 h2
theorem CA {s:Bs} {t:Tk} (h1:t.kind=2∨t.kind=5) (h2:t.text=s) (r:List Tk):aU s (t :: r)= .ok (t.at_,r):=by
 unfold aU
 rw[if_pos (dT h1 h2 r)]; rfl
theorem se {α β:Type} {x:β} {s:Bs} {body:β→PP α} {t:Tk} (h1:t.kind=2∨t.kind=5) (h2:t.text=s) (r:List Tk):ea (some x) s body (t :: r)=body x r:=by
 unfold ea
 rw[if_pos (dT h1 h2 r)]; rfl
theorem cZ (s:Bs) (r:List Tk):aU s (aM s :: r)= .ok (0,r):=CA (.inr rfl) rfl r
theorem ph (s:Bs) (r:List Tk):aU s (bh s :: r)= .ok (0,r):=CA (.inl rfl) rfl r
theorem vF (r:List Tk):aU [41] (cR :: r)= .ok (0,r):=cZ [41] r
theorem F7 {fn:Bs}:∀ (ks:List Nd),ks.length≤(jy fn false ks).length
 | []=>ahn _
 | a :: r=>by
   rw[jy]
   have:=F7 (fn:=fn) r
   simp only[ah1,afK,ae6,if_false]
   simp; omega
section
variable {N:Nat} (ih:∀ x,aq x≤N→RtA x)
include ih
theorem Lh {fn:Bs} {a:Nd} (hs:aq a≤N) (ho:lU fn a=true) {k:Nat} (hk:zf fn a≤k) {Z:List Tk} (hZ:xi 0 Z):∃ a',cU a a'∧gD (aJ (bp k)) fn (qT fn a ++ Z)= .ok (a',Z):=by
 obtain ⟨c,t,n,p,ks⟩:=a
 rw[lU.eq_def] at ho
 rw[zf.eq_def] at hk
 rw[qT.eq_def]
 simp only at ho hk ⊢
 unfold gD
 by_cases h1:fn=[114,101,99]
 ·rw[if_pos h1] at ho hk ⊢
  rw[if_pos h1]
  match ks,ho,hk,hs with
  | [x],ho,hk,hs=>
    simp only[ae5,decide_eq_true_eq] at ho hk
    obtain ⟨⟨⟨rfl,ht⟩,rfl⟩,hx⟩:=ho
    simp only[aq,aA] at hs
    obtain ⟨x',e1,e2⟩:=iW hx (ih x (by omega)) hk hZ
    refine ⟨.mk 52 t 0 0 [x'],ik rfl rfl rfl (bI.one e1),?_⟩
    show bd (cK 1) _ (dS t :: aM [58] :: (cp x ++ Z))=_
    have t1:cK 1 (dS t :: aM [58] :: (cp x ++ Z))= .ok (dS t,aM [58] :: (cp x ++ Z)):=rfl
    rw[az t1,az (cZ [58] _),az e2]
    rfl
 ·rw[if_neg h1] at ho hk ⊢
  rw[if_neg h1]
  by_cases h2:fn=[109,97,112]
  ·rw[if_pos h2] at ho hk ⊢
   rw[if_pos h2]
   match ks,ho,hk,hs with
   | [x,y],ho,hk,hs=>
     simp only[ae5,decide_eq_true_eq] at ho hk
     obtain ⟨⟨⟨⟨rfl,rfl⟩,rfl⟩,hx⟩,hy⟩:=ho
     simp only[aq,aA] at hs
     obtain ⟨x',e1,e2⟩:=iW hx (ih x (by omega)) (k:=k) (by omega) (mL (t:=aM [58]) (by decide) (cp y ++ Z))
     obtain ⟨y',e3,e4⟩:=iW hy (ih y (by omega)) (k:=k) (by omega) hZ
     have e:cp x ++ aM [58] :: cp y ++ Z=cp x ++ aM [58] :: (cp y ++ Z):=by simp
     refine ⟨.mk 52 [] 0 (hd (cp x ++ aM [58] :: cp y ++ Z)).at_ [x',y'],ik rfl rfl rfl (bI.two e1 e3),?_⟩
     rw[e,az e2,az (cZ [58] _),az e4]
     rfl
  ·rw[if_neg h2] at ho hk ⊢
   rw[if_neg h2]
   exact iW ho (ih _ hs) hk hZ
theorem F8 {fn:Bs} {k:Nat} {Y:List Tk}:∀ (ks:List Nd) (a:Nd) (f:Nat) (l:List Nd),aq a≤N→aA ks≤N→lU fn a=true→nu fn ks=true→zf fn a≤k→ze fn ks≤k→ks.length < f→
 ∃ m,bI (a :: ks) m∧fL (gD (aJ (bp k)) fn) f l (qT fn a ++ (jy fn false ks ++ cR :: Y))= .ok (l ++ m,Y)
 | [],a,0,l,_,_,_,_,_,_,h=>by omega
 | [],a,f + 1,l,h1,h2,h3,h4,h5,h6,h7=>by
   obtain ⟨a',e1,e2⟩:=Lh ih h1 h3 h5 (Ld Y)
   refine ⟨[a'],bI.one e1,?_⟩
   rw[jy,ahv]
   simp only[fL]
   rw[az e2]
   have ec:dF (cR :: Y)= .ok (false,Y):=by
    unfold dF
    rw[if_neg (by rw[kq (by decide)]; decide),az (vF Y)]; rfl
   rw[az ec]; rfl
 | b :: r,a,0,l,_,_,_,_,_,_,h=>by omega
 | b :: r,a,f + 1,l,h1,h2,h3,h4,h5,h6,h7=>by
   simp only[aA] at h2
   simp only[afK] at h7
   rw[nu,ae5] at h4
   rw[ze] at h6
   have e:jy fn false (b :: r) ++ cR :: Y=aM [44] :: (qT fn b ++ (jy fn false r ++ cR :: Y)):=by
    rw[jy]; simp
   obtain ⟨a',e1,e2⟩:=Lh ih h1 h3 h5 (mL (t:=aM [44]) (by decide) (qT fn b ++ (jy fn false r ++ cR :: Y)))
   obtain ⟨m,e3,e4⟩:=F8 (k:=k) (Y:=Y) r b f (l ++ [a']) (by omega) (by omega) h4.1 h4.2 (by omega) (by omega) (by omega)
   refine ⟨a' :: m,bI.cons e1 e3,?_⟩
   rw[e]
   simp only[fL]
   rw[az e2]
   have ec:dF (aM [44] :: (qT fn b ++ (jy fn false r ++ cR :: Y)))= .ok (true,qT fn b ++ (jy fn false r ++ cR :: Y)):=by
    unfold dF
    rw[if_pos (dT (s:=[44]) (t:=aM [44]) (.inr rfl) rfl _)]; rfl
   rw[az ec]
   simp only[if_true]
   rw[e4]
   simp
end
theorem HK {k:Int} {w:Bs} (h:dx k=some w) (lo:Lo) (Y:List Tk):dZ lo (bh w :: Y)= .ok (.mk k [] 0 0 [],Y):=by
 unfold dx at h
 repeat' split at h
 all_goals first
  | (cases h; done)
  | (rename_i hk
     subst hk
     cases h
     rfl)
theorem HL {fn:Bs} (h:fn ∈ aZ) {k:Nat} {l:List Nd} {Z Y:List Tk} (hl:dY (gD (aJ (bp k)) fn) Z= .ok (l,Y)):dZ (bp (k + 1)) (bh fn :: eK :: Z)= .ok (.mk 51 fn 0 0 l,Y):=by
 have key:∀ f ∈ aZ,aY [45] [bh f]=false∧aY [116,114,117,101] [bh f]=false∧aY [102,97,108,115,101] [bh f]=false∧aY [115] [bh f]=false∧aY [98,111,116,116,111,109] [bh f]=false∧aY [40] [bh f]=false:=by decide
 obtain ⟨h1,h2,h3,h4,h5,h6⟩:=key fn h
 have e:∀ s,aY s (bh fn :: eK :: Z)=aY s [bh fn]:=fun s=>rfl
 unfold dZ
 have hk:(hd (bh fn :: eK :: Z)).kind=2:=rfl
 have ht:(hd (bh fn :: eK :: Z)).text=fn:=rfl
 have n3:¬ ((hd (bh fn :: eK :: Z)).kind=3∨aY [45] (bh fn :: eK :: Z)=true):=by
  rw[hk,e,h1]; decide
 have n4:¬ (hd (bh fn :: eK :: Z)).kind=4:=by rw[hk]; decide
 have n1:¬ (hd (bh fn :: eK :: Z)).kind=1:=by rw[hk]; decide
 rw[if_neg n3,if_neg n4,if_neg n1,if_neg (by rw[e,h2]; decide),if_neg (by rw[e,h3]; decide),if_neg (by rw[e,h4]; decide),if_neg (by rw[e,h5]; decide),if_neg (by rw[e,h6]; decide),if_pos ⟨hk,h⟩,Lg]
 show ea _ [40] _ (eK :: Z)=_
 rw[se (s:=[40]) (t:=eK) (.inr rfl) rfl]
 show bd (dY (gD (aJ (bp k)) fn)) _ Z=_
 rw[az hl]; rfl
theorem EJ {lo:Lo} (hl:tJ lo) {n:Nd} {t:Bs} {Y:List Tk}:dC lo (aM [46] :: dS t :: Y).length n (aM [46] :: dS t :: Y)=dC lo Y.length (.mk 42 t 0 0 [n]) Y:=by
 simp only[afK,dC]
 rw[if_pos (dT (s:=[46]) (t:=aM [46]) (.inr rfl) rfl _)]
 show bd (cK 1) _ (dS t :: Y)=_
 have t1:cK 1 (dS t :: Y)= .ok (dS t,Y):=rfl
 rw[az t1]
 exact mG hl (Y.length + 1) Y.length _ _ (aie _) (afJ _)
theorem EK {k:Nat} {n m:Nd} {Z Y:List Tk} (hm:aJ (bp k) Z= .ok (m,aM [93] :: Y)):dC (bp (k + 1)) (aM [91] :: Z).length n (aM [91] :: Z)=dC (bp (k + 1)) Y.length (.mk 43 [] 0 0 [n,m]) Y:=by
 have hlen:Y.length≤Z.length:=by
  have:=(nO (dG k)).of hm
  simp only[afK] at this
  omega
 simp only[afK,dC]
 rw[if_neg (by rw[kq (t:=aM [91]) (by decide)]; decide),if_pos (dT (s:=[91]) (t:=aM [91]) (.inr rfl) rfl _)]
 have e:∀ body:PP Nd × PP Nd→PP Nd,ea (bp (k + 1)) [91] body (aM [91] :: Z)=body (aJ (bp k),fX (bp k)) Z:=fun body=>by
  rw[Lg]
  exact se (t:=aM [91]) (.inr rfl) rfl Z
 rw[e]
 show bd (aJ (bp k)) _ Z=_
 rw[az hm,az (cZ [93] Y)]
 exact mG (dG _) _ _ _ _ hlen (afJ _)
theorem zj (Y:List Tk):pre 7 Y:=⟨fun j h1 h2=>by
 have:8≤j:=h1
 omega,fun h=>by
 have:8≤7:=h
 omega⟩
theorem F9:∀ (N:Nat) (x:Nd),aq x≤N→RtA x
 | 0,x,h=>by cases x; simp only[aq] at h; omega
 | N + 1,x,h=>by
   have ih:=F9 N
   intro ho k hk Y hp
   have hs:=kp ho
   cases hs with
   | @bin kk n p t a b o lv l r hb ht hn ha yj=>
     have hf:=n9 hb
     have kE:jm (.mk kk t n p [a,b])=lv:=hf.mB
     rw[kE] at hp ⊢
     rw[pd hb] at hk
     rw[jJ hb]
     simp only[aq,aA] at h
     have e:bW a l ++ o :: bW b r ++ Y=bW a l ++ o :: (bW b r ++ Y):=by simp
     rw[e]
     have hfa:xi l (o :: (bW b r ++ Y))∨l=lv:=by
      rcases hf.ops with ⟨h1,h2,_⟩ | ⟨_,h2,_⟩
      ·left; rw[h2]; exact (F6 hf _).mono (by omega)
      ·exact .inr h2
     have CB:xi r Y:=by
      rcases hf.ops with ⟨h1,_,h3⟩ | ⟨h1,_,h3⟩
      ·rw[h3]
       exact (jI hp).mono (by omega)
      ·rw[h3]; exact jI hp
     have Hg:r≤8:=by have:=hf.ops; omega
     have hl8:l≤8:=by have:=hf.ops; omega
     obtain ⟨b',b1,b2⟩:=Lf yj (ih b (by omega)) Hg (k:=k) (by omega) CB
     have G4:=hf.at_ lv (bW b r ++ Y) (by have:=hf.ops; omega)
     rw[decide_eq_true rfl] at G4
     rcases hf.ops with ⟨h1,h2,h3⟩ | ⟨h1,h2,h3⟩
     ·subst h1 h2 h3
      obtain ⟨a',a1,a2⟩:=Lf ha (ih a (by omega)) hl8 (k:=k) (by omega) (hfa.resolve_right (by omega))
      refine ⟨.mk kk [] 0 o.at_ [a',b'],ik rfl ht hn (bI.two a1 b1),?_⟩
      have:=Lb (lo:=bp k) a2 G4 b2
      have pX:eb mA o.text=kk:=hf.kind
      rw[pX] at this
      exact this
     ·subst h2 h3
      obtain ⟨a',a1,a2⟩:=rtB ha (ih a (by omega)) hl8 (k:=k) (by omega) (Y:=o :: (bW b (l + 1) ++ Y)) (by
       unfold pre
       rw[if_neg (by omega)]
       exact F6 hf _)
      refine ⟨.mk kk [] 0 o.at_ [a',b'],ik rfl ht hn (bI.two a1 b1),?_⟩
      have pX:=hf.kind
      rcases h1 with rfl | rfl | rfl | rfl
      ·have:=pf (kd:=TW) (oO (dG k)) a2 G4 b2
       rw[show eb TW o.text=kk from pX] at this
       exact this
      ·have:=pf (kd:=Ej) (kP (dG k)) a2 G4 b2
       rw[show eb Ej o.text=kk from pX] at this
       exact this
      ·have:=pf (kd:=wA) (oM (dG k)) a2 G4 b2
       rw[show eb wA o.text=kk from pX] at this
       exact this
      ·have:=pf (kd:=Ei) (lL (dG k)) a2 G4 b2
       rw[show eb Ei o.text=kk from pX] at this
       exact this
   | @cond n p t a b c ht hn ha hb hc=>
     rw[xm] at hk
     rw[oa]
     simp only[aq,aA] at h
     have hY:xi 0 Y:=by
      have hY:xi 1 Y:=hp
      refine ⟨fun j _ h2=>?_,fun _=>hY.2 (by omega)⟩
      rcases Nat.eq_zero_or_pos j with rfl | q
      ·show (decide (eb [] _≠0) && _)=false
       rfl
      ·exact hY.1 j q h2
     obtain ⟨k,rfl⟩:∃ k',k=k' + 1:=⟨k - 1,by omega⟩
     obtain ⟨c',c1,c2⟩:=iW hc (ih c (by omega)) (k:=k) (by omega) hY
     obtain ⟨b',b1,b2⟩:=iW hb (ih b (by omega)) (k:=k) (by omega) (mL (t:=bh [101,108,115,101]) (by decide) (cp c ++ Y))
     obtain ⟨a',a1,a2⟩:=iW ha (ih a (by omega)) (k:=k) (by omega) (mL (t:=bh [116,104,101,110]) (by decide) (cp b ++ bh [101,108,115,101] :: (cp c ++ Y)))
     refine ⟨.mk 30 [] 0 0 [a',b',c'],ik rfl ht hn (bI.cons a1 (bI.two b1 c1)),?_⟩
     show aJ (bp (k + 1)) _= .ok (.mk 30 [] 0 0 [a',b',c'],Y)
     have e:bh [105,102] :: (cp a ++ bh [116,104,101,110] :: (cp b ++ bh [101,108,115,101] :: cp c)) ++ Y=bh [105,102] :: (cp a ++ bh [116,104,101,110] :: (cp b ++ bh [101,108,115,101] :: (cp c ++ Y))):=by simp
     rw[e]
     unfold aJ
     rw[if_pos (dT (s:=[105,102]) (t:=bh [105,102]) (.inl rfl) rfl _),Lg,se (s:=[105,102]) (t:=bh [105,102]) (.inl rfl) rfl]
     rw[az a2,az (ph _ _),az b2,az (ph _ _),az c2]
     rfl
   | @not n p t a ht hn ha=>
     rw[rZ] at hk
     rw[kU]
     simp only[aq,aA] at h
     obtain ⟨k,rfl⟩:∃ k',k=k' + 1:=⟨k - 1,by omega⟩
     obtain ⟨a',a1,a2⟩:=rtB ha (ih a (by omega)) (req:=3) (by omega) (k:=k) (by omega) (Y:=Y) hp
     refine ⟨.mk 33 [] 0 0 [a'],ik rfl ht hn (bI.one a1),?_⟩
     show fX (bp (k + 1)) (bh [110,111,116] :: (bW a 3 ++ Y))= .ok (.mk 33 [] 0 0 [a'],Y)
     unfold fX
     rw[if_pos (dT (s:=[110,111,116]) (t:=bh [110,111,116]) (.inl rfl) rfl _),Lg,se (s:=[110,111,116]) (t:=bh [110,111,116]) (.inl rfl) rfl]
     have a2:fX (bp k) (bW a 3 ++ Y)= .ok (a',Y):=a2
     rw[az a2]; rfl
   | @field n p t a ht hn ha=>
     rw[lV] at hk
     rw[hU]
     simp only[aq,aA] at h
     obtain ⟨a',a1,a2⟩:=rtB ha (ih a (by omega)) (req:=7) (by omega) (k:=k) hk (Y:=aM [46] :: dS t :: Y) (zj _)
     refine ⟨.mk 42 t 0 0 [a'],ik rfl rfl hn (bI.one a1),?_⟩
     have e:bW a 7 ++ [aM [46],dS t] ++ Y=bW a 7 ++ aM [46] :: dS t :: Y:=by simp
     rw[e]
     exact a2.trans (EJ (dG k))
   | @index n p t a b ht hn ha hb=>
     rw[lW] at hk
     rw[hX]
     simp only[aq,aA] at h
     obtain ⟨k,rfl⟩:∃ k',k=k' + 1:=⟨k - 1,by omega⟩
     obtain ⟨b',b1,b2⟩:=iW hb (ih b (by omega)) (k:=k) (by omega) (mL (t:=aM [93]) (by decide) Y)
     obtain ⟨a',a1,a2⟩:=rtB ha (ih a (by omega)) (req:=7) (by omega) (k:=k + 1) (by omega) (Y:=aM [91] :: (cp b ++ aM [93] :: Y)) (zj _)
     refine ⟨.mk 43 [] 0 0 [a',b'],ik rfl ht hn (bI.two a1 b1),?_⟩
     have e:bW a 7 ++ aM [91] :: (cp b ++ [aM [93]]) ++ Y=bW a 7 ++ aM [91] :: (cp b ++ aM [93] :: Y):=by simp
     rw[e]
     exact a2.trans (EK b2)
   | @int n p t ht h1 h2=>
     rw[jK]
     refine ⟨.mk 44 [] n 0 [],ik rfl ht rfl bI.nil,?_⟩
     show dZ (bp k) (dc n ++ Y)= .ok (.mk 44 [] n 0 [],Y)
     unfold dc
     by_cases AG:n < 0
     ·rw[if_pos AG]
      show dZ (bp k) (aM [45] :: vD (-n) :: Y)=_
      unfold dZ
      rw[if_pos (.inr (dT (s:=[45]) (t:=aM [45]) (.inr rfl) rfl _))]
      unfold ig
      rw[if_pos (dT (s:=[45]) (t:=aM [45]) (.inr rfl) rfl _)]
      have t1:cK 3 (vD (-n) :: Y)= .ok (vD (-n),Y):=rfl
      show bd (cK 3) _ (vD (-n) :: Y)=_
      rw[az t1]
      have hw:afd.wrap (0 - (vD (-n)).n)=n:=by
       show afd.wrap (0 - -n)=n
       rw[aV _ (by omega) (by omega)]; omega
      show ret (Nd.mk 44 [] (afd.wrap (0 - (vD (-n)).n)) 0 []) Y=_
      rw[hw]; rfl
     ·rw[if_neg AG]; rfl
   | @quote n p t ht hn=>
     rw[ia]
     exact ⟨.mk 47 t 0 0 [],ik rfl rfl hn bI.nil,rfl⟩
   | @name n p t ht hn=>
     rw[jg]
     exact ⟨.mk 48 t 0 0 [],ik rfl rfl hn bI.nil,rfl⟩
   | @call n p t ks ht hn FK=>
     rw[od] at hk
     rw[jh]
     simp only[aq] at h
     obtain ⟨k,rfl⟩:∃ k',k=k' + 1:=⟨k - 1,by omega⟩
     have e:bh t :: eK :: (jy t true ks ++ [cR]) ++ Y=bh t :: eK :: (jy t true ks ++ cR :: Y):=by simp
     rw[e]
     have hl:∃ m,bI ks m∧dY (gD (aJ (bp k)) t) (jy t true ks ++ cR :: Y)= .ok (m,Y):=by
      cases ks with
      | nil=>exact ⟨[],bI.nil,by rw[jy]; unfold dY; rw[ahv,if_pos (dT (s:=[41]) (t:=cR) (.inr rfl) rfl _)]; rfl⟩
      | cons a r=>
        rw[nu,ae5] at FK
        rw[ze] at hk
        simp only[aA] at h
        have e2:jy t true (a :: r) ++ cR :: Y=qT t a ++ (jy t false r ++ cR :: Y):=by
         rw[jy]; simp
        rw[e2]
        have hlen:=F7 (fn:=t) r
        obtain ⟨m,e3,e4⟩:=F8 ih (k:=k) (Y:=Y) r a (qT t a ++ (jy t false r ++ cR :: Y)).length [] (by omega) (by omega) FK.1 FK.2 (by omega) (by omega) (by simp; omega)
        refine ⟨m,e3,?_⟩
        unfold dY
        rw[if_neg,e4]
        ·rfl
        ·have:aY [41] (qT t a ++ (jy t false r ++ cR :: Y))=false:=by
          obtain ⟨c,tt,nn,pp,kk⟩:=a
          have h1:=FK.1
          rw[lU.eq_def] at h1
          rw[qT.eq_def]
          simp only at h1 ⊢
          by_cases q1:t=[114,101,99]
          ·rw[if_pos q1] at h1 ⊢
           match kk,h1 with
           | [x],h1=>rfl
          ·rw[if_neg q1] at h1 ⊢
           by_cases q2:t=[109,97,112]
           ·rw[if_pos q2] at h1 ⊢
            match kk,h1 with
            | [x,y],h1=>
              simp only[ae5] at h1
              show aY [41] (cp x ++ aM [58] :: cp y ++ _)=false
              rw[List.append_assoc]
              exact Cz h1.1.2 _
           ·rw[if_neg q2] at h1 ⊢
            exact Cz h1 _
         rw[this]; decide
     obtain ⟨m,e3,e4⟩:=hl
     exact ⟨.mk 51 t 0 0 m,ik rfl rfl hn e3,HL ht e4⟩
   | @word kk n p t w hw hb ht hn=>
     rw[ji hw]
     refine ⟨.mk kk [] 0 0 [],ik rfl ht hn bI.nil,?_⟩
     have kE:jm (.mk kk t n p [])=8:=by
      unfold dx at hw
      repeat' split at hw
      all_goals first
       | (cases hw; done)
       | (rename_i hk; subst hk; rfl)
     rw[kE]
     exact HK hw _ Y
theorem vG {x:Nd} (ho:okB x=true) {k:Nat} (hk:gu x≤k) {Y:List Tk} (hY:xi 0 Y):∃ x',cU x x'∧aJ (bp k) (cp x ++ Y)= .ok (x',Y):=iW ho (F9 _ x (afJ _)) hk hY
def Gt (ts:List Tk):Prop:=(∀ t ∈ ts,t.kind≠6→lp t=true)∧AF ts
theorem Gt.tl {ts:List Tk} (h:Gt ts) (hk:(hd ts).kind≠6):Gt ts.tail:=by
 refine ⟨fun t ht=>h.1 t (List.mem_of_mem_tail ht),?_⟩
 obtain ⟨t,ht,h6⟩:=h.2
 cases ts with
 | nil=>simp at ht
 | cons u r=>
   rcases afa.1 ht with rfl | ht
   ·exact absurd h6 hk
   ·exact ⟨t,ht,h6⟩
theorem Gt.hd {ts:List Tk} (h:Gt ts) (hk:(hd ts).kind≠6):lp (hd ts)=true:=by
 cases ts with
 | nil=>exact absurd rfl hk
 | cons t r=>exact h.1 t (by simp) hk
theorem Gt.ne {ts:List Tk} (h:Gt ts):ts≠[]:=by
 obtain ⟨t,ht,_⟩:=h.2
 rintro rfl
 simp at ht
theorem vH {t:Tk} (h:lp t=true) (hk:t.kind≠3):t.n=0:=by
 unfold lp at h
 simp only[ae5,afl,decide_eq_true_eq] at h
 rcases h.1 with q | q
 ·first | exact q | exact absurd q hk
 ·first | exact q | exact absurd q hk
def cF (s:Bs):Tk:=if ve s then bh s else aM s
theorem OY {s:Bs} {ts:List Tk} (h:Gt ts) (e:aY s ts=true):Ay (cF s) (hd ts):=by
 have hk:=ag e
 have hp:=h.hd hk
 obtain ⟨h1,h2⟩:=fh.1 e
 have hz:=vH hp (by omega)
 have hs:∀ g ∈ eP,ve g=false:=by decide
 rcases h1 with h1 | h1
 ·have Re:ve (hd ts).text=true:=by
   unfold lp at hp
   simp only[ae5] at hp
   have hp:=hp.2
   rw[if_neg (by omega),if_pos h1] at hp
   exact hp
  rw[h2] at Re
  unfold cF
  rw[if_pos Re]
  exact ⟨h1.symm,h2.symm,hz.symm⟩
 ·have hsg:cj (hd ts).text=true:=by
   unfold lp at hp
   simp only[ae5] at hp
   have hp:=hp.2
   rw[if_neg (by omega),if_neg (by omega),if_neg (by omega),if_neg (by omega),if_pos h1] at hp
   exact hp
  rw[h2] at hsg
  have hn:=hs s (by unfold cj at hsg; simpa using hsg)
  unfold cF
  rw[if_neg (by rw[hn]; decide)]
  exact ⟨h1.symm,h2.symm,hz.symm⟩
section
variable (w:Tk→Nat)
def cost:List Tk→Nat
 | []=>0
 | t :: r=>w t + cost r
theorem aG:∀ (a b:List Tk),cost w (a ++ b)=cost w a + cost w b
 | [],b=>by simp[cost]
 | t :: a,b=>by rw[ahm,cost,cost,aG a b]; omega
def Wo:Prop:=∀ a b,Ay a b→w a=w b
variable {w} (hw:Wo w)
include hw
omit hw in
theorem sf {ts:List Tk} (hn:(hd ts).kind≠6):cost w ts=w (hd ts) + cost w ts.tail:=by
 cases ts with
 | nil=>exact absurd rfl hn
 | cons t r=>rfl
theorem bk {s:Bs} {ts:List Tk} (h:Gt ts) (e:aY s ts=true):cost w ts=w (cF s) + cost w ts.tail:=by
 rw[sf (ag e),hw _ _ (OY h e)]
omit hw in
theorem eX (n:Nd) (l:Nat):cost w (bW n l)=if jm n < l then w eK + cost w (cp n) + w cR else cost w (cp n):=by
 unfold bW kT
 by_cases h:jm n < l
 ·rw[if_pos (by simpa using h),if_pos h,cost,aG]
  simp[cost]; omega
 ·rw[if_neg (by simpa using h),if_neg h]
omit hw in
theorem tV (n:Nd) {l l':Nat} (h:l≤l'):cost w (bW n l)≤cost w (bW n l'):=by
 rw[eX,eX]
 split <;> split <;> omega
omit hw in
theorem AH (n:Nd) {l l':Nat} (h:l≤l'):bT n l≤bT n l':=by
 unfold bT iI
 simp only[decide_eq_true_eq]
 split <;> split <;> omega
def Mr (w:Tk→Nat) (k l:Nat) (ts:List Tk):Except kc (Nd × List Tk)→Prop
 | .error _=>True
 | .ok x=>okB x.1=true∧bT x.1 l≤k∧cost w (bW x.1 l) + cost w x.2≤cost w ts∧Gt x.2
def Mi (w:Tk→Nat) (k l:Nat) (p:PP Nd):Prop:=∀ ts,Gt ts→Mr w k l ts (p ts)
omit hw in
theorem Mi.of {k l:Nat} {p:PP Nd} (h:Mi w k l p) {ts r:List Tk} {n:Nd} (hg:Gt ts) (e:p ts= .ok (n,r)):okB n=true∧bT n l≤k∧cost w (bW n l) + cost w r≤cost w ts∧Gt r:=by
 have:=h ts hg
 rw[e] at this
 exact this
omit hw in
theorem Mi.low {k l l':Nat} {p:PP Nd} (h:Mi w k l' p) (hl:l≤l'):Mi w k l p:=fun ts hg=>by
 have:=h ts hg
 cases e:p ts with
 | error e'=>trivial
 | ok x=>
   rw[e] at this
   obtain ⟨h1,h2,h3,h4⟩:=this
   exact ⟨h1,ah8 (AH x.1 hl) h2,ah8 (Nat.add_le_add_right (tV (w:=w) x.1 hl) _) h3,h4⟩
def KdF (kd:Kd) (l:Nat):Prop:=∀ s,eb kd s≠0→eH (eb kd s)=some (cF s,l,l,l + 1)
omit hw in
theorem abd {kd:Kd} {x:Nat × Nat × Nat} (h:∀ p ∈ kd,eH p.2=some (cF p.1,x)):∀ s,eb kd s≠0→eH (eb kd s)=some (cF s,x):=by
 intro s hs
 unfold eb at hs ⊢
 cases e:kd.lookup s with
 | none=>rw[e] at hs; exact absurd rfl hs
 | some v=>
   have hm:(s,v) ∈ kd:=by
    clear h hs
    induction kd with
    | nil=>simp at e
    | cons p r ih=>
      obtain ⟨a,b⟩:=p
      rw[List.lookup_cons] at e
      split at e
      ·rename_i hq
       have:s=a:=by simpa using hq
       cases e; subst this; simp
      ·exact List.mem_cons_of_mem _ (ih e)
   exact h _ hm
omit hw in
theorem OZ {kd:Kd} {l:Nat} (h:∀ p ∈ kd,eH p.2=some (cF p.1,l,l,l + 1)):KdF kd l:=abd h
theorem zk {op:PP Nd} {kd:Kd} {l k:Nat} (pX:KdF kd l) (jX:Mi w k (l + 1) op):∀ (f:Nat) (n:Nd) (ts r:List Tk) (m:Nd),okB n=true→bT n l≤k→Gt ts→cP op kd f n ts= .ok (m,r)→
 okB m=true∧bT m l≤k∧cost w (bW m l) + cost w r≤cost w (bW n l) + cost w ts∧Gt r
 | 0,n,ts,r,m,h1,h2,h3,h=>by cases h; exact ⟨h1,h2,afJ _,h3⟩
 | f + 1,n,ts,r,m,h1,h2,h3,h=>by
   simp only[cP] at h
   by_cases e:fE kd ts=true
   ·rw[if_pos e] at h
    cases eo:op ts.tail with
    | error e'=>rw[bN eo] at h; cases h
    | ok x=>
      obtain ⟨b,r1⟩:=x
      rw[az eo] at h
      obtain ⟨b1,b2,b3,b4⟩:=jX.of (h3.tl (ag (ep e))) eo
      have dH:eb kd (hd ts).text≠0:=by
       unfold fE at e
       simp only[ae5,decide_eq_true_eq] at e
       exact e.1
      have hb:=pX _ dH
      have hf:=n9 hb
      have kE:jm (.mk (eb kd (hd ts).text) [] 0 (hd ts).at_ [n,b])=l:=hf.mB
      have dj:okB (.mk (eb kd (hd ts).text) [] 0 (hd ts).at_ [n,b])=true:=by
       rw[okB.eq_def]
       simp only[hb,h1,b1]
       decide
      have Kl:bT (.mk (eb kd (hd ts).text) [] 0 (hd ts).at_ [n,b]) l≤k:=by
       unfold bT iI
       rw[kE,pd hb]
       simp
       omega
      have hc:cost w (bW (.mk (eb kd (hd ts).text) [] 0 (hd ts).at_ [n,b]) l)=cost w (bW n l) + w (cF (hd ts).text) + cost w (bW b (l + 1)):=by
       rw[eX,kE,if_neg (Nat.lt_irrefl _),jJ hb,aG,cost]; omega
      have GZ:=bk hw h3 (ep e)
      obtain ⟨m1,m2,m3,m4⟩:=zk pX jX f _ r1 r m dj Kl b4 h
      exact ⟨m1,m2,by omega,m4⟩
   ·rw[if_neg e] at h
    cases h; exact ⟨h1,h2,afJ _,h3⟩
theorem pj {op:PP Nd} {kd:Kd} {l k:Nat} (pX:KdF kd l) (jX:Mi w k (l + 1) op):Mi w k l (fW op kd):=fun ts hg=>by
 cases e:fW op kd ts with
 | error e'=>trivial
 | ok x=>
   obtain ⟨m,r⟩:=x
   unfold fW at e
   cases eo:op ts with
   | error e'=>rw[bN eo] at e; cases e
   | ok y=>
     obtain ⟨n,r1⟩:=y
     rw[az eo] at e
     obtain ⟨b1,b2,b3,b4⟩:=jX.of hg eo
     obtain ⟨m1,m2,m3,m4⟩:=zk hw pX jX _ n r1 r m b1 (ah8 (AH n (aie l)) b2) b4 e
     have:=tV (w:=w) n (l:=l) (l':=l + 1) (by omega)
     exact ⟨m1,m2,by show cost w (bW m l) + cost w r≤cost w ts; omega,m4⟩
def Lj (w:Tk→Nat) (k:Nat):Prop:=∀ j,k=j + 1→Mi w j 0 (aJ (bp j))∧Mi w j 3 (fX (bp j))
omit hw in
theorem aH {α β:Type} {p:PP α} {f:α→PP β} {ts r:List Tk} {b:β} (h:bd p f ts= .ok (b,r)):∃ a r1,p ts= .ok (a,r1)∧f a r1= .ok (b,r):=by
 cases e:p ts with
 | error e'=>rw[bN e] at h; cases h
 | ok x=>
   obtain ⟨a,r1⟩:=x
   rw[az e] at h
   exact ⟨a,r1,rfl,h⟩
omit hw in
theorem Ll {s:Bs} {ts r:List Tk} {a:Int} (h:aU s ts= .ok (a,r)):aY s ts=true∧r=ts.tail:=by
 unfold aU at h
 split at h
 ·rename_i e; cases h; exact ⟨e,rfl⟩
 ·cases h
omit hw in
theorem tW {k:Int} {ts r:List Tk} {t:Tk} (h:cK k ts= .ok (t,r)):(hd ts).kind=k∧t=hd ts∧r=ts.tail:=by
 unfold cK at h
 split at h
 ·rename_i e; cases h; exact ⟨e,rfl,rfl⟩
 ·cases h
omit hw in
theorem oh {α:Type} {k:Nat} {s:Bs} {body:PP Nd × PP Nd→PP α} {ts r:List Tk} {a:α} (h:ea (bp k) s body ts= .ok (a,r)):∃ j,k=j + 1∧aY s ts=true∧body (aJ (bp j),fX (bp j)) ts.tail= .ok (a,r):=by
 unfold ea at h
 split at h
 ·rename_i e
  cases k with
  | zero=>cases h
  | succ j=>
    rw[Lg] at h
    exact ⟨j,rfl,e,h⟩
 ·cases h
theorem bR {s:Bs} {ts r:List Tk} {a:Int} (hg:Gt ts) (h:aU s ts= .ok (a,r)):cost w ts=w (cF s) + cost w r∧Gt r:=by
 obtain ⟨e,rfl⟩:=Ll h
 exact ⟨bk hw hg e,hg.tl (ag e)⟩
theorem gh {ts r:List Tk} {t:Tk} (hg:Gt ts) (h:cK 1 ts= .ok (t,r)):aT t.text=true∧cost w ts=w (dS t.text) + cost w r∧Gt r:=by
 obtain ⟨e,rfl,rfl⟩:=tW h
 have hk:(hd ts).kind≠6:=by rw[e]; decide
 have hp:=hg.hd hk
 have hz:=vH hp (by rw[e]; decide)
 refine ⟨?_,?_,hg.tl hk⟩
 ·unfold lp at hp
  rw[if_pos e] at hp
  simp only[ae5] at hp
  unfold aT
  rw[hp.2.1,hp.2.2]; rfl
 ·rw[sf hk,hw (dS (hd ts).text) (hd ts) ⟨e.symm,rfl,hz.symm⟩]
end
end Go.Proofs.YtmhdkbmnpekpoaaGreatDoor
