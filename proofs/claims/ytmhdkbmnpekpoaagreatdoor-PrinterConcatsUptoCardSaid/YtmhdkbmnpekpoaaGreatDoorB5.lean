import Derived.Test.YtmhdkbmnpekpoaaGreatDoorB4
import Derived.Test.YtmhdkbmnpekpoaaGreatDoorB2
import Derived.Lib.Join
section
set_option linter.unusedSimpArgs false
set_option linter.unusedVariables false
set_option maxRecDepth 8000
namespace Go.Proofs.YtmhdkbmnpekpoaaGreatDoor
open Gx Go
theorem nb {s:Bs} {ts:List Tk} (h:isB s ts=false):¬ isB s ts=true:=by rw [h]; decide
def KdR (ns:List Nd) (v:Value) (H H':Heap):Prop:=∃ g,LsO H' (fun x=>x < H.size) 24 5 v (ns.map Nd.dat) g∧∀ b,g=some b→H.size≤b
theorem _root_.Gx.Lv.callRow {O0 O:List Nat} {S S':Heap→Prop} {H0 H H':Heap} {l:List Ent} {ds:List (Dat × List Value)} {e m:Nat} {v:Value} {dl:List Dat} {g:Option Nat} (L:Lv O0 H0 O S H l ds) (hf:Fr O H H')
 (hS:∀ (M:List Nat) (H'':Heap),Fr M H' H''→(∀ x ∈ M,H0.size≤x∧x ∉ O)→S' H'') (hr:LsO H' (fun x=>x < H.size) e m v dl g) (hg:∀ b,g=some b→H.size≤b):Lv O0 H0 O S' H' (.row e m v dl g :: l) ds:=by
 have L':=Lv.call L hf hS
 have hsz:=L.fr.size
 have hb:∀ x,Lk H0.size O (.row e m v dl g :: l) x→Lk H0.size O l x∨H.size≤x:=by
  rintro x (q | q | q)
  ·exact .inl (.inl q)
  ·exact .inl (.inr (.inl q))
  ·simp only [List.flatMap_cons,Ent.bs,List.mem_append,Option.mem_toList] at q
   rcases q with q | q
   ·exact .inr (hg x q)
   ·exact .inl (.inr (.inr q))
 have hold:∀ x,Lk H0.size O l x→x < H.size:=by
  rintro x (q | q | q)
  ·omega
  ·exact (L.own x q).1
  ·exact (L.lo x q).2.2
 refine ⟨L'.fr,L'.own,?_,fun x hx=>?_,fun p hp=>?_,fun p hp=>?_,hS⟩
 ·simp only [List.flatMap_cons,Ent.bs,List.nodup_append]
  refine ⟨by cases g <;> simp,L.nd,fun a ha b hb=>?_⟩
  have h1:=hg a (by simpa using ha)
  have h2:=(L.lo b hb).2.2
  omega
 ·simp only [List.flatMap_cons,Ent.bs,List.mem_append,Option.mem_toList] at hx
  rcases hx with hx | hx
  ·have:=hg x hx
   exact ⟨by omega,fun q=>by have:=(L.own x q).1; omega,LsO.lt hr hx⟩
  ·exact L'.lo x hx
 ·rcases List.mem_cons.1 hp with rfl | hp
  ·obtain ⟨css,h1,h2,h3⟩:=hr
   refine ⟨css,h1,h2,h3.more fun x hx=>.inl ?_⟩
   rcases hx with (q | q | q) | q
   ·exact .inl (by omega)
   ·exact .inl (L.own x q).1
   ·simp only [List.flatMap_cons,Ent.bs,List.mem_append,Option.mem_toList] at q
    rcases q with q | q
    ·exact .inr q
    ·exact .inl (L.lo x q).2.2
   ·exact .inr q
  ·refine Ent.ok_step (L.ok p hp) hf (fun x hx=>.inl (.inr (.inl hx))) (fun x hx hm=>?_) hb
   exact (L.lo x (List.mem_flatMap.2 ⟨p,hp,hx⟩)).2.1 hm
 ·exact RepP.fr (L.dat p hp) hf (fun x hx=>.inl (.inr (.inl hx))) hb
section
variable {X:Cx} {H0 H H':Heap} {ts0 ts r:List Tk} {k0 k:Nat} {l:List Ent} {ds:List (Dat × List Value)} {γ:Type} {P0:Except Flt (γ × List Tk)} {Q:Value→Heap→Prop}
theorem POk.goR {f:Nat} {av:List Value} {p:PP (List Nd)} {g:List Nd→PP γ} (h:POk k f av p KdR) (h0:Ps X H0 ts0 k0) (L:PLv X H0 ts k H l ds) (hp:P0=bd p g ts)
 (hR:∀ ns a c gb r H',PLv X H0 r k H' (.row 24 5 (.slice a ns.length c) (ns.map Nd.dat) gb :: l) ds→P0=g ns r→p ts= .ok (ns,r)→Q (.slice a ns.length c) H'):PCalls Tryz.prog f (ptr X.b :: av).toArray H Q (PEr X H0 P0):=
 h.use L.ps (fun e H' he hf=>⟨e,by rw [hp,bd_err he],rfl,L.fr.trans hf⟩) fun ns r v H' he ⟨gb,h1,h2⟩ hs hf=>by
  obtain ⟨a,c,hv,_⟩:=h1.slice
  rw [List.length_map] at hv
  subst hv
  exact hR ns a c gb r H' (L.callRow hf (fun M H'' hf' hM=>Ps.on h0 hs hf' fun x hx=>(hM x hx).1) h1 h2) (by rw [hp,bd_ok he]) he
theorem _root_.Gx.Lv.finR {P0:Except Flt (List Nd × List Tk)} {ns:List Nd} {v:Value} {g:Option Nat} (L:PLv X H0 r k H l ds) (hp:P0=ret ns r) (i:Nat) (hi:l[i]?=some (.row 24 5 v (ns.map Nd.dat) g)) :
 ∃ a r,P0= .ok (a,r)∧KdR a v H0 H∧Ps X H r k∧Fr [X.b] H0 H:=
 ⟨ns,r,hp,⟨g,(L.rowGet i hi).ext (Fr.refl [] _) fun x hx=>.inl (.inl hx),fun b hb=>(L.lo b (List.mem_flatMap.2 ⟨_,List.mem_of_getElem? hi,by simp [Ent.bs,hb]⟩)).1⟩,L.ps,L.fr⟩
end
theorem quotes_ok {k:Nat}:POk k 102 [] quotesP KdR:=by
 refine ⟨fun {X H ts} hs=>?_⟩
 refine pcalls_of_vc (args:=[_]) Tryz.func102 c102ok (Nat.le_of_ble_eq_true rfl) ?_
 have L:=hs.walk
 have hcap:=hs.cap
 simp (implicitDefEqProofs:=false) only [go_sem,c102]
 refine quote_ok.goN hs L (P0:=quotesP ts) rfl fun kk tt nn aa ks kv r H1 L hp he=>?_
 simp (implicitDefEqProofs:=false) only [go_sem]
 refine L.newS fun b1 H2 L=>?_
 have L:=L.rowN1 (ks:=ks) (by simp)
 have hlen:r.length≤1048576:=by
  obtain ⟨i',_,e',_⟩:=L.ps.ex
  rw [e',List.length_drop]; omega
 simp (implicitDefEqProofs:=false) only [go_sem]
 refine vc_loop (fun (s:List Tk × List Nd × Value) H'=>∃ g f,PLv X H s.1 k H' [.row 24 5 s.2.2 (s.2.1.map Nd.dat) g] []∧quotesP ts=quotesF f s.2.1 s.1∧s.1.length≤f∧s.2.1.length + s.1.length≤1048577)
  (fun s=>[(0,ptr X.b),(3,s.2.2)]) (fun s=>s.1.length) (r,[.mk kk tt nn aa ks],.slice (some ⟨b1,0,none⟩) 1 1) ?_ ?_ ?_
 ·exact ⟨_,r.length,L.drop (List.Sublist.refl _) (by simp),hp,Nat.le_refl _,by simp; omega⟩
 ·simp (implicitDefEqProofs:=false) only [go_sem,ptr]
 ·rintro ⟨cur,ns,v⟩ H3 ⟨g,f,L,hp,hf,hle⟩
  simp only at L hp hf hle ⊢
  have hcur:=List.length_pos_iff.2 L.ps.nil
  obtain ⟨f,rfl⟩:∃ f',f=f' + 1:=⟨f - 1,by omega⟩
  have htl:cur.tail.length=cur.length - 1:=by simp
  conv at hp=>rhs; unfold quotesF
  simp (implicitDefEqProofs:=false) only [go_sem]
  refine accept_go hs L [44] (fun e H4 L=>?_) fun e H4 L=>?_
  ·rw [if_pos e] at hp
   have hct:=List.length_pos_iff.2 L.ps.nil
   simp (implicitDefEqProofs:=false) only [go_sem]
   refine quote_ok.goN hs L hp fun kk tt nn aa ks kv r' H5 L hp he=>?_
   have hle1:=quoteP_dn.of he
   simp (implicitDefEqProofs:=false) only [go_sem]
   refine L.newS fun bA HA L=>?_
   simp (implicitDefEqProofs:=false) only [go_sem]
   refine L.appN (ns:=ns) (ks:=ks) 0 rfl (by simp) (by omega) fun a c g' HB L=>?_
   simp only [List.set_cons_zero,List.set_cons_succ,List.set_nil,List.eraseIdx_cons_zero,List.eraseIdx_cons_succ] at L
   simp (implicitDefEqProofs:=false) only [go_sem]
   refine loopK_intro (r',ns ++ [.mk kk tt nn aa ks],.slice a (ns ++ [Nd.mk kk tt nn aa ks]).length c) ?_ ?_ ⟨g',f,L.drop (List.Sublist.refl _) (by simp),hp,show r'.length≤f by omega,?_⟩
   ·show r'.length < cur.length
    omega
   ·simp (implicitDefEqProofs:=false) only [go_sem]
   ·simp only [List.length_append,List.length_cons,List.length_nil]; omega
  ·rw [if_neg (nb e)] at hp
   simp (implicitDefEqProofs:=false) only [go_sem]
   exact L.finR hp 0 rfl
theorem allowed_ok {k:Nat}:POk k 71 [] allowedP KdR:=by
 refine ⟨fun {X H ts} hs=>?_⟩
 refine pcalls_of_vc (args:=[_]) Tryz.func71 c71ok (Nat.le_of_ble_eq_true rfl) ?_
 have L:=hs.walk
 obtain ⟨hp,_⟩:allowedP ts=allowedP ts∧True:=⟨rfl,trivial⟩
 conv at hp=>rhs; unfold allowedP
 simp (implicitDefEqProofs:=false) only [go_sem,c71]
 refine accept_go hs L [40] (fun e H1 L=>?_) fun e H1 L=>?_
 ·rw [if_pos e] at hp
  simp (implicitDefEqProofs:=false) only [go_sem]
  refine quotes_ok.goR hs L hp fun ns a c gb r H2 L hp _=>?_
  simp (implicitDefEqProofs:=false) only [go_sem]
  refine (expect_ok [41]).go hs L hp fun _ r v H3 L hp _ _=>?_
  simp (implicitDefEqProofs:=false) only [go_sem]
  exact L.finR hp 0 rfl
 ·rw [if_neg (nb e)] at hp
  simp (implicitDefEqProofs:=false) only [go_sem]
  exact (L.row0 24 5).finR (ns:=[]) hp 0 rfl
theorem two_ok {k g:Nat} {p:PP Nd} (hg:hasBody Tryz.prog g=true) (hop:POk k g [] p NdR) {X:Cx} {H:Heap} {ts:List Tk} (hs:Ps X H ts k) :
 PCalls Tryz.prog 72 #[ptr X.b,.func (.func g) #[ptr X.b] #[]] H (fun v H'=>∃ a r,twoP p ts= .ok (a,r)∧KdR a v H H'∧Ps X H' r k∧Fr [X.b] H H') (PEr X H (twoP p ts)):=by
 refine pcalls_of_vc (args:=[_,_]) Tryz.func72 c72ok (Nat.le_of_ble_eq_true rfl) ?_
 have L:=hs.walk
 simp (implicitDefEqProofs:=false) only [go_sem,c72]
 refine (expect_ok [40]).go hs L (P0:=twoP p ts) rfl fun _ r v H1 L hp _ _=>?_
 simp (implicitDefEqProofs:=false) only [go_sem]
 refine ⟨hg,hop.goN hs L hp fun kk tt nn aa ks kv r H2 L hp _=>?_⟩
 simp (implicitDefEqProofs:=false) only [go_sem]
 refine L.newP fun b1 H3 L=>?_
 simp (implicitDefEqProofs:=false) only [go_sem]
 refine L.stoAll 0 rfl rfl (one_agg (L.one (ks:=ks) (by simp))) fun H4 L=>?_
 simp only [List.set_cons_zero,List.set_cons_succ,List.set_nil,List.eraseIdx_cons_zero,List.eraseIdx_cons_succ] at L
 simp (implicitDefEqProofs:=false) only [go_sem]
 refine (expect_ok [44]).go hs L hp fun _ r v H5 L hp _ _=>?_
 simp (implicitDefEqProofs:=false) only [go_sem]
 refine ⟨hg,hop.goN hs L hp fun kk' tt' nn' aa' ks' kv' r H6 L hp _=>?_⟩
 simp (implicitDefEqProofs:=false) only [go_sem]
 refine L.newP fun b2 H7 L=>?_
 simp (implicitDefEqProofs:=false) only [go_sem]
 refine L.stoAll 0 rfl rfl (one_agg (L.one (ks:=ks') (by simp))) fun H8 L=>?_
 simp only [List.set_cons_zero,List.set_cons_succ,List.set_nil,List.eraseIdx_cons_zero,List.eraseIdx_cons_succ] at L
 simp (implicitDefEqProofs:=false) only [go_sem]
 refine (expect_ok [41]).go hs L hp fun _ r v H9 L hp _ _=>?_
 have c:=L.cell 0 rfl
 have c':=L.cell 1 rfl
 simp (implicitDefEqProofs:=false) only [go_sem,c,c']
 refine L.newS fun b3 H10 L=>?_
 simp (implicitDefEqProofs:=false) only [go_sem]
 have L:=L.rowOwn (dl:=[Nd.mk kk tt nn aa ks,Nd.mk kk' tt' nn' aa' ks'].map Nd.dat) (m:=5) (n:=2) (css:=[[.int .i64 kk,sv tt,.int .i64 nn,.int .i64 aa,kv],[.int .i64 kk',sv tt',.int .i64 nn',.int .i64 aa',kv']]) (by simp only [List.flatten_cons,List.flatten_nil,List.append_nil,List.cons_append,List.nil_append]) (by simp) ((RepsP.nil.cons (L.ndr (ks:=ks') (by simp))).cons (L.ndr (ks:=ks) (by simp))) rfl (by simp [maxLen])
 exact L.finR hp 0 rfl
def sorts:List Bs:=[[105,110,116],[98,111,111,108],[110,97,109,101],[110,97,109,101,115]]
theorem sort_ok {k:Nat}:POk k 66 [] sortP IntR':=by
 refine ⟨fun {X H ts} hs=>?_⟩
 refine pcalls_of_vc (args:=[_]) Tryz.func66 c66ok (Nat.le_of_ble_eq_true rfl) ?_
 have L:=hs.walk
 obtain ⟨hp,_⟩:sortP ts=sortP ts∧True:=⟨rfl,trivial⟩
 conv at hp=>rhs; unfold sortP
 simp (implicitDefEqProofs:=false) only [go_sem,c66]
 refine L.newS fun b1 H1 L=>?_
 simp (implicitDefEqProofs:=false) only [go_sem]
 refine vc_loop (fun (i:Nat) H'=>i≤4∧PLv X H ts k H' [.blk b1 9 [.string ⟨⟨[105,110,116]⟩⟩,.string ⟨⟨[98,111,111,108]⟩⟩,.string ⟨⟨[110,97,109,101]⟩⟩,.string ⟨⟨[110,97,109,101,115]⟩⟩]] []∧∀ j s,j < i→sorts[j]?=some s→isB s ts=false)
  (fun i=>[(0,ptr X.b),(5,.slice (some ⟨b1,0,none⟩) 4 4),(6,.int .i64 4),(7,.int .i64 i)]) (fun i=>4 - i) 0 ?_ ?_ ?_
 ·exact ⟨by decide,L,fun j s h=>by omega⟩
 ·simp (implicitDefEqProofs:=false) only [go_sem,ptr]
 ·rintro i H2 ⟨hi,L,hno⟩
  have h5:i=0∨i=1∨i=2∨i=3∨i=4:=by omega
  rcases h5 with rfl | rfl | rfl | rfl | rfl
  ·have c:=L.cell 0 rfl
   have w:IntKind.i64.wrap 1=1:=rfl
   simp (implicitDefEqProofs:=false) only [go_sem,c]
   refine accept_go hs L [105,110,116] (fun e H3 L=>?_) fun e H3 L=>?_
   ·skip
    rw [if_pos e] at hp
    simp (implicitDefEqProofs:=false) only [go_sem,w]
    exact ⟨1,ts.tail,hp,rfl,L.ps,L.fr⟩
   ·simp (implicitDefEqProofs:=false) only [go_sem]
    refine loopK_intro (1:Nat) (by simp) ?_ ⟨by simp,L,fun j s hj hsj=>?_⟩
    ·simp (implicitDefEqProofs:=false) only [go_sem,w]
    ·rcases Nat.lt_or_ge j (1 - 1) with q | q
     ·exact hno j s (by omega) hsj
     ·obtain rfl:j=1 - 1:=by omega
      simp [sorts] at hsj
      subst hsj; exact e
  ·have c:=L.cell 0 rfl
   have w:IntKind.i64.wrap 2=2:=rfl
   simp (implicitDefEqProofs:=false) only [go_sem,c]
   refine accept_go hs L [98,111,111,108] (fun e H3 L=>?_) fun e H3 L=>?_
   ·rw [if_neg (nb (hno 0 _ (by omega) rfl))] at hp
    rw [if_pos e] at hp
    simp (implicitDefEqProofs:=false) only [go_sem,w]
    exact ⟨2,ts.tail,hp,rfl,L.ps,L.fr⟩
   ·simp (implicitDefEqProofs:=false) only [go_sem]
    refine loopK_intro (2:Nat) (by simp) ?_ ⟨by simp,L,fun j s hj hsj=>?_⟩
    ·simp (implicitDefEqProofs:=false) only [go_sem,w]
    ·rcases Nat.lt_or_ge j (2 - 1) with q | q
     ·exact hno j s (by omega) hsj
     ·obtain rfl:j=2 - 1:=by omega
      simp [sorts] at hsj
      subst hsj; exact e
  ·have c:=L.cell 0 rfl
   have w:IntKind.i64.wrap 3=3:=rfl
   simp (implicitDefEqProofs:=false) only [go_sem,c]
   refine accept_go hs L [110,97,109,101] (fun e H3 L=>?_) fun e H3 L=>?_
   ·rw [if_neg (nb (hno 0 _ (by omega) rfl)),if_neg (nb (hno 1 _ (by omega) rfl))] at hp
    rw [if_pos e] at hp
    simp (implicitDefEqProofs:=false) only [go_sem,w]
    exact ⟨3,ts.tail,hp,rfl,L.ps,L.fr⟩
   ·simp (implicitDefEqProofs:=false) only [go_sem]
    refine loopK_intro (3:Nat) (by simp) ?_ ⟨by simp,L,fun j s hj hsj=>?_⟩
    ·simp (implicitDefEqProofs:=false) only [go_sem,w]
    ·rcases Nat.lt_or_ge j (3 - 1) with q | q
     ·exact hno j s (by omega) hsj
     ·obtain rfl:j=3 - 1:=by omega
      simp [sorts] at hsj
      subst hsj; exact e
  ·have c:=L.cell 0 rfl
   have w:IntKind.i64.wrap 4=4:=rfl
   simp (implicitDefEqProofs:=false) only [go_sem,c]
   refine accept_go hs L [110,97,109,101,115] (fun e H3 L=>?_) fun e H3 L=>?_
   ·rw [if_neg (nb (hno 0 _ (by omega) rfl)),if_neg (nb (hno 1 _ (by omega) rfl)),if_neg (nb (hno 2 _ (by omega) rfl))] at hp
    rw [if_pos e] at hp
    simp (implicitDefEqProofs:=false) only [go_sem,w]
    exact ⟨4,ts.tail,hp,rfl,L.ps,L.fr⟩
   ·simp (implicitDefEqProofs:=false) only [go_sem]
    refine loopK_intro (4:Nat) (by simp) ?_ ⟨by simp,L,fun j s hj hsj=>?_⟩
    ·simp (implicitDefEqProofs:=false) only [go_sem,w]
    ·rcases Nat.lt_or_ge j (4 - 1) with q | q
     ·exact hno j s (by omega) hsj
     ·obtain rfl:j=4 - 1:=by omega
      simp [sorts] at hsj
      subst hsj; exact e
  ·rw [if_neg (nb (hno 0 _ (by omega) rfl)),if_neg (nb (hno 1 _ (by omega) rfl)),if_neg (nb (hno 2 _ (by omega) rfl)),if_neg (nb (hno 3 _ (by omega) rfl))] at hp
   simp (implicitDefEqProofs:=false) only [go_sem]
   exact fail_go L hp
end Go.Proofs.YtmhdkbmnpekpoaaGreatDoor
end
section
set_option linter.unusedSimpArgs false
set_option linter.unusedVariables false
set_option maxRecDepth 8000
namespace Go.Proofs.YtmhdkbmnpekpoaaGreatDoor
open Gx Go
theorem takeP_eq {k:Int} {ts r:List Tk} {t:Tk} (h:takeP k ts= .ok (t,r)):t=hd ts∧t.kind=k∧r=ts.tail:=by
 unfold takeP at h
 split at h
 ·cases h; exact ⟨rfl,by assumption,rfl⟩
 ·cases h
theorem quoteP_eq {ts r:List Tk} {n:Nd} (h:quoteP ts= .ok (n,r)):n= .mk 47 (hd ts).text 0 (hd ts).at_ []∧(hd ts).kind=4∧r=ts.tail:=by
 unfold quoteP bd at h
 split at h
 ·cases h
 ·rename_i t q hq
  obtain ⟨rfl,h2,rfl⟩:=takeP_eq hq
  cases h; exact ⟨rfl,h2,rfl⟩
theorem hd_pos {ts:List Tk} {k:Int} (h:(hd ts).kind=k) (hk:k≠6):0 < ts.length:=by
 cases ts with
 | nil=>exact absurd h.symm hk
 | cons t r=>simp
theorem quotesF_len:∀ (f:Nat) (l ns:List Nd) (ts r:List Tk),quotesF f l ts= .ok (ns,r)→ns.length + r.length≤l.length + ts.length
 | 0,l,ns,ts,r,h=>by
   simp only [quotesF,ret,Except.ok.injEq,Prod.mk.injEq] at h
   obtain ⟨rfl,rfl⟩:=h; exact Nat.le_refl _
 | f + 1,l,ns,ts,r,h=>by
   simp only [quotesF] at h
   split at h
   ·unfold bd at h
    split at h
    ·cases h
    ·rename_i a q hq
     have h1:=quotesF_len f _ _ _ _ h
     have h2:=(quoteP_eq hq).2
     have h3:=hd_pos h2.1 (by decide)
     rw [h2.2] at h1
     simp only [List.length_append,List.length_cons,List.length_nil,List.length_tail] at h1 h3
     omega
   ·cases h; exact Nat.le_refl _
theorem quotesP_len {ns:List Nd} {ts r:List Tk} (h:quotesP ts= .ok (ns,r)):ns.length + r.length≤ts.length:=by
 unfold quotesP bd at h
 split at h
 ·cases h
 ·rename_i a q hq
  have h1:=quotesF_len _ _ _ _ _ h
  have h2:=(quoteP_eq hq).2
  have h3:=hd_pos h2.1 (by decide)
  rw [h2.2] at h1
  simp only [List.length_cons,List.length_nil,List.length_tail] at h1
  omega
theorem _root_.Gx.Lv.len {X:Cx} {H0 H:Heap} {ts:List Tk} {k:Nat} {l:List Ent} {ds:List (Dat × List Value)} (L:PLv X H0 ts k H l ds):ts.length≤1048576:=by
 obtain ⟨i',_,e',_⟩:=L.ps.ex
 have:=L.ps.cap
 rw [e',List.length_drop]; omega
theorem param_ok {k:Nat}:POk k 64 [] paramP NdR:=by
 refine ⟨fun {X H ts} hs=>?_⟩
 refine pcalls_of_vc (args:=[_]) Tryz.func64 c64ok (Nat.le_of_ble_eq_true rfl) ?_
 have L:=hs.walk
 have hp:paramP ts=bd (namedP 6) (fun n=>match n with | .mk kk tt nn aa ks=>bd (expP [58]) fun _=>bd sortP fun s=>ret (.mk kk tt s aa ks)) ts:=by
  unfold paramP namedP
  rw [bd_bd]; rfl
 simp (implicitDefEqProofs:=false) only [go_sem,c64]
 refine L.newP fun b1 H1 L=>?_
 simp (implicitDefEqProofs:=false) only [go_sem]
 refine (named_ok 6).goN hs L hp fun kk tt nn aa ks kv r H2 L hp _=>?_
 simp only at hp
 simp (implicitDefEqProofs:=false) only [go_sem]
 refine L.newP fun b2 H3 L=>?_
 simp (implicitDefEqProofs:=false) only [go_sem]
 refine L.stoAll 0 rfl rfl (one_agg (L.one (ks:=ks) (by simp))) fun H4 L=>?_
 simp only [List.set_cons_zero,List.set_cons_succ,List.set_nil,List.eraseIdx_cons_zero,List.eraseIdx_cons_succ] at L
 simp (implicitDefEqProofs:=false) only [go_sem]
 refine (expect_ok [58]).go hs L hp fun _ r v H5 L hp _ _=>?_
 simp (implicitDefEqProofs:=false) only [go_sem]
 refine sort_ok.go hs L hp fun n r v H6 L hp _ hv=>?_
 cases hv
 simp (implicitDefEqProofs:=false) only [go_sem]
 refine L.stoOne 0 rfl (by simp) rfl fun H7 L=>?_
 simp only [List.set_cons_zero,List.set_cons_succ,List.set_nil,List.eraseIdx_cons_zero,List.eraseIdx_cons_succ] at L
 have c:=L.cell 0 rfl
 simp (implicitDefEqProofs:=false) only [go_sem,c]
 refine L.stoAll 1 rfl rfl (one_agg (L.one (ks:=ks) (by simp))) fun HZ L=>?_
 simp only [List.set_cons_zero,List.set_cons_succ,List.set_nil,List.eraseIdx_cons_zero,List.eraseIdx_cons_succ] at L
 have c:=L.cell 1 rfl
 simp (implicitDefEqProofs:=false) only [go_sem,c]
 exact L.fin hp (.inl (by simp))
theorem rule_rest {k:Nat} {X:Cx} {H H1:Heap} {ts r:List Tk} {b:Nat} {ns qs:List Nd} {v w:Value} {g gq:Option Nat} {aa:Int} {γ:Type} {P0:Except Flt (γ × List Tk)} {G:Nd→PP γ} {x1 x4 x5 x6:Option Value} {Q:Post} (hs:Ps X H ts k)
 (L:PLv X H r k H1 [.row 24 5 w (qs.map Nd.dat) gq,.blk b 24 [.int .i64 20,sv [],.int .i64 0,.int .i64 aa,w],.row 24 5 v (ns.map Nd.dat) g] []) (hl:qs.length + 1≤1048576) (hl2:ns.length + 1≤1048576)
 (hp:P0=bd (bd (expP [61,62]) fun _=>bd quoteP fun c=>ret (.mk 20 [] 0 aa (qs ++ [c]))) G r)
 (hQ:∀ a c g' H' r' n,PLv X H r' k H' [.row 24 5 (.slice a (ns.length + 1) c) ((ns ++ [n]).map Nd.dat) g'] []→P0=G n r'→r'.length≤r.length→Q .nrm [some (ptr X.b),x1,some (.slice a (ns.length + 1) c),some (.pointer (some ⟨b,0,none⟩)),x4,x5,x6] H') :
 vc Tryz.prog (PEr X H P0) c74s17 [some (ptr X.b),x1,some v,some (.pointer (some ⟨b,0,none⟩)),x4,x5,x6] H1 Q:=by
 rw [c74s17eq]
 simp only [bd_bd] at hp
 simp (implicitDefEqProofs:=false) only [go_sem]
 refine (expect_ok [61,62]).go hs L hp fun _ r1 v H2 L hp he _=>?_
 have hle1:=(expP_dn _).of he
 rw [bd_bd] at hp
 have c:=L.cell 1 rfl
 simp (implicitDefEqProofs:=false) only [go_sem,c]
 refine quote_ok.goN hs L hp fun kk tt nn aa' ks kv r2 H3 L hp he=>?_
 have hle2:=quoteP_dn.of he
 have c:=L.cell 1 rfl
 simp (implicitDefEqProofs:=false) only [go_sem,c]
 refine L.newS fun bA HA L=>?_
 have c:=L.cell 2 rfl
 simp (implicitDefEqProofs:=false) only [go_sem,c]
 refine L.appN (ns:=qs) (ks:=ks) 0 rfl (by simp) hl fun a c g' HB L=>?_
 simp only [List.set_cons_zero,List.set_cons_succ,List.set_nil,List.eraseIdx_cons_zero,List.eraseIdx_cons_succ] at L
 simp (implicitDefEqProofs:=false) only [go_sem]
 refine L.stoOne 1 rfl (by simp) rfl fun HC L=>?_
 simp only [List.set_cons_zero,List.set_cons_succ,List.set_nil,List.eraseIdx_cons_zero,List.eraseIdx_cons_succ] at L
 have L:=L.rowN 0 (qs ++ [.mk kk tt nn aa' ks]) rfl
 simp only [List.set_cons_zero,List.set_cons_succ,List.set_nil,List.eraseIdx_cons_zero,List.eraseIdx_cons_succ] at L
 have c:=L.cell 0 rfl
 simp (implicitDefEqProofs:=false) only [go_sem,c]
 refine L.newS fun bD HD L=>?_
 simp (implicitDefEqProofs:=false) only [go_sem]
 refine L.appN (kk:=20) (tt:=[]) (nn:=0) (aa:=aa) (ns:=ns) (ks:=qs ++ [.mk kk tt nn aa' ks]) 1 rfl (by simp) hl2 fun a c g' HB L=>?_
 simp only [List.set_cons_zero,List.set_cons_succ,List.set_nil,List.eraseIdx_cons_zero,List.eraseIdx_cons_succ] at L
 have e:(ns ++ [Nd.mk 20 [] 0 aa (qs ++ [.mk kk tt nn aa' ks])]).length=ns.length + 1:=by simp
 rw [e] at L ⊢
 simp (implicitDefEqProofs:=false) only [go_sem]
 exact hQ a c g' HB r2 _ (L.drop (by simp) (by simp)) hp (by omega)
theorem ruleP_bd {γ:Type} {G:Nd→PP γ} {ts:List Tk}:bd ruleP G ts=bd optQ (fun q=>bd (bd (expP [61,62]) fun _=>bd quoteP fun c=>ret (.mk 20 [] 0 (hd ts).at_ (q ++ [c]))) G) ts:=by
 have e:ruleP ts=bd optQ (fun q=>bd (expP [61,62]) fun _=>bd quoteP fun c=>ret (.mk 20 [] 0 (hd ts).at_ (q ++ [c]))) ts:=rfl
 rw [← bd_bd]
 unfold bd at e ⊢
 rw [e]
theorem optQ_y {γ:Type} {G:List Nd→PP γ} {ts:List Tk} (h:(hd ts).kind=4):bd optQ G ts=bd quotesP G ts:=by
 unfold bd optQ; rw [if_pos h]
theorem optQ_n {γ:Type} {G:List Nd→PP γ} {ts:List Tk} (h:(hd ts).kind≠4):bd optQ G ts=G [] ts:=by
 unfold bd optQ; rw [if_neg h]
set_option maxHeartbeats 1000000 in
theorem closed_rest {k:Nat} {X:Cx} {H H1:Heap} {ts r:List Tk} {ns:List Nd} {v:Value} {g:Option Nat} {P0:Except Flt (List Nd × List Tk)} {x1 x3 x4 x5 x6:Option Value} (hs:Ps X H ts k)
 (L:PLv X H r k H1 [.row 24 5 v (ns.map Nd.dat) g] []) (hl:ns.length + r.length≤1048577)
 (hp:P0=bd (rulesF r.length ns) (fun l=>bd (expP [41]) fun _=>ret l) r) :
 vc Tryz.prog (PEr X H P0) c74s25 [some (ptr X.b),x1,some v,x3,x4,x5,x6] H1 (finQ c74.res fun v H'=>∃ a r,P0= .ok (a,r)∧KdR a v H H'∧Ps X H' r k∧Fr [X.b] H H'):=by
 rw [c74s25eq]
 simp (implicitDefEqProofs:=false) only [go_sem,c74]
 refine vc_loop (fun (s:List Tk × List Nd × Value) H'=>∃ g f,PLv X H s.1 k H' [.row 24 5 s.2.2 (s.2.1.map Nd.dat) g] []∧P0=bd (rulesF f s.2.1) (fun l=>bd (expP [41]) fun _=>ret l) s.1∧s.1.length≤f∧s.2.1.length + s.1.length≤1048577)
  (fun s=>[(0,ptr X.b),(3,s.2.2)]) (fun s=>s.1.length) (r,ns,v) ?_ ?_ ?_
 ·exact ⟨g,_,L,hp,Nat.le_refl _,hl⟩
 ·simp (implicitDefEqProofs:=false) only [go_sem]
 ·rintro ⟨cur,ns,v⟩ H3 ⟨g,f,L,hp,hf,hle⟩
  simp only at L hp hf hle ⊢
  have hcur:=List.length_pos_iff.2 L.ps.nil
  obtain ⟨f,rfl⟩:∃ f',f=f' + 1:=⟨f - 1,by omega⟩
  have htl:cur.tail.length=cur.length - 1:=by simp
  have hp:P0=if isB [59] cur then bd ruleP (fun x=>bd (rulesF f (ns ++ [x])) (fun l=>bd (expP [41]) fun _=>ret l)) cur.tail else bd (expP [41]) (fun _=>ret ns) cur:=by
   rw [hp]
   conv=>lhs; unfold bd rulesF
   by_cases e:isB [59] cur=true
   ·simp only [e,if_true]
    rw [← bd_bd]; rfl
   ·simp only [e,if_false]; rfl
  simp (implicitDefEqProofs:=false) only [go_sem]
  refine accept_go hs L [59] (fun e H4 L=>?_) fun e H4 L=>?_
  ·rw [if_pos e,ruleP_bd] at hp
   have hct:=List.length_pos_iff.2 L.ps.nil
   simp (implicitDefEqProofs:=false) only [go_sem]
   refine look_go L fun H5 L=>?_
   simp (implicitDefEqProofs:=false) only [go_sem,tkC]
   refine L.newP fun b H6 L=>?_
   simp (implicitDefEqProofs:=false) only [go_sem]
   refine L.stoAll 0 rfl rfl (one_agg (t:=[]) rfl) fun H7 L=>?_
   simp only [List.set_cons_zero,List.set_cons_succ,List.set_nil,List.eraseIdx_cons_zero,List.eraseIdx_cons_succ] at L
   simp (implicitDefEqProofs:=false) only [go_sem]
   refine look_go L fun H8 L=>?_
   by_cases k4:(hd cur.tail).kind=4
   ·rw [optQ_y k4] at hp
    simp (implicitDefEqProofs:=false) only [go_sem,tkC,k4]
    refine quotes_ok.goR hs L hp fun qs aw cw gq r1 H9 L hp he=>?_
    have hql:=quotesP_len he
    simp (implicitDefEqProofs:=false) only [go_sem]
    refine L.stoOne 1 rfl (by simp) rfl fun H10 L=>?_
    simp only [List.set_cons_zero,List.set_cons_succ,List.set_nil,List.eraseIdx_cons_zero,List.eraseIdx_cons_succ] at L
    simp (implicitDefEqProofs:=false) only [go_sem]
    refine rule_rest hs L (by have:=List.length_pos_iff.2 L.ps.nil; omega) (by omega) hp fun a c g' H' r' n L hp hle'=>?_
    simp (implicitDefEqProofs:=false) only [go_sem]
    refine loopK_intro (r',ns ++ [n],.slice a (ns.length + 1) c) ?_ ?_ ⟨g',f,L,hp,show r'.length≤f by omega,?_⟩
    ·show r'.length < cur.length
     omega
    ·simp (implicitDefEqProofs:=false) only [go_sem]
    ·simp only [List.length_append,List.length_cons,List.length_nil]; omega
   ·rw [optQ_n k4] at hp
    simp (implicitDefEqProofs:=false) only [go_sem,tkC,k4]
    have L:=L.row0 24 5
    refine rule_rest hs (qs:=[]) L (by decide) (by omega) hp fun a c g' H' r' n L hp hle'=>?_
    simp (implicitDefEqProofs:=false) only [go_sem]
    refine loopK_intro (r',ns ++ [n],.slice a (ns.length + 1) c) ?_ ?_ ⟨g',f,L,hp,show r'.length≤f by omega,?_⟩
    ·show r'.length < cur.length
     omega
    ·simp (implicitDefEqProofs:=false) only [go_sem]
    ·simp only [List.length_append,List.length_cons,List.length_nil]; omega
  ·rw [if_neg (nb e)] at hp
   simp (implicitDefEqProofs:=false) only [go_sem]
   refine (expect_ok [41]).go hs L hp fun _ r v H3 L hp _ _=>?_
   simp (implicitDefEqProofs:=false) only [go_sem]
   exact L.finR hp 0 rfl
theorem closed_ok {k:Nat}:POk k 74 [] closedP KdR:=by
 refine ⟨fun {X H ts} hs=>?_⟩
 refine pcalls_of_vc (args:=[_]) Tryz.func74 c74ok (Nat.le_of_ble_eq_true rfl) ?_
 have L:=hs.walk
 simp (implicitDefEqProofs:=false) only [go_sem,c74]
 refine (expect_ok [40]).go hs L (P0:=closedP ts) rfl fun _ r v H1 L hp _ _=>?_
 have hlen:=L.len
 simp (implicitDefEqProofs:=false) only [go_sem]
 refine look_go L fun H2 L=>?_
 by_cases k4:(hd r).kind=4
 ·rw [optQ_y k4] at hp
  simp (implicitDefEqProofs:=false) only [go_sem,tkC,k4]
  refine quotes_ok.goR hs L hp fun qs aw cw gq r1 H3 L hp he=>?_
  have hql:=quotesP_len he
  simp (implicitDefEqProofs:=false) only [go_sem]
  exact closed_rest hs L (by omega) hp
 ·rw [optQ_n k4] at hp
  simp (implicitDefEqProofs:=false) only [go_sem,tkC,k4]
  exact closed_rest (ns:=[]) hs (L.row0 24 5) (by simp; omega) hp
end Go.Proofs.YtmhdkbmnpekpoaaGreatDoor
end
section
set_option linter.unusedSimpArgs false
set_option linter.unusedVariables false
set_option maxRecDepth 8000
namespace Go.Proofs.YtmhdkbmnpekpoaaGreatDoor
open Gx Go
section
variable {X:Cx} {H0 H H':Heap} {ts0 ts r:List Tk} {k0 k:Nat} {l:List Ent} {ds:List (Dat × List Value)} {γ:Type} {P0:Except Flt (γ × List Tk)} {Q:Value→Heap→Prop}
theorem two_go {g:Nat} {p:PP Nd} {G:List Nd→PP γ} (hg:hasBody Tryz.prog g=true) (hop:POk k g [] p NdR) (h0:Ps X H0 ts0 k0) (L:PLv X H0 ts k H l ds) (hp:P0=bd (twoP p) G ts)
 (hR:∀ ns a c gb r H',PLv X H0 r k H' (.row 24 5 (.slice a ns.length c) (ns.map Nd.dat) gb :: l) ds→P0=G ns r→Q (.slice a ns.length c) H'):PCalls Tryz.prog 72 #[ptr X.b,.func (.func g) #[ptr X.b] #[]] H Q (PEr X H0 P0):=
 PCalls.mono (two_ok hg hop L.ps) (fun v H' ⟨ns,r,he,⟨gb,h1,h2⟩,hs,hf⟩=>by
  obtain ⟨a,c,hv,_⟩:=h1.slice
  rw [List.length_map] at hv
  subst hv
  exact hR ns a c gb r H' (L.callRow hf (fun M H'' hf' hM=>Ps.on h0 hs hf' fun x hx=>(hM x hx).1) h1 h2) (by rw [hp,bd_ok he])) fun ch H' ⟨e,h1,h2,h3⟩=>⟨e,by rw [hp,bd_err h1],h2,L.fr.trans h3⟩
end
theorem memP_eq (x:PP Nd):memP x=bd (namedP 22) (fun n=>match n with | .mk kk tt nn aa ks=>bd (expP [58]) fun _=>bd x fun y=>ret (.mk kk tt nn aa [y])):=by
 funext ts
 unfold memP namedP
 rw [bd_bd]; rfl
theorem allowedP_len {ns:List Nd} {ts r:List Tk} (h:allowedP ts= .ok (ns,r)):ns.length + r.length≤ts.length:=by
 unfold allowedP bd at h
 split at h
 ·split at h
  ·cases h
  ·rename_i a q hq
   have h1:=quotesP_len hq
   simp only [List.length_tail] at h1
   replace h:bd (expP [41]) (fun _=>ret a) q= .ok (ns,r):=h
   cases hq2:expP [41] q with
   | error e=>rw [bd_err hq2] at h; cases h
   | ok x=>
     have h2:=(expP_dn [41]).of (a:=x.1) (r:=x.2) hq2
     rw [bd_ok (a:=x.1) (r:=x.2) hq2] at h
     simp only [ret,Except.ok.injEq,Prod.mk.injEq] at h
     obtain ⟨rfl,rfl⟩:=h
     omega
 ·cases h; simp
theorem lo_0':loL 0=none:=rfl
theorem lo_s' (j:Nat):∃ x,loL (j + 1)=some x:=⟨_,rfl⟩
set_option maxHeartbeats 2000000 in
theorem lattice_ok {k:Nat} (hlat:∀ j,k=j + 1→POk j 40 [] (levL j) NdR):POk k 40 [] (latP (loL k)) NdR:=by
 refine ⟨fun {X H ts} hs=>?_⟩
 refine pcalls_of_vc (args:=[_]) Tryz.func40 c40ok (Nat.le_of_ble_eq_true rfl) ?_
 have L:=hs.walk
 obtain ⟨hp,_⟩:latP (loL k) ts=latP (loL k) ts∧True:=⟨rfl,trivial⟩
 conv at hp=>rhs; unfold latP
 simp (implicitDefEqProofs:=false) only [go_sem,c40]
 refine L.newP fun b1 H1 L=>?_
 simp (implicitDefEqProofs:=false) only [go_sem]
 refine look_go L fun H2 L=>?_
 simp (implicitDefEqProofs:=false) only [go_sem,tkC]
 refine L.newP fun b2 H3 L=>?_
 simp (implicitDefEqProofs:=false) only [go_sem]
 refine L.stoAll 0 rfl rfl (one4' (hd ts)) fun H4 L=>?_
 simp only [List.set_cons_zero,List.set_cons_succ,List.set_nil,List.eraseIdx_cons_zero,List.eraseIdx_cons_succ] at L
 have c:=L.cell 0 rfl
 simp (implicitDefEqProofs:=false) only [go_sem,c]
 refine L.newP fun b3 H5 L=>?_
 simp (implicitDefEqProofs:=false) only [go_sem]
 refine L.stoAll 0 rfl rfl (one_agg (t:=[]) rfl) fun H6 L=>?_
 simp only [List.set_cons_zero,List.set_cons_succ,List.set_nil,List.eraseIdx_cons_zero,List.eraseIdx_cons_succ] at L
 have c:=L.cell 1 rfl
 by_cases k1:(hd ts).kind=1
 ·rw [if_pos k1] at hp
  simp (implicitDefEqProofs:=false) only [go_sem,c,k1]
  refine (named_ok 21).goL hs L hp fun kk tt nn aa ks kv r H5 L hp=>?_
  simp (implicitDefEqProofs:=false) only [go_sem]
  refine L.stoAll 2 rfl rfl (one_agg (L.one (ks:=ks) (by simp))) fun HZ L=>?_
  simp only [List.set_cons_zero,List.set_cons_succ,List.set_nil,List.eraseIdx_cons_zero,List.eraseIdx_cons_succ] at L
  have c:=L.cell 2 rfl
  simp (implicitDefEqProofs:=false) only [go_sem,c]
  exact L.fin hp (.inl (by simp))
 rw [if_neg k1] at hp
 simp (implicitDefEqProofs:=false) only [go_sem,c,k1]
 refine accept_go hs L [102,108,97,103] (fun e H7 L=>?_) fun e H7 L=>?_
 ·rw [if_pos e] at hp
  simp (implicitDefEqProofs:=false) only [go_sem]
  refine L.stoOne 0 rfl (by simp) rfl fun H8 L=>?_
  simp only [List.set_cons_zero,List.set_cons_succ,List.set_nil,List.eraseIdx_cons_zero,List.eraseIdx_cons_succ] at L
  simp (implicitDefEqProofs:=false) only [go_sem]
  have c:=L.cell 0 rfl
  simp (implicitDefEqProofs:=false) only [go_sem,c]
  refine L.stoAll 2 rfl rfl (one_agg (t:=[]) rfl) fun HZ L=>?_
  simp only [List.set_cons_zero,List.set_cons_succ,List.set_nil,List.eraseIdx_cons_zero,List.eraseIdx_cons_succ] at L
  have c:=L.cell 2 rfl
  simp (implicitDefEqProofs:=false) only [go_sem,c]
  exact L.fin hp (.inr ⟨rfl,rfl⟩)
 rw [if_neg (nb e)] at hp
 simp (implicitDefEqProofs:=false) only [go_sem]
 refine accept_go hs L [114,101,103,105,115,116,101,114] (fun e H7 L=>?_) fun e H7 L=>?_
 ·rw [if_pos e] at hp
  simp (implicitDefEqProofs:=false) only [go_sem]
  refine L.stoOne 0 rfl (by simp) rfl fun H8 L=>?_
  simp only [List.set_cons_zero,List.set_cons_succ,List.set_nil,List.eraseIdx_cons_zero,List.eraseIdx_cons_succ] at L
  simp (implicitDefEqProofs:=false) only [go_sem]
  have c:=L.cell 0 rfl
  simp (implicitDefEqProofs:=false) only [go_sem,c]
  refine L.stoAll 2 rfl rfl (one_agg (t:=[]) rfl) fun HZ L=>?_
  simp only [List.set_cons_zero,List.set_cons_succ,List.set_nil,List.eraseIdx_cons_zero,List.eraseIdx_cons_succ] at L
  have c:=L.cell 2 rfl
  simp (implicitDefEqProofs:=false) only [go_sem,c]
  exact L.fin hp (.inr ⟨rfl,rfl⟩)
 rw [if_neg (nb e)] at hp
 simp (implicitDefEqProofs:=false) only [go_sem]
 refine accept_go hs L [115,101,116] (fun e H7 L=>?_) fun e H7 L=>?_
 ·rw [if_pos e] at hp
  simp (implicitDefEqProofs:=false) only [go_sem]
  refine allowed_ok.goR hs L hp fun ns a cw gb r H8 L hp _=>?_
  simp (implicitDefEqProofs:=false) only [go_sem]
  refine L.stoOne 1 rfl (by simp) rfl fun HA L=>?_
  simp only [List.set_cons_zero,List.set_cons_succ,List.set_nil,List.eraseIdx_cons_zero,List.eraseIdx_cons_succ] at L
  simp (implicitDefEqProofs:=false) only [go_sem]
  refine L.stoOne 1 rfl (by simp) rfl fun HB L=>?_
  simp only [List.set_cons_zero,List.set_cons_succ,List.set_nil,List.eraseIdx_cons_zero,List.eraseIdx_cons_succ] at L
  have L:=L.rowN 0 ns rfl
  simp only [List.set_cons_zero,List.set_cons_succ,List.set_nil,List.eraseIdx_cons_zero,List.eraseIdx_cons_succ] at L
  simp (implicitDefEqProofs:=false) only [go_sem]
  have c:=L.cell 0 rfl
  simp (implicitDefEqProofs:=false) only [go_sem,c]
  refine L.stoAll 2 rfl rfl (one_agg (t:=[]) rfl) fun HZ L=>?_
  simp only [List.set_cons_zero,List.set_cons_succ,List.set_nil,List.eraseIdx_cons_zero,List.eraseIdx_cons_succ] at L
  have c:=L.cell 2 rfl
  simp (implicitDefEqProofs:=false) only [go_sem,c]
  exact L.fin hp (.inl (by simp))
 rw [if_neg (nb e)] at hp
 simp (implicitDefEqProofs:=false) only [go_sem]
 refine accept_go hs L [102,108,97,116] (fun e H7 L=>?_) fun e H7 L=>?_
 ·rw [if_pos e] at hp
  simp (implicitDefEqProofs:=false) only [go_sem]
  refine allowed_ok.goR hs L hp fun ns a cw gb r H8 L hp _=>?_
  simp (implicitDefEqProofs:=false) only [go_sem]
  refine L.stoOne 1 rfl (by simp) rfl fun HA L=>?_
  simp only [List.set_cons_zero,List.set_cons_succ,List.set_nil,List.eraseIdx_cons_zero,List.eraseIdx_cons_succ] at L
  simp (implicitDefEqProofs:=false) only [go_sem]
  refine L.stoOne 1 rfl (by simp) rfl fun HB L=>?_
  simp only [List.set_cons_zero,List.set_cons_succ,List.set_nil,List.eraseIdx_cons_zero,List.eraseIdx_cons_succ] at L
  have L:=L.rowN 0 ns rfl
  simp only [List.set_cons_zero,List.set_cons_succ,List.set_nil,List.eraseIdx_cons_zero,List.eraseIdx_cons_succ] at L
  simp (implicitDefEqProofs:=false) only [go_sem]
  have c:=L.cell 0 rfl
  simp (implicitDefEqProofs:=false) only [go_sem,c]
  refine L.stoAll 2 rfl rfl (one_agg (t:=[]) rfl) fun HZ L=>?_
  simp only [List.set_cons_zero,List.set_cons_succ,List.set_nil,List.eraseIdx_cons_zero,List.eraseIdx_cons_succ] at L
  have c:=L.cell 2 rfl
  simp (implicitDefEqProofs:=false) only [go_sem,c]
  exact L.fin hp (.inl (by simp))
 rw [if_neg (nb e)] at hp
 simp (implicitDefEqProofs:=false) only [go_sem]
 refine is_go L [109,97,112] fun H7 L=>?_
 cases e:isB [109,97,112] ts with
 | true=>
   rw [if_pos e] at hp
   simp (implicitDefEqProofs:=false) only [go_sem]
   refine enter_go (lo:=loL) hs L lo_0' lo_s' hp fun j x H8 hj hx L _ hp=>?_
   cases hx
   simp (implicitDefEqProofs:=false) only [go_sem]
   have hlen:=L.len
   refine allowed_ok.goR hs L hp fun ns a cw gb r H8 L hp he=>?_
   have hlen2:=allowedP_len he
   have hlen3:=List.length_pos_iff.2 L.ps.nil
   simp (implicitDefEqProofs:=false) only [go_sem]
   refine L.stoOne 1 rfl (by simp) rfl fun HA L=>?_
   simp only [List.set_cons_zero,List.set_cons_succ,List.set_nil,List.eraseIdx_cons_zero,List.eraseIdx_cons_succ] at L
   simp (implicitDefEqProofs:=false) only [go_sem]
   refine L.stoOne 1 rfl (by simp) rfl fun HB L=>?_
   simp only [List.set_cons_zero,List.set_cons_succ,List.set_nil,List.eraseIdx_cons_zero,List.eraseIdx_cons_succ] at L
   have c:=L.cell 1 rfl
   simp (implicitDefEqProofs:=false) only [go_sem,c]
   refine (hlat j hj).goN hs L hp fun kk tt nn aa ks kv r H9 L hp _=>?_
   have c:=L.cell 1 rfl
   simp (implicitDefEqProofs:=false) only [go_sem,c]
   refine L.newS fun b4 H10 L=>?_
   have c:=L.cell 2 rfl
   simp (implicitDefEqProofs:=false) only [go_sem,c]
   refine L.appN (ns:=ns) (ks:=ks) 0 rfl (by simp) (by omega) fun a c g' H11 L=>?_
   simp only [List.set_cons_zero,List.set_cons_succ,List.set_nil,List.eraseIdx_cons_zero,List.eraseIdx_cons_succ] at L
   simp (implicitDefEqProofs:=false) only [go_sem]
   refine L.stoOne 1 rfl (by simp) rfl fun H12 L=>?_
   simp only [List.set_cons_zero,List.set_cons_succ,List.set_nil,List.eraseIdx_cons_zero,List.eraseIdx_cons_succ] at L
   have L:=L.rowN 0 (ns ++ [.mk kk tt nn aa ks]) rfl
   simp only [List.set_cons_zero,List.set_cons_succ,List.set_nil,List.eraseIdx_cons_zero,List.eraseIdx_cons_succ] at L
   simp (implicitDefEqProofs:=false) only [go_sem]
   refine leave_go hs L hj hs.k64 fun _ H13 L=>?_
   have c:=L.cell 0 rfl
   simp (implicitDefEqProofs:=false) only [go_sem,c]
   refine L.stoAll 2 rfl rfl (one_agg (t:=[]) rfl) fun HZ L=>?_
   simp only [List.set_cons_zero,List.set_cons_succ,List.set_nil,List.eraseIdx_cons_zero,List.eraseIdx_cons_succ] at L
   have c:=L.cell 2 rfl
   simp (implicitDefEqProofs:=false) only [go_sem,c]
   exact L.fin hp (.inl (by simp))
 | false=>
 rw [if_neg (nb e)] at hp
 simp (implicitDefEqProofs:=false) only [go_sem]
 refine accept_go hs L [109,97,120] (fun e H7 L=>?_) fun e H7 L=>?_
 ·rw [if_pos e] at hp
  simp (implicitDefEqProofs:=false) only [go_sem]
  refine two_go (by kernel_rfl) integer_ok hs L hp fun ns a cw gb r H8 L hp=>?_
  simp (implicitDefEqProofs:=false) only [go_sem]
  refine L.stoOne 1 rfl (by simp) rfl fun HA L=>?_
  simp only [List.set_cons_zero,List.set_cons_succ,List.set_nil,List.eraseIdx_cons_zero,List.eraseIdx_cons_succ] at L
  simp (implicitDefEqProofs:=false) only [go_sem]
  refine L.stoOne 1 rfl (by simp) rfl fun HB L=>?_
  simp only [List.set_cons_zero,List.set_cons_succ,List.set_nil,List.eraseIdx_cons_zero,List.eraseIdx_cons_succ] at L
  have L:=L.rowN 0 ns rfl
  simp only [List.set_cons_zero,List.set_cons_succ,List.set_nil,List.eraseIdx_cons_zero,List.eraseIdx_cons_succ] at L
  simp (implicitDefEqProofs:=false) only [go_sem]
  have c:=L.cell 0 rfl
  simp (implicitDefEqProofs:=false) only [go_sem,c]
  refine L.stoAll 2 rfl rfl (one_agg (t:=[]) rfl) fun HZ L=>?_
  simp only [List.set_cons_zero,List.set_cons_succ,List.set_nil,List.eraseIdx_cons_zero,List.eraseIdx_cons_succ] at L
  have c:=L.cell 2 rfl
  simp (implicitDefEqProofs:=false) only [go_sem,c]
  exact L.fin hp (.inl (by simp))
 rw [if_neg (nb e)] at hp
 simp (implicitDefEqProofs:=false) only [go_sem]
 refine accept_go hs L [109,105,110] (fun e H7 L=>?_) fun e H7 L=>?_
 ·rw [if_pos e] at hp
  simp (implicitDefEqProofs:=false) only [go_sem]
  refine two_go (by kernel_rfl) integer_ok hs L hp fun ns a cw gb r H8 L hp=>?_
  simp (implicitDefEqProofs:=false) only [go_sem]
  refine L.stoOne 1 rfl (by simp) rfl fun HA L=>?_
  simp only [List.set_cons_zero,List.set_cons_succ,List.set_nil,List.eraseIdx_cons_zero,List.eraseIdx_cons_succ] at L
  simp (implicitDefEqProofs:=false) only [go_sem]
  refine L.stoOne 1 rfl (by simp) rfl fun HB L=>?_
  simp only [List.set_cons_zero,List.set_cons_succ,List.set_nil,List.eraseIdx_cons_zero,List.eraseIdx_cons_succ] at L
  have L:=L.rowN 0 ns rfl
  simp only [List.set_cons_zero,List.set_cons_succ,List.set_nil,List.eraseIdx_cons_zero,List.eraseIdx_cons_succ] at L
  simp (implicitDefEqProofs:=false) only [go_sem]
  have c:=L.cell 0 rfl
  simp (implicitDefEqProofs:=false) only [go_sem,c]
  refine L.stoAll 2 rfl rfl (one_agg (t:=[]) rfl) fun HZ L=>?_
  simp only [List.set_cons_zero,List.set_cons_succ,List.set_nil,List.eraseIdx_cons_zero,List.eraseIdx_cons_succ] at L
  have c:=L.cell 2 rfl
  simp (implicitDefEqProofs:=false) only [go_sem,c]
  exact L.fin hp (.inl (by simp))
 rw [if_neg (nb e)] at hp
 simp (implicitDefEqProofs:=false) only [go_sem]
 refine is_go L [108,101,120] fun H7 L=>?_
 cases e:isB [108,101,120] ts with
 | true=>
   rw [if_pos e] at hp
   simp (implicitDefEqProofs:=false) only [go_sem]
   refine enter_go (lo:=loL) hs L lo_0' lo_s' hp fun j x H8 hj hx L _ hp=>?_
   cases hx
   simp (implicitDefEqProofs:=false) only [go_sem]
   refine two_go (by kernel_rfl) (hlat j hj) hs L hp fun ns a cw gb r H8 L hp=>?_
   simp (implicitDefEqProofs:=false) only [go_sem]
   refine L.stoOne 1 rfl (by simp) rfl fun HA L=>?_
   simp only [List.set_cons_zero,List.set_cons_succ,List.set_nil,List.eraseIdx_cons_zero,List.eraseIdx_cons_succ] at L
   simp (implicitDefEqProofs:=false) only [go_sem]
   refine L.stoOne 1 rfl (by simp) rfl fun HB L=>?_
   simp only [List.set_cons_zero,List.set_cons_succ,List.set_nil,List.eraseIdx_cons_zero,List.eraseIdx_cons_succ] at L
   have L:=L.rowN 0 ns rfl
   simp only [List.set_cons_zero,List.set_cons_succ,List.set_nil,List.eraseIdx_cons_zero,List.eraseIdx_cons_succ] at L
   simp (implicitDefEqProofs:=false) only [go_sem]
   refine leave_go hs L hj hs.k64 fun _ H13 L=>?_
   have c:=L.cell 0 rfl
   simp (implicitDefEqProofs:=false) only [go_sem,c]
   refine L.stoAll 2 rfl rfl (one_agg (t:=[]) rfl) fun HZ L=>?_
   simp only [List.set_cons_zero,List.set_cons_succ,List.set_nil,List.eraseIdx_cons_zero,List.eraseIdx_cons_succ] at L
   have c:=L.cell 2 rfl
   simp (implicitDefEqProofs:=false) only [go_sem,c]
   exact L.fin hp (.inl (by simp))
 | false=>
 rw [if_neg (nb e)] at hp
 simp (implicitDefEqProofs:=false) only [go_sem]
 refine is_go L [123] fun H7 L=>?_
 cases e:isB [123] ts with
 | true=>
   rw [if_pos e] at hp
   simp (implicitDefEqProofs:=false) only [go_sem]
   refine enter_go (lo:=loL) hs L lo_0' lo_s' hp fun j x H8 hj hx L _ hp=>?_
   cases hx
   have hlen:=L.len
   have hdn:=memP_dn (levL_dn j)
   have L:=L.row0 24 5
   obtain ⟨cur0,hcur0⟩:∃ cur,cur=ts.tail:=⟨_,rfl⟩
   rw [← hcur0] at L hp hlen
   have hp:latP (loL k) ts=bd (memF (levL j) (cur0.length + 1) []) (fun l=>bd (expP [125]) fun _=>ret (.mk 15 [] 0 (hd ts).at_ l)) cur0:=by
    rw [hp]
    have e:memsP (levL j) cur0=bd (memF (levL j) (cur0.length + 1) []) (fun l=>bd (expP [125]) fun _=>ret l) cur0:=rfl
    unfold bd at e ⊢
    rw [e]
    cases memF (levL j) (cur0.length + 1) [] cur0 with
    | error e=>rfl
    | ok x=>
      simp only
      cases expP [125] x.2 <;> rfl
   simp (implicitDefEqProofs:=false) only [go_sem]
   refine L.stoOne 1 rfl (by simp) rfl fun H9 L=>?_
   simp only [List.set_cons_zero,List.set_cons_succ,List.set_nil,List.eraseIdx_cons_zero,List.eraseIdx_cons_succ] at L
   simp (implicitDefEqProofs:=false) only [go_sem]
   refine vc_loop (fun (s:Bool × List Tk × List Nd × Value) H'=>∃ g f,PLv X H s.2.1 j H' [.row 24 5 s.2.2.2 (s.2.2.1.map Nd.dat) g,.blk b3 24 [.int .i64 15,sv [],.int .i64 0,.int .i64 (hd ts).at_,s.2.2.2],.blk b2 58 (tkC (hd ts)),.blk b1 24 [.int .i64 0,sv [],.int .i64 0,.int .i64 0,.slice none 0 0]] []∧(∃ a n c,s.2.2.2= .slice a n c)∧
    (s.1=true→latP (loL k) ts=bd (memF (levL j) (f + 1) s.2.2.1) (fun l=>bd (expP [125]) fun _=>ret (.mk 15 [] 0 (hd ts).at_ l)) s.2.1∧s.2.1.length≤f∧s.2.2.1.length + s.2.1.length≤1048576)∧
    (s.1=false→latP (loL k) ts=bd (expP [125]) (fun _=>ret (Nd.mk 15 [] 0 (hd ts).at_ s.2.2.1)) s.2.1))
    (fun s=>[(0,ptr X.b),(2,.pointer (some ⟨b1,0,none⟩)),(3,.pointer (some ⟨b2,0,none⟩)),(4,.pointer (some ⟨b3,0,none⟩)),(5,.bool s.1)]) (fun s=>if s.1 then s.2.1.length + 1 else 0) (true,cur0,[],.slice none 0 0) ?_ ?_ ?_
   ·exact ⟨none,cur0.length,L,⟨_,_,_,rfl⟩,fun _=>⟨hp,Nat.le_refl _,by simp; omega⟩,fun h=>by cases h⟩
   ·simp (implicitDefEqProofs:=false) only [go_sem,ptr]
   ·rintro ⟨more,cur,ns,v⟩ H10 ⟨g,f,L,⟨va,vn,vc,hv⟩,hT,hF⟩
    simp only at L hT hF hv ⊢
    subst hv
    cases more with
    | false=>
      have hp:=hF rfl
      simp (implicitDefEqProofs:=false) only [go_sem]
      refine (expect_ok [125]).go hs L hp fun _ r v H11 L hp _ _=>?_
      simp (implicitDefEqProofs:=false) only [go_sem]
      refine leave_go hs L hj hs.k64 fun _ H12 L=>?_
      have L:=L.rowN 0 ns rfl
      simp only [List.set_cons_zero,List.set_cons_succ,List.set_nil,List.eraseIdx_cons_zero,List.eraseIdx_cons_succ] at L
      have c:=L.cell 0 rfl
      simp (implicitDefEqProofs:=false) only [go_sem,c]
      refine L.stoAll 2 rfl rfl (one_agg (L.one (ks:=ns) (by simp))) fun HZ L=>?_
      simp only [List.set_cons_zero,List.set_cons_succ,List.set_nil,List.eraseIdx_cons_zero,List.eraseIdx_cons_succ] at L
      have c:=L.cell 2 rfl
      simp (implicitDefEqProofs:=false) only [go_sem,c]
      exact L.fin hp (.inl (by simp))
    | true=>
      obtain ⟨hp,hf,hle⟩:=hT rfl
      have hcur:=List.length_pos_iff.2 L.ps.nil
      have hp:latP (loL k) ts=bd (memP (levL j)) (fun m=>bd (fun ts=>if isB [44] ts then memF (levL j) f (ns ++ [m]) ts.tail else .ok (ns ++ [m],ts)) (fun l=>bd (expP [125]) fun _=>ret (.mk 15 [] 0 (hd ts).at_ l))) cur:=by
       rw [hp]; simp only [memF,bd_bd]
      rw [memP_eq,bd_bd] at hp
      simp (implicitDefEqProofs:=false) only [go_sem]
      refine (named_ok 22).goN hs L hp fun kk tt nn aa ks kv r1 H11 L hp he=>?_
      have hle1:=(namedP_dn 22).of he
      simp only [bd_bd] at hp
      simp (implicitDefEqProofs:=false) only [go_sem]
      refine L.newP fun b4 H12 L=>?_
      simp (implicitDefEqProofs:=false) only [go_sem]
      refine L.stoAll 0 rfl rfl (one_agg (L.one (ks:=ks) (by simp))) fun H13 L=>?_
      simp only [List.set_cons_zero,List.set_cons_succ,List.set_nil,List.eraseIdx_cons_zero,List.eraseIdx_cons_succ] at L
      simp (implicitDefEqProofs:=false) only [go_sem]
      refine (expect_ok [58]).go hs L hp fun _ r2 v H14 L hp he _=>?_
      have hle2:=(expP_dn _).of he
      rw [bd_bd] at hp
      simp (implicitDefEqProofs:=false) only [go_sem]
      refine (hlat j hj).goN hs L hp fun kk' tt' nn' aa' ks' kv' r3 H15 L hp he=>?_
      have hle3:=(levL_dn j).of he
      simp (implicitDefEqProofs:=false) only [go_sem]
      refine L.newS fun b5 H16 L=>?_
      have L:=L.rowN1 (ks:=ks') (by simp)
      have L:=L.rowN 0 [.mk kk' tt' nn' aa' ks'] rfl
      simp only [List.set_cons_zero,List.set_cons_succ,List.set_nil,List.eraseIdx_cons_zero,List.eraseIdx_cons_succ] at L
      simp (implicitDefEqProofs:=false) only [go_sem]
      refine L.stoOne 0 rfl (by simp) rfl fun H17 L=>?_
      simp only [List.set_cons_zero,List.set_cons_succ,List.set_nil,List.eraseIdx_cons_zero,List.eraseIdx_cons_succ] at L
      have c:=L.cell 2 rfl
      have c':=L.cell 0 rfl
      simp (implicitDefEqProofs:=false) only [go_sem,c,c']
      refine L.newS fun b6 H18 L=>?_
      simp (implicitDefEqProofs:=false) only [go_sem]
      refine L.appN (ns:=ns) (ks:=[.mk kk' tt' nn' aa' ks']) 1 rfl (by simp) (by have:=List.length_pos_iff.2 L.ps.nil; omega) fun a c g' H19 L=>?_
      simp only [List.set_cons_zero,List.set_cons_succ,List.set_nil,List.eraseIdx_cons_zero,List.eraseIdx_cons_succ] at L
      simp (implicitDefEqProofs:=false) only [go_sem]
      refine L.stoOne 2 rfl (by simp) rfl fun H20 L=>?_
      simp only [List.set_cons_zero,List.set_cons_succ,List.set_nil,List.eraseIdx_cons_zero,List.eraseIdx_cons_succ] at L
      have hnil:=List.length_pos_iff.2 L.ps.nil
      simp (implicitDefEqProofs:=false) only [go_sem]
      refine accept_u hs L [44] fun H21 L=>?_
      have L:=L.drop (l':=[_,_,_,_]) (List.sublist_cons_self _ _) (ds':=[]) (by simp)
      simp (implicitDefEqProofs:=false) only [go_sem]
      refine loopK_intro (isB [44] r3,(if isB [44] r3 then r3.tail else r3),ns ++ [.mk kk tt nn aa [.mk kk' tt' nn' aa' ks']],.slice a (ns ++ [Nd.mk kk tt nn aa [.mk kk' tt' nn' aa' ks']]).length c) ?_ ?_ ⟨g',f - 1,L,⟨_,_,_,rfl⟩,fun h=>?_,fun h=>?_⟩
      ·cases e4:isB [44] r3 with
       | false=>show 0 < cur.length + 1; omega
       | true=>
         show r3.tail.length + 1 < cur.length + 1
         rw [List.length_tail]; omega
      ·simp (implicitDefEqProofs:=false) only [go_sem]
      ·simp only at h
       rw [h] at L ⊢
       simp only [if_true] at L ⊢
       have hnt:=List.length_pos_iff.2 L.ps.nil
       rw [List.length_tail] at hnt
       refine ⟨?_,by rw [List.length_tail]; omega,by simp only [List.length_append,List.length_cons,List.length_nil,List.length_tail]; omega⟩
       rw [hp,show f - 1 + 1=f by omega]
       conv=>lhs; unfold bd ret
       simp only [h,if_true]; rfl
      ·simp only at h
       rw [h]
       rw [hp]
       conv=>lhs; unfold bd ret
       simp only [h,Bool.false_eq_true,if_false]; rfl
 | false=>
 rw [if_neg (nb e)] at hp
 simp (implicitDefEqProofs:=false) only [go_sem]
 refine accept_go hs L [99,108,111,115,101,100] (fun e H7 L=>?_) fun e H7 L=>?_
 ·rw [if_pos e] at hp
  simp (implicitDefEqProofs:=false) only [go_sem]
  refine closed_ok.goR hs L hp fun ns a cw gb r H8 L hp _=>?_
  simp (implicitDefEqProofs:=false) only [go_sem]
  refine L.stoOne 1 rfl (by simp) rfl fun HA L=>?_
  simp only [List.set_cons_zero,List.set_cons_succ,List.set_nil,List.eraseIdx_cons_zero,List.eraseIdx_cons_succ] at L
  simp (implicitDefEqProofs:=false) only [go_sem]
  refine L.stoOne 1 rfl (by simp) rfl fun HB L=>?_
  simp only [List.set_cons_zero,List.set_cons_succ,List.set_nil,List.eraseIdx_cons_zero,List.eraseIdx_cons_succ] at L
  have L:=L.rowN 0 ns rfl
  simp only [List.set_cons_zero,List.set_cons_succ,List.set_nil,List.eraseIdx_cons_zero,List.eraseIdx_cons_succ] at L
  simp (implicitDefEqProofs:=false) only [go_sem]
  have c:=L.cell 0 rfl
  simp (implicitDefEqProofs:=false) only [go_sem,c]
  refine L.stoAll 2 rfl rfl (one_agg (t:=[]) rfl) fun HZ L=>?_
  simp only [List.set_cons_zero,List.set_cons_succ,List.set_nil,List.eraseIdx_cons_zero,List.eraseIdx_cons_succ] at L
  have c:=L.cell 2 rfl
  simp (implicitDefEqProofs:=false) only [go_sem,c]
  exact L.fin hp (.inl (by simp))
 rw [if_neg (nb e)] at hp
 simp (implicitDefEqProofs:=false) only [go_sem]
 exact fail_go L hp
end Go.Proofs.YtmhdkbmnpekpoaaGreatDoor
end
section
set_option linter.unusedSimpArgs false
set_option linter.unusedVariables false
set_option maxRecDepth 8000
namespace Go.Proofs.YtmhdkbmnpekpoaaGreatDoor
open Gx Go
theorem lat_ok:∀ k:Nat,POk k 40 [] (latP (loL k)) NdR:=by
 intro k
 induction k with
 | zero=>exact lattice_ok fun j hj=>by omega
 | succ k ih=>
   refine lattice_ok fun j hj=>?_
   obtain rfl:j=k:=by omega
   rw [levL_eq]; exact ih
theorem isB_pos {s:Bs} {ts:List Tk} (h:isB s ts=true):0 < ts.length:=by
 cases ts with
 | nil=>exact absurd rfl (isB_kind h)
 | cons t r=>simp
theorem expP_lt {s:Bs} {ts r:List Tk} {a:Int} (h:expP s ts= .ok (a,r)):r.length < ts.length:=by
 unfold expP at h
 split at h
 ·rename_i e
  cases h
  have:=isB_pos e
  rw [List.length_tail]; omega
 ·cases h
theorem comma_lt' {ts r:List Tk} {b:Bool} (h:commaP ts= .ok (b,r)):r.length < ts.length:=by
 unfold commaP at h
 split at h
 ·rename_i e
  cases h
  have:=isB_pos e
  rw [List.length_tail]; omega
 ·unfold bd at h
  split at h
  ·cases h
  ·rename_i a q hq
   have:=expP_lt hq
   simp only [ret,Except.ok.injEq,Prod.mk.injEq] at h
   rw [← h.2]; exact this
theorem namedP_lt {k:Int} {ts r:List Tk} {a:Nd} (h:namedP k ts= .ok (a,r)):r.length < ts.length:=by
 unfold namedP bd at h
 split at h
 ·cases h
 ·rename_i t q hq
  obtain ⟨rfl,h2,rfl⟩:=takeP_eq hq
  have:=hd_pos h2 (by decide)
  simp only [ret,Except.ok.injEq,Prod.mk.injEq] at h
  rw [← h.2,List.length_tail]; omega
theorem func_end {X:Cx} {H H1:Heap} {ts r:List Tk} {b b1:Nat} {ns:List Nd} {v:Value} {g:Option Nat} {K n aa:Int} {nm:Bs} {γ:Type} {P0:Except Flt (γ × List Tk)} {G:List Nd→PP γ} {x3 x4 x5 x6 x7 x8 x9 x10 x11 x12:Option Value} {Q:Post} {cs1:List Value} (hs:Ps X H ts 64)
 (L:PLv X H r 64 H1 [.row 24 5 v (ns.map Nd.dat) g,.blk b 24 [.int .i64 K,sv nm,.int .i64 n,.int .i64 aa,v],.blk b1 24 cs1] []) (hl:ns.length + 1≤1048576)
 (hp:P0=bd (expP [61]) (fun _=>bd (exprP (loK 64)) fun e=>G (ns ++ [e])) r)
 (hQ:∀ a c g' H' r' m,PLv X H r' 64 H' [.row 24 5 (.slice a (ns ++ [m]).length c) ((ns ++ [m]).map Nd.dat) g',.blk b 24 [.int .i64 K,sv nm,.int .i64 n,.int .i64 aa,.slice a (ns ++ [m]).length c],.blk b1 24 cs1] []→P0=G (ns ++ [m]) r'→
  Q .nrm [some (ptr X.b),some (.pointer (some ⟨b1,0,none⟩)),some (.pointer (some ⟨b,0,none⟩)),x3,x4,x5,x6,x7,x8,x9,x10,x11,x12] H') :
 vc Tryz.prog (PEr X H P0) c36s51 [some (ptr X.b),some (.pointer (some ⟨b1,0,none⟩)),some (.pointer (some ⟨b,0,none⟩)),x3,x4,x5,x6,x7,x8,x9,x10,x11,x12] H1 Q:=by
 rw [c36s51eq]
 simp (implicitDefEqProofs:=false) only [go_sem]
 refine (expect_ok [61]).go hs L hp fun _ r1 v H2 L hp he _=>?_
 have c:=L.cell 1 rfl
 simp (implicitDefEqProofs:=false) only [go_sem,c]
 refine (lev_ok 64).1.goN hs L hp fun kk tt nn aa' ks kv r2 H3 L hp he=>?_
 have c:=L.cell 1 rfl
 simp (implicitDefEqProofs:=false) only [go_sem,c]
 refine L.newS fun bA HA L=>?_
 have c:=L.cell 2 rfl
 simp (implicitDefEqProofs:=false) only [go_sem,c]
 refine L.appN (ns:=ns) (ks:=ks) 0 rfl (by simp) hl fun a c g' HB L=>?_
 simp only [List.set_cons_zero,List.set_cons_succ,List.set_nil,List.eraseIdx_cons_zero,List.eraseIdx_cons_succ] at L
 simp (implicitDefEqProofs:=false) only [go_sem]
 refine L.stoOne 1 rfl (by simp) rfl fun HC L=>?_
 simp only [List.set_cons_zero,List.set_cons_succ,List.set_nil,List.eraseIdx_cons_zero,List.eraseIdx_cons_succ] at L
 simp (implicitDefEqProofs:=false) only [go_sem]
 exact hQ a c g' HC r2 _ (L.drop (List.Sublist.refl _) (by simp)) hp
theorem func_rest {X:Cx} {H H1:Heap} {ts r:List Tk} {b b1:Nat} {K aa:Int} {nm:Bs} {γ:Type} {P0:Except Flt (γ × List Tk)} {G:List Nd→Int→PP γ} {x3 x4 x5 x6 x7 x8 x9 x10 x11 x12:Option Value} {Q:Post} {cs1:List Value} (hs:Ps X H ts 64)
 (L:PLv X H r 64 H1 [.blk b 24 [.int .i64 K,sv nm,.int .i64 0,.int .i64 aa,.slice none 0 0],.blk b1 24 cs1] [])
 (hp:P0=bd (expP [40]) (fun _=>bd (listP paramP) fun ps=>bd (expP [111,110]) fun _=>bd (namedP 48) fun o=>bd (if K=5 then bd (expP [58]) fun _=>sortP else ret 0) fun n=>bd (expP [61]) fun _=>bd (exprP (loK 64)) fun e=>G (ps ++ [o] ++ [e]) n) r)
 (hQ:∀ a c g' H' r' ns n x3 x4 x5 x6 x7 x8 x9 x10 x11 x12,PLv X H r' 64 H' [.row 24 5 (.slice a ns.length c) (ns.map Nd.dat) g',.blk b 24 [.int .i64 K,sv nm,.int .i64 n,.int .i64 aa,.slice a ns.length c],.blk b1 24 cs1] []→P0=G ns n r'→
  Q .nrm [some (ptr X.b),some (.pointer (some ⟨b1,0,none⟩)),some (.pointer (some ⟨b,0,none⟩)),x3,x4,x5,x6,x7,x8,x9,x10,x11,x12] H') :
 vc Tryz.prog (PEr X H P0) c36s56 [some (ptr X.b),some (.pointer (some ⟨b1,0,none⟩)),some (.pointer (some ⟨b,0,none⟩)),x3,x4,x5,x6,x7,x8,x9,x10,x11,x12] H1 Q:=by
 rw [c36s56eq]
 simp (implicitDefEqProofs:=false) only [go_sem]
 refine (expect_ok [40]).go hs L hp fun _ r1 v H2 L hp he _=>?_
 have hlen:=L.len
 obtain ⟨cur0,hcur0⟩:∃ cur,cur=r1:=⟨_,rfl⟩
 rw [← hcur0] at L hp hlen
 have L:=L.row0 24 5
 simp (implicitDefEqProofs:=false) only [go_sem]
 refine accept_u hs L [41] fun H3 L=>?_
 simp (implicitDefEqProofs:=false) only [go_sem]
 refine vc_loop (fun (s:Bool × List Tk × List Nd × (Option Addr × Nat)) H'=>∃ g f,PLv X H s.2.1 64 H' [.row 24 5 (.slice s.2.2.2.1 s.2.2.1.length s.2.2.2.2) (s.2.2.1.map Nd.dat) g,.blk b 24 [.int .i64 K,sv nm,.int .i64 0,.int .i64 aa,.slice s.2.2.2.1 s.2.2.1.length s.2.2.2.2],.blk b1 24 cs1] []∧s.2.2.1.length + s.2.1.length≤1048576∧
  (s.1=true→P0=bd (listF paramP f s.2.2.1) (fun ps=>bd (expP [111,110]) (fun _=>bd (namedP 48) fun o=>bd (if K=5 then bd (expP [58]) fun _=>sortP else ret 0) fun n=>bd (expP [61]) fun _=>bd (exprP (loK 64)) fun e=>G (ps ++ [o] ++ [e]) n)) s.2.1∧s.2.1.length≤f)∧
  (s.1=false→P0=bd (expP [111,110]) (fun _=>bd (namedP 48) fun o=>bd (if K=5 then bd (expP [58]) fun _=>sortP else ret 0) fun n=>bd (expP [61]) fun _=>bd (exprP (loK 64)) fun e=>G (s.2.2.1 ++ [o] ++ [e]) n) s.2.1))
  (fun s=>[(0,ptr X.b),(2,.pointer (some ⟨b1,0,none⟩)),(3,.pointer (some ⟨b,0,none⟩)),(4,.bool s.1)]) (fun s=>if s.1 then s.2.1.length + 1 else 0) (!(isB [41] cur0),(if isB [41] cur0 then cur0.tail else cur0),[],(none,0)) ?_ ?_ ?_
 ·refine ⟨none,cur0.length,L,?_,fun h=>?_,fun h=>?_⟩
  ·simp only [List.length_nil,Nat.zero_add]
   split
   ·rw [List.length_tail]; omega
   ·exact hlen
  ·have e:isB [41] cur0=false:=by simpa using h
   simp only [e,Bool.false_eq_true,if_false]
   rw [hp]
   refine ⟨?_,Nat.le_refl _⟩
   conv=>lhs; unfold bd listP
   simp only [e,Bool.false_eq_true,if_false]; rfl
  ·have e:isB [41] cur0=true:=by simpa using h
   simp only [e,if_true]
   rw [hp]
   conv=>lhs; unfold bd listP
   simp only [e,if_true]; rfl
 ·simp (implicitDefEqProofs:=false) only [go_sem,ptr]
 ·rintro ⟨more,cur,ns,va,vc⟩ H4 ⟨g,f,L,hle,hT,hF⟩
  simp only at L hT hF hle ⊢
  cases more with
  | false=>
    have hp:=hF rfl
    simp (implicitDefEqProofs:=false) only [go_sem]
    refine (expect_ok [111,110]).go hs L hp fun _ r1 v H5 L hp he _=>?_
    have hl1:=expP_lt he
    have c:=L.cell 1 rfl
    simp (implicitDefEqProofs:=false) only [go_sem,c]
    refine (named_ok 48).goN hs L hp fun kk tt nn aa' ks kv r2 H6 L hp he=>?_
    have hl2:=namedP_lt he
    have c:=L.cell 1 rfl
    simp (implicitDefEqProofs:=false) only [go_sem,c]
    refine L.newS fun bA HA L=>?_
    have c:=L.cell 2 rfl
    simp (implicitDefEqProofs:=false) only [go_sem,c]
    refine L.appN (ns:=ns) (ks:=ks) 0 rfl (by simp) (by omega) fun a c g' HB L=>?_
    simp only [List.set_cons_zero,List.set_cons_succ,List.set_nil,List.eraseIdx_cons_zero,List.eraseIdx_cons_succ] at L
    simp (implicitDefEqProofs:=false) only [go_sem]
    refine L.stoOne 1 rfl (by simp) rfl fun HC L=>?_
    simp only [List.set_cons_zero,List.set_cons_succ,List.set_nil,List.eraseIdx_cons_zero,List.eraseIdx_cons_succ] at L
    have c:=L.cell 1 rfl
    have L:=L.drop (List.Sublist.refl _) (ds':=[]) (by simp)
    by_cases hK:K=5
    ·rw [if_pos hK,bd_bd] at hp
     simp (implicitDefEqProofs:=false) only [go_sem,c,hK]
     refine (expect_ok [58]).go hs L hp fun _ r3 v H7 L hp he _=>?_
     have hl3:=expP_lt he
     simp (implicitDefEqProofs:=false) only [go_sem]
     refine sort_ok.go hs L hp fun n r4 v H8 L hp he hv=>?_
     have hl4:=sortP_dn.of he
     cases hv
     simp (implicitDefEqProofs:=false) only [go_sem]
     refine L.stoOne 1 rfl (by simp) rfl fun H9 L=>?_
     simp only [List.set_cons_zero,List.set_cons_succ,List.set_nil,List.eraseIdx_cons_zero,List.eraseIdx_cons_succ] at L
     simp (implicitDefEqProofs:=false) only [go_sem]
     refine func_end (G:=fun l=>G l n) hs L (by simp; omega) hp fun a c g' H' r' m L hp=>?_
     exact hQ a c g' H' r' _ n _ _ _ _ _ _ _ _ _ _ L hp
    ·rw [if_neg hK] at hp
     replace hp:P0=bd (expP [61]) (fun _=>bd (exprP (loK 64)) fun e=>G (ns ++ [.mk kk tt nn aa' ks] ++ [e]) 0) r2:=hp
     simp (implicitDefEqProofs:=false) only [go_sem,c,hK]
     refine func_end (G:=fun l=>G l 0) hs L (by simp; omega) hp fun a c g' H' r' m L hp=>?_
     exact hQ a c g' H' r' _ 0 _ _ _ _ _ _ _ _ _ _ L hp
  | true=>
    obtain ⟨hp,hf⟩:=hT rfl
    have hcur:=List.length_pos_iff.2 L.ps.nil
    obtain ⟨f,rfl⟩:∃ f',f=f' + 1:=⟨f - 1,by omega⟩
    simp only [listF,bd_bd] at hp
    have c:=L.cell 1 rfl
    simp (implicitDefEqProofs:=false) only [go_sem,c]
    refine param_ok.goN hs L hp fun kk tt nn aa' ks kv r1 H5 L hp he=>?_
    have hl1:=paramP_dn.of he
    rw [bd_bd] at hp
    have c:=L.cell 1 rfl
    simp (implicitDefEqProofs:=false) only [go_sem,c]
    refine L.newS fun bA HA L=>?_
    have c:=L.cell 2 rfl
    simp (implicitDefEqProofs:=false) only [go_sem,c]
    refine L.appN (ns:=ns) (ks:=ks) 0 rfl (by simp) (by omega) fun a c g' HB L=>?_
    simp only [List.set_cons_zero,List.set_cons_succ,List.set_nil,List.eraseIdx_cons_zero,List.eraseIdx_cons_succ] at L
    simp (implicitDefEqProofs:=false) only [go_sem]
    refine L.stoOne 1 rfl (by simp) rfl fun HC L=>?_
    simp only [List.set_cons_zero,List.set_cons_succ,List.set_nil,List.eraseIdx_cons_zero,List.eraseIdx_cons_succ] at L
    simp (implicitDefEqProofs:=false) only [go_sem]
    refine comma_ok.go hs L hp fun m r2 v HD L hp hcm hv=>?_
    cases hv
    have hl2:=comma_lt' hcm
    have L:=L.drop (ds':=[]) (List.Sublist.refl _) (by simp)
    simp (implicitDefEqProofs:=false) only [go_sem]
    refine loopK_intro (m,r2,ns ++ [.mk kk tt nn aa' ks],(a,c)) ?_ ?_ ⟨g',f,L,?_,fun h=>?_,fun h=>?_⟩
    ·cases m
     ·show 0 < cur.length + 1
      omega
     ·show r2.length + 1 < cur.length + 1
      omega
    ·simp (implicitDefEqProofs:=false) only [go_sem]
    ·simp only [List.length_append,List.length_cons,List.length_nil]; omega
    ·simp only at h; subst h
     exact ⟨hp,show r2.length≤f by omega⟩
    ·simp only at h; subst h
     exact hp
set_option maxHeartbeats 1000000 in
theorem declaration_ok:POk 64 36 [] declP NdR:=by
 refine ⟨fun {X H ts} hs=>?_⟩
 refine pcalls_of_vc (args:=[_]) Tryz.func36 c36ok (Nat.le_of_ble_eq_true rfl) ?_
 have L:=hs.walk
 obtain ⟨hp,_⟩:declP ts=declP ts∧True:=⟨rfl,trivial⟩
 conv at hp=>rhs; unfold declP
 simp (implicitDefEqProofs:=false) only [go_sem,c36]
 refine L.newP fun b1 H1 L=>?_
 simp (implicitDefEqProofs:=false) only [go_sem]
 refine look_go L fun H2 L=>?_
 simp (implicitDefEqProofs:=false) only [go_sem,tkC]
 refine L.newP fun b H3 L=>?_
 simp (implicitDefEqProofs:=false) only [go_sem]
 refine L.stoAll 0 rfl rfl (one_agg (t:=[]) rfl) fun H4 L=>?_
 simp only [List.set_cons_zero,List.set_cons_succ,List.set_nil,List.eraseIdx_cons_zero,List.eraseIdx_cons_succ] at L
 simp (implicitDefEqProofs:=false) only [go_sem]
 refine accept_go hs L [108,97,116,116,105,99,101] (fun e H5 L=>?_) fun e H5 L=>?_
 ·rw [if_pos e] at hp
  simp (implicitDefEqProofs:=false) only [go_sem]
  refine L.stoOne 0 rfl (by simp) rfl fun H6 L=>?_
  simp only [List.set_cons_zero,List.set_cons_succ,List.set_nil,List.eraseIdx_cons_zero,List.eraseIdx_cons_succ] at L
  simp (implicitDefEqProofs:=false) only [go_sem]
  refine (take_ok 1 (by decide)).go hs L hp fun t r v H7 L hp _ hv=>?_
  cases hv
  simp (implicitDefEqProofs:=false) only [go_sem,tkC,sv]
  refine L.stoOne 0 rfl (by simp) rfl fun H8 L=>?_
  simp only [List.set_cons_zero,List.set_cons_succ,List.set_nil,List.eraseIdx_cons_zero,List.eraseIdx_cons_succ] at L
  have c:=L.cell 0 rfl
  simp (implicitDefEqProofs:=false) only [go_sem,c]
  refine (expect_ok [61]).go hs L hp fun _ r v H9 L hp _ _=>?_
  simp (implicitDefEqProofs:=false) only [go_sem]
  refine (levL_eq 64 ▸ lat_ok 64).goN hs L hp fun kk tt nn aa ks kv r HA L hp _=>?_
  simp (implicitDefEqProofs:=false) only [go_sem]
  refine L.newS fun b5 HB L=>?_
  have L:=L.rowN1 (ks:=ks) (by simp)
  have L:=L.rowN 0 [.mk kk tt nn aa ks] rfl
  simp only [List.set_cons_zero,List.set_cons_succ,List.set_nil,List.eraseIdx_cons_zero,List.eraseIdx_cons_succ] at L
  simp (implicitDefEqProofs:=false) only [go_sem]
  refine L.stoOne 0 rfl (by simp) rfl fun HC L=>?_
  simp only [List.set_cons_zero,List.set_cons_succ,List.set_nil,List.eraseIdx_cons_zero,List.eraseIdx_cons_succ] at L
  simp (implicitDefEqProofs:=false) only [go_sem]
  refine (expect_ok [59]).go hs L hp fun _ r v HD L hp _ _=>?_
  have c:=L.cell 0 rfl
  simp (implicitDefEqProofs:=false) only [go_sem,c]
  refine L.stoAll 1 rfl rfl (one_agg rfl) fun HZ L=>?_
  simp only [List.set_cons_zero,List.set_cons_succ,List.set_nil,List.eraseIdx_cons_zero,List.eraseIdx_cons_succ] at L
  have c:=L.cell 1 rfl
  simp (implicitDefEqProofs:=false) only [go_sem,c]
  exact L.fin hp (.inl (by simp))
 rw [if_neg (nb e)] at hp
 simp (implicitDefEqProofs:=false) only [go_sem]
 refine accept_go hs L [111,98,106,101,99,116] (fun e H5 L=>?_) fun e H5 L=>?_
 ·rw [if_pos e] at hp
  simp (implicitDefEqProofs:=false) only [go_sem]
  refine L.stoOne 0 rfl (by simp) rfl fun H6 L=>?_
  simp only [List.set_cons_zero,List.set_cons_succ,List.set_nil,List.eraseIdx_cons_zero,List.eraseIdx_cons_succ] at L
  simp (implicitDefEqProofs:=false) only [go_sem]
  refine (take_ok 1 (by decide)).go hs L hp fun t r v H7 L hp _ hv=>?_
  cases hv
  simp (implicitDefEqProofs:=false) only [go_sem,tkC,sv]
  refine L.stoOne 0 rfl (by simp) rfl fun H8 L=>?_
  simp only [List.set_cons_zero,List.set_cons_succ,List.set_nil,List.eraseIdx_cons_zero,List.eraseIdx_cons_succ] at L
  have c:=L.cell 0 rfl
  simp (implicitDefEqProofs:=false) only [go_sem,c]
  refine (expect_ok [58]).go hs L hp fun _ r v H9 L hp _ _=>?_
  simp (implicitDefEqProofs:=false) only [go_sem]
  refine (levL_eq 64 ▸ lat_ok 64).goN hs L hp fun kk tt nn aa ks kv r HA L hp _=>?_
  simp (implicitDefEqProofs:=false) only [go_sem]
  refine L.newS fun b5 HB L=>?_
  have L:=L.rowN1 (ks:=ks) (by simp)
  have L:=L.rowN 0 [.mk kk tt nn aa ks] rfl
  simp only [List.set_cons_zero,List.set_cons_succ,List.set_nil,List.eraseIdx_cons_zero,List.eraseIdx_cons_succ] at L
  simp (implicitDefEqProofs:=false) only [go_sem]
  refine L.stoOne 0 rfl (by simp) rfl fun HC L=>?_
  simp only [List.set_cons_zero,List.set_cons_succ,List.set_nil,List.eraseIdx_cons_zero,List.eraseIdx_cons_succ] at L
  simp (implicitDefEqProofs:=false) only [go_sem]
  refine (expect_ok [59]).go hs L hp fun _ r v HD L hp _ _=>?_
  have c:=L.cell 0 rfl
  simp (implicitDefEqProofs:=false) only [go_sem,c]
  refine L.stoAll 1 rfl rfl (one_agg rfl) fun HZ L=>?_
  simp only [List.set_cons_zero,List.set_cons_succ,List.set_nil,List.eraseIdx_cons_zero,List.eraseIdx_cons_succ] at L
  have c:=L.cell 1 rfl
  simp (implicitDefEqProofs:=false) only [go_sem,c]
  exact L.fin hp (.inl (by simp))
 rw [if_neg (nb e)] at hp
 simp (implicitDefEqProofs:=false) only [go_sem]
 refine accept_go hs L [117,112,100,97,116,101] (fun e H5 L=>?_) fun e H5 L=>?_
 ·rw [if_pos e] at hp
  simp (implicitDefEqProofs:=false) only [go_sem]
  refine L.stoOne 0 rfl (by simp) rfl fun H6 L=>?_
  simp only [List.set_cons_zero,List.set_cons_succ,List.set_nil,List.eraseIdx_cons_zero,List.eraseIdx_cons_succ] at L
  simp (implicitDefEqProofs:=false) only [go_sem]
  refine (take_ok 1 (by decide)).go hs L hp fun t r v H7 L hp _ hv=>?_
  cases hv
  simp (implicitDefEqProofs:=false) only [go_sem,tkC,sv]
  refine L.stoOne 0 rfl (by simp) rfl fun H8 L=>?_
  simp only [List.set_cons_zero,List.set_cons_succ,List.set_nil,List.eraseIdx_cons_zero,List.eraseIdx_cons_succ] at L
  have c:=L.cell 0 rfl
  simp (implicitDefEqProofs:=false) only [go_sem,c]
  refine func_rest (nm:=t.text) (G:=fun l n=>bd (expP [59]) fun _=>ret (.mk 4 t.text n (hd ts).at_ l)) hs L hp fun a c g' H' r' ns n x3 x4 x5 x6 x7 x8 x9 x10 x11 x12 L hp=>?_
  simp (implicitDefEqProofs:=false) only [go_sem]
  refine (expect_ok [59]).go hs L hp fun _ r v HD L hp _ _=>?_
  have L:=L.rowN 0 ns rfl
  simp only [List.set_cons_zero,List.set_cons_succ,List.set_nil,List.eraseIdx_cons_zero,List.eraseIdx_cons_succ] at L
  have c:=L.cell 0 rfl
  simp (implicitDefEqProofs:=false) only [go_sem,c]
  refine L.stoAll 1 rfl rfl (one_agg rfl) fun HZ L=>?_
  simp only [List.set_cons_zero,List.set_cons_succ,List.set_nil,List.eraseIdx_cons_zero,List.eraseIdx_cons_succ] at L
  have c:=L.cell 1 rfl
  simp (implicitDefEqProofs:=false) only [go_sem,c]
  exact L.fin hp (.inl (by simp))
 rw [if_neg (nb e)] at hp
 simp (implicitDefEqProofs:=false) only [go_sem]
 refine accept_go hs L [113,117,101,114,121] (fun e H5 L=>?_) fun e H5 L=>?_
 ·rw [if_pos e] at hp
  simp (implicitDefEqProofs:=false) only [go_sem]
  refine L.stoOne 0 rfl (by simp) rfl fun H6 L=>?_
  simp only [List.set_cons_zero,List.set_cons_succ,List.set_nil,List.eraseIdx_cons_zero,List.eraseIdx_cons_succ] at L
  simp (implicitDefEqProofs:=false) only [go_sem]
  refine (take_ok 1 (by decide)).go hs L hp fun t r v H7 L hp _ hv=>?_
  cases hv
  simp (implicitDefEqProofs:=false) only [go_sem,tkC,sv]
  refine L.stoOne 0 rfl (by simp) rfl fun H8 L=>?_
  simp only [List.set_cons_zero,List.set_cons_succ,List.set_nil,List.eraseIdx_cons_zero,List.eraseIdx_cons_succ] at L
  have c:=L.cell 0 rfl
  simp (implicitDefEqProofs:=false) only [go_sem,c]
  refine func_rest (nm:=t.text) (G:=fun l n=>bd (expP [59]) fun _=>ret (.mk 5 t.text n (hd ts).at_ l)) hs L hp fun a c g' H' r' ns n x3 x4 x5 x6 x7 x8 x9 x10 x11 x12 L hp=>?_
  simp (implicitDefEqProofs:=false) only [go_sem]
  refine (expect_ok [59]).go hs L hp fun _ r v HD L hp _ _=>?_
  have L:=L.rowN 0 ns rfl
  simp only [List.set_cons_zero,List.set_cons_succ,List.set_nil,List.eraseIdx_cons_zero,List.eraseIdx_cons_succ] at L
  have c:=L.cell 0 rfl
  simp (implicitDefEqProofs:=false) only [go_sem,c]
  refine L.stoAll 1 rfl rfl (one_agg rfl) fun HZ L=>?_
  simp only [List.set_cons_zero,List.set_cons_succ,List.set_nil,List.eraseIdx_cons_zero,List.eraseIdx_cons_succ] at L
  have c:=L.cell 1 rfl
  simp (implicitDefEqProofs:=false) only [go_sem,c]
  exact L.fin hp (.inl (by simp))
 rw [if_neg (nb e)] at hp
 simp (implicitDefEqProofs:=false) only [go_sem]
 exact fail_go L hp
end Go.Proofs.YtmhdkbmnpekpoaaGreatDoor
end
section
set_option linter.unusedSimpArgs false
set_option linter.unusedVariables false
set_option maxRecDepth 8000
namespace Go.Proofs.YtmhdkbmnpekpoaaGreatDoor
open Gx Go
theorem bd_eq {α β:Type} {p:PP α} {f g:α→PP β} {ts:List Tk} (h:∀ a r,p ts= .ok (a,r)→f a r=g a r):bd p f ts=bd p g ts:=by
 unfold bd
 split
 ·rfl
 ·exact h _ _ (by assumption)
theorem hd_lt {ts:List Tk} {k:Int} (h:(hd ts).kind=k) (hk:k≠6):ts.tail.length < ts.length:=by
 have:=hd_pos h hk
 rw [List.length_tail]; omega
theorem tl_lt {ts:List Tk} {s:Bs} (h:isB s ts=true):ts.tail.length < ts.length:=by
 have:=isB_pos h
 rw [List.length_tail]; omega
theorem quoteP_lt {ts r:List Tk} {n:Nd} (h:quoteP ts= .ok (n,r)):r.length < ts.length:=by
 obtain ⟨_,h2,rfl⟩:=quoteP_eq h
 exact hd_lt h2 (by decide)
theorem takeP_lt {k:Int} (hk:k≠6) {ts r:List Tk} {t:Tk} (h:takeP k ts= .ok (t,r)):r.length < ts.length:=by
 obtain ⟨rfl,h2,rfl⟩:=takeP_eq h
 exact hd_lt h2 hk
theorem opAt_isB {kd:Kd} {ts:List Tk} (h:opAt kd ts=true):isB (hd ts).text ts=true:=by
 unfold opAt at h
 rw [Bool.and_eq_true] at h
 exact h.2
theorem chainF_fuel {op:PP Nd} {kd:Kd} (hop:Dn op):∀ (f g:Nat) (n:Nd) (ts:List Tk),ts.length≤f→ts.length≤g→chainF op kd f n ts=chainF op kd g n ts
 | 0,0,n,ts,_,_=>rfl
 | 0,g + 1,n,ts,hf,hg=>by
   have:ts=[]:=List.eq_nil_of_length_eq_zero (by omega)
   subst this
   simp [chainF,opAt,isB,hd,ret]
 | f + 1,0,n,ts,hf,hg=>by
   have:ts=[]:=List.eq_nil_of_length_eq_zero (by omega)
   subst this
   simp [chainF,opAt,isB,hd,ret]
 | f + 1,g + 1,n,ts,hf,hg=>by
   simp only [chainF]
   split
   ·rename_i e
    have:=tl_lt (opAt_isB e)
    exact bd_eq fun q r hq=>by have:=hop.of hq; exact chainF_fuel hop f g _ r (by omega) (by omega)
   ·rfl
theorem postF_fuel {lo:Lo} (hl:LoDn lo):∀ (f g:Nat) (n:Nd) (ts:List Tk),ts.length≤f→ts.length≤g→postF lo f n ts=postF lo g n ts
 | 0,0,n,ts,_,_=>rfl
 | 0,g + 1,n,ts,hf,hg=>by
   have:ts=[]:=List.eq_nil_of_length_eq_zero (by omega)
   subst this
   simp [postF,isB,hd,ret]
 | f + 1,0,n,ts,hf,hg=>by
   have:ts=[]:=List.eq_nil_of_length_eq_zero (by omega)
   subst this
   simp [postF,isB,hd,ret]
 | f + 1,g + 1,n,ts,hf,hg=>by
   simp only [postF]
   split
   ·rename_i e
    have:=tl_lt e
    exact bd_eq fun q r hq=>by have:=takeP_lt (by decide) hq; exact postF_fuel hl f g _ r (by omega) (by omega)
   ·split
    ·rename_i e
     have:=tl_lt e
     unfold entP
     rw [if_pos e,if_pos e]
     split
     ·rfl
     ·rename_i x
      exact bd_eq fun q r hq=>by
       have:=(hl x rfl).1.of hq
       exact bd_eq fun q r hq=>by have:=expP_lt hq; exact postF_fuel hl f g _ r (by omega) (by omega)
    ·rfl
def Lt {α:Type} (p:PP α):Prop:=∀ (ts r:List Tk) (a:α),p ts= .ok (a,r)→r.length < ts.length
theorem Lt.of {α:Type} {p:PP α} (h:Lt p) {ts r:List Tk} {a:α} (hp:p ts= .ok (a,r)):r.length < ts.length:=h _ _ _ hp
theorem Lt.bnd {α β:Type} {p:PP α} {f:α→PP β} (h:Lt p) (hf:∀ a,Dn (f a)):Lt (bd p f):=by
 intro ts r b hb
 unfold bd at hb
 split at hb
 ·cases hb
 ·rename_i a q hq
  have:=h.of hq; have:=(hf a).of hb; omega
theorem Lt.bnd' {α β:Type} {p:PP α} {f:α→PP β} (h:Lt p) (hf:∀ a ts r b,f a ts= .ok (b,r)→r.length≤ts.length):Lt (bd p f):=h.bnd fun a ts r b hb=>hf a ts r b hb
theorem Dn.lt {α:Type} {p:PP α} (h:Dn p) {ts r:List Tk} {a:α} {s:Bs} (e:isB s ts=true) (hp:p ts.tail= .ok (a,r)):r.length < ts.length:=by
 have:=h.of hp; have:=tl_lt e; omega
theorem takeP_Lt {k:Int} (hk:k≠6):Lt (takeP k):=fun _ _ _ h=>takeP_lt hk h
theorem entP_Lt {α β:Type} {lo:Option β} {s:Bs} {body:β→PP α} (h:∀ x,lo=some x→Dn (body x)):Lt (entP lo s body):=by
 intro ts r b hb
 unfold entP at hb
 split at hb
 ·rename_i e
  split at hb
  ·cases hb
  ·rename_i x
   exact Dn.lt (h x rfl) e hb
 ·cases hb
theorem intP_Lt:Lt intP:=by
 intro ts r b h
 unfold intP at h
 split at h
 ·rename_i e
  exact Dn.lt ((takeP_dn 3).bnd fun _=>Dn.ret _) e h
 ·exact Lt.of ((takeP_Lt (by decide)).bnd fun _=>Dn.ret _) h
theorem namedP_Lt (k:Int):Lt (namedP k):=(takeP_Lt (by decide)).bnd fun _=>Dn.ret _
theorem quoteP_Lt:Lt quoteP:=(takeP_Lt (by decide)).bnd fun _=>Dn.ret _
section
variable {lo:Lo} (hl:LoDn lo)
include hl
theorem primP_Lt:Lt (primP lo):=by
 intro ts r b hb
 unfold primP at hb
 split at hb
 ·exact intP_Lt.of hb
 split at hb
 ·exact quoteP_Lt.of hb
 split at hb
 ·exact (namedP_Lt _).of hb
 split at hb
 ·rename_i e; cases hb; exact tl_lt e
 split at hb
 ·rename_i e; cases hb; exact tl_lt e
 split at hb
 ·rename_i e; cases hb; exact tl_lt e
 split at hb
 ·rename_i e; cases hb; exact tl_lt e
 split at hb
 ·exact Lt.of (entP_Lt fun x hx=>(hl x hx).1.bnd fun _=>(expP_dn _).bnd fun _=>Dn.ret _) hb
 split at hb
 ·have:=Lt.of (entP_Lt fun x hx=>(listP_dn (argP_dn (hl x hx).1 _)).bnd fun _=>Dn.ret _) hb
  have:=tail_le ts
  omega
 ·cases hb
theorem postP_Lt:Lt (postP lo):=(primP_Lt hl).bnd' fun n ts r b hb=>(postF_dn hl _ n).of hb
theorem sumP_Lt:Lt (sumP lo):=(postP_Lt hl).bnd' fun n ts r b hb=>(chainF_dn (postP_dn hl) _ n).of hb
theorem joinP_Lt:Lt (joinP lo):=(sumP_Lt hl).bnd' fun n ts r b hb=>(chainF_dn (sumP_dn hl) _ n).of hb
theorem cmpP_Lt:Lt (cmpP lo):=(joinP_Lt hl).bnd' fun n ts r b hb=>by
 split at hb
 ·exact Dn.tl ((joinP_dn hl).bnd fun _=>Dn.ret _) hb
 ·cases hb; exact Nat.le_refl _
theorem notP_Lt:Lt (notP lo):=by
 intro ts r b hb
 unfold notP at hb
 split at hb
 ·exact Lt.of (entP_Lt fun x hx=>(hl x hx).2.bnd fun _=>Dn.ret _) hb
 ·exact (cmpP_Lt hl).of hb
theorem andP_Lt:Lt (andP lo):=(notP_Lt hl).bnd' fun n ts r b hb=>(chainF_dn (notP_dn hl) _ n).of hb
theorem orP_Lt:Lt (orP lo):=(andP_Lt hl).bnd' fun n ts r b hb=>(chainF_dn (andP_dn hl) _ n).of hb
theorem exprP_Lt:Lt (exprP lo):=by
 intro ts r b hb
 unfold exprP at hb
 split at hb
 ·exact Lt.of (entP_Lt fun x hx=>(hl x hx).1.bnd fun _=>(expP_dn _).bnd fun _=>(hl x hx).1.bnd fun _=>(expP_dn _).bnd fun _=>(hl x hx).1.bnd fun _=>Dn.ret _) hb
 ·exact (orP_Lt hl).of hb
end
theorem lev_Lt (k:Nat):Lt (lev k).1∧Lt (lev k).2:=by
 rw [lev_eq]
 exact ⟨exprP_Lt (loK_dn k),notP_Lt (loK_dn k)⟩
theorem argP_Lt {e:PP Nd} (he:Lt e) (hd:Dn e) (fn:Bs):Lt (argP e fn):=by
 intro ts r b hb
 unfold argP at hb
 split at hb
 ·exact Lt.of ((takeP_Lt (by decide)).bnd fun t=>(expP_dn _).bnd fun _=>hd.bnd fun _=>Dn.ret _) hb
 ·split at hb
  ·exact Lt.of (he.bnd fun t=>(expP_dn _).bnd fun _=>hd.bnd fun _=>Dn.ret _) hb
  ·exact he.of hb
theorem paramP_Lt:Lt paramP:=(takeP_Lt (by decide)).bnd fun _=>(expP_dn _).bnd fun _=>sortP_dn.bnd fun _=>Dn.ret _
theorem memP_Lt {x:PP Nd} (h:Dn x):Lt (memP x):=(takeP_Lt (by decide)).bnd fun _=>(expP_dn _).bnd fun _=>h.bnd fun _=>Dn.ret _
end Go.Proofs.YtmhdkbmnpekpoaaGreatDoor
end
section
set_option linter.unusedSimpArgs false
set_option linter.unusedVariables false
set_option maxRecDepth 8000
namespace Go.Proofs.YtmhdkbmnpekpoaaGreatDoor
open Gx Go
theorem lexF_len:∀ (f:Nat) (s:Bs) (o:Nat) (T:List Tk),lexF f s o= .ok T→T.length≤f∧T≠[]∧∀ i t r,T.drop i=t :: r→t.kind≠6→r≠[]
 | 0,s,o,T,h=>by simp [lexF] at h
 | f + 1,s,o,T,h=>by
   unfold lexF at h
   split at h
   ·cases h
   ·split at h
    ·rename_i k t n m _ hk
     cases h
     refine ⟨by simp,by simp,fun i t' r hi hn=>?_⟩
     cases i with
     | zero=>simp only [List.drop_zero,List.cons.injEq] at hi; obtain ⟨rfl,rfl⟩:=hi; exact absurd hk hn
     | succ i=>simp at hi
    ·rename_i k t n m _ hk
     cases e:lexF f (s.drop (skB false s + m)) (o + skB false s + m) with
     | bad c j=>rw [e] at h; cases h
     | ok T'=>
       rw [e] at h
       simp only [LR.cons,LR.ok.injEq] at h
       subst h
       obtain ⟨h1,h2,h3⟩:=lexF_len f _ _ _ e
       refine ⟨by simp; omega,by simp,fun i t' r hi hn=>?_⟩
       cases i with
       | zero=>simp only [List.drop_zero,List.cons.injEq] at hi; obtain ⟨rfl,rfl⟩:=hi; exact h2
       | succ i=>exact h3 i t' r (by simpa using hi) hn
theorem lexT_len {s:Bs} {T:List Tk} (h:lexT s= .ok T):T.length≤65537∧T≠[]∧∀ i t r,T.drop i=t :: r→t.kind≠6→r≠[]:=by
 unfold lexT at h
 split at h
 ·cases h
 ·unfold lexA at h
  obtain ⟨h1,h2,h3⟩:=lexF_len _ _ _ _ h
  exact ⟨by omega,h2,h3⟩
theorem lexF_bad:∀ (f:Nat) (s:Bs) (o:Nat) (c:Int) (k:Nat),s.length < f→lexF f s o= .bad c k→c≠0
 | 0,s,o,c,k,hl,h=>by omega
 | f + 1,s,o,c,k,hl,h=>by
   unfold lexF at h
   split at h
   ·rename_i e he
    cases h
    exact bad_code he
   ·rename_i kd t n m he
    split at h
    ·cases h
    ·rename_i hk
     cases e:lexF f (s.drop (skB false s + m)) (o + skB false s + m) with
     | ok T'=>rw [e] at h; cases h
     | bad c' j=>
       rw [e] at h
       simp only [LR.cons,LR.bad.injEq] at h
       obtain ⟨rfl,rfl⟩:=h
       refine lexF_bad f _ _ _ _ ?_ e
       obtain ⟨h1,h2,h3⟩:=tokS_len he
       have hne:s.drop (skB false s)≠[]:=fun q=>hk (h3 q)
       have:=(h2 hne).1
       have h5:=List.length_pos_iff.2 hne
       simp only [List.length_drop] at h1 h5 ⊢
       omega
theorem lexT_bad {s:Bs} {c:Int} {k:Nat} (h:lexT s= .bad c k):c≠0:=by
 unfold lexT at h
 split at h
 ·cases h; decide
 ·exact lexF_bad _ _ _ _ _ (by simp) h
def srcP (p:PP Nd) (s:Bs):Except Flt Nd:=match lexT s with
 | .bad c k=>.error (c,k)
 | .ok T=>topP p T
def zeroN:List Value:=[.int .i64 0,sv [],.int .i64 0,.int .i64 0,.slice none 0 0]
def ResR (R:Except Flt Nd) (v:Value) (H H':Heap):Prop:=match R with
 | .error e=>v= .tuple #[.agg zeroN.toArray,.agg #[.int .i64 e.1,.int .i64 e.2]]
 | .ok n=>∃ cs,v= .tuple #[.agg cs.toArray,.agg #[.int .i64 0,.int .i64 0]]∧RepP H' (fun x=>x < H.size) n.dat cs
theorem Ps.keep {X:Cx} {H H':Heap} {ts:List Tk} {k:Nat} {M:List Nat} (h:Ps X H ts k) (hf:Fr M H H') (hb:X.b ∉ M) (ha:∀ b o,X.a=some ⟨b,o,none⟩→b ∉ M):Ps X H' ts k:=by
 obtain ⟨i,h1,h2,h3⟩:=h.ex
 exact ⟨⟨i,h1.fr hf hb,h2,h3⟩,h.row.fr hf ha,h.ne,h.k64,h.cap,h.fin⟩
def pP (x:Nat):Value:=.pointer (some ⟨x,0,none⟩)
theorem rec_ret {x y:Nat} (H:Heap):DCalls Tryz.prog 52 #[pP x,pP y] .returning .returning H fun H''=>H''=H:=by
 refine dcalls_of_rec (args:=[_,_]) (u:=.returning) (m:=.returning) (v:=.nilIface) Tryz.func52 c52ok (Nat.le_of_ble_eq_true rfl) rfl ?_
 simp (implicitDefEqProofs:=false) only [go_sem,c52,c52b,cD,posOf,putS]
theorem rec_panic {H:Heap} {x y:Nat} {xs ys:List Value} {e:Flt} (hx:Blk H x 31 xs) (hxl:xs.length=2) (hy:Blk H y 24 ys) (hyl:ys.length=5) (hxy:x≠y) :
 DCalls Tryz.prog 52 #[pP x,pP y] (.panicking (flt e)) .returning H fun H''=>Blk H'' x 31 [.int .i64 e.1,.int .i64 e.2]∧Blk H'' y 24 zeroN∧Fr [x,y] H H'':=by
 refine dcalls_of_rec (args:=[_,_]) (u:=.panicking (flt e)) (m:=.panicking [{ v:=.iface 31 (.agg #[.int .i64 e.1,.int .i64 e.2]),recovered:=true }]) (v:=.iface 31 (.agg #[.int .i64 e.1,.int .i64 e.2])) Tryz.func52 c52ok (Nat.le_of_ble_eq_true rfl) rfl ?_
 simp (implicitDefEqProofs:=false) only [go_sem,c52,c52b,pP,cD,posOf,putS]
 refine Sto_all hx (by simp [hxl]) (by simp [Value.oneCell']) fun H1 hx1 hf1 hs1=>?_
 have hy1:=hy.fr hf1 (by simp; omega)
 simp (implicitDefEqProofs:=false) only [go_sem]
 refine Sto_all hy1 (by simp [hyl]) (by simp [Value.oneCell',sv]) fun H2 hy2 hf2 hs2=>?_
 have hx2:=hx1.fr hf2 (by simp; omega)
 simp (implicitDefEqProofs:=false) only [go_sem]
 exact ⟨hx2,hy2,(hf1.mono (by simp)).trans (hf2.mono (by simp))⟩
set_option maxHeartbeats 1000000 in
theorem prun_ok {g:Nat} {p:PP Nd} (hg:hasBody Tryz.prog g=true) (hop:POk 64 g [] p NdR) (s:Bs) (hl:s.length≤maxLen) {H:Heap} (hG:GlobH H) :
 HCalls Tryz.prog 26 #[sv s,.func (.func g) #[] #[]] H fun v H'=>ResR (srcP p s) v H H'∧Fr [] H H':=by
 refine calls_of_defers (args:=[_,_]) Tryz.func26 c26ok (Nat.le_of_ble_eq_true rfl) ?_
 have L:Lv [] H [] (fun _=>True) H [] []:=Lv.start (by simp) (fun _ _ _ _=>trivial)
 simp (implicitDefEqProofs:=false) only [go_sem,c26,c26a]
 refine L.newP fun b1 H1 L=>?_
 simp (implicitDefEqProofs:=false) only [go_sem]
 refine L.newP fun b2 H2 L=>?_
 simp (implicitDefEqProofs:=false) only [go_sem]
 refine (lex_ok s hl (hG.ext L.fr)).mono ?_
 rintro r H3 ⟨hr,hf3⟩
 have L:=L.ext hf3
 cases hlex:lexT s with
 | bad c k=>
   rw [hlex] at hr
   simp only [LexR] at hr
   subst hr
   have hc:=lexT_bad hlex
   have hsp:srcP p s= .error (c,k):=by unfold srcP; rw [hlex]
   rw [hsp]
   simp (implicitDefEqProofs:=false) only [go_sem,ftV]
   refine L.newP fun b3 H4 L=>?_
   simp (implicitDefEqProofs:=false) only [go_sem]
   refine L.stoAll 0 rfl rfl (by simp [Value.oneCell']) fun H5 L=>?_
   simp only [List.set_cons_zero,List.set_cons_succ,List.set_nil,List.eraseIdx_cons_zero,List.eraseIdx_cons_succ] at L
   have c0:=L.cell 0 rfl
   have c1:=L.cell 1 rfl
   have c2:=L.cell 2 rfl
   simp (implicitDefEqProofs:=false) only [go_sem,c0,hc]
   refine L.stoAll 2 rfl rfl (by simp [Value.oneCell',sv]) fun H6 L=>?_
   simp only [List.set_cons_zero,List.set_cons_succ,List.set_nil,List.eraseIdx_cons_zero,List.eraseIdx_cons_succ] at L
   have c0:=L.cell 0 rfl
   simp (implicitDefEqProofs:=false) only [go_sem,c0]
   refine L.stoAll 1 rfl rfl (by simp [Value.oneCell']) fun H7 L=>?_
   simp only [List.set_cons_zero,List.set_cons_succ,List.set_nil,List.eraseIdx_cons_zero,List.eraseIdx_cons_succ] at L
   have c1:=L.cell 1 rfl
   have c2:=L.cell 2 rfl
   simp (implicitDefEqProofs:=false) only [go_sem,c1,c2,defQ]
   exact ⟨by simp [ResR,zeroN,sv],L.fr⟩
 | ok T=>
   rw [hlex] at hr
   simp only [LexR] at hr
   obtain ⟨a,cT,rfl,hcap1,hcap2,hrow⟩:=hr
   have hsp:srcP p s=topP p T:=by unfold srcP; rw [hlex]
   rw [hsp]
   obtain ⟨hT1,hT2,hT3⟩:=lexT_len hlex
   simp (implicitDefEqProofs:=false) only [go_sem,ftV]
   obtain ⟨rb,ro,ha,hget⟩:=RowR.get hrow tkC_len (T.length - 1) (by have:=List.length_pos_iff.2 hT2; omega) (by decide)
   have hk6:(T[T.length - 1]'(by have:=List.length_pos_iff.2 hT2; omega)).kind=6:=by
    have hlt:T.length - 1 < T.length:=by have:=List.length_pos_iff.2 hT2; omega
    refine Decidable.byContradiction fun hn=>?_
    exact hT3 (T.length - 1) _ _ (List.drop_eq_getElem_cons hlt) hn (List.drop_eq_nil_of_le (by omega))
   have h6:=hget 0 (by decide)
   rw [Nat.add_zero] at h6
   simp only [tkC,List.getElem?_cons_zero,hk6] at h6
   have hne1:rb≠b1:=by
    rintro rfl
    have c:=L.cell 1 rfl
    rw [c] at h6
    have:=List.mem_of_getElem? h6
    simp [sv] at this
   have hne2:rb≠b2:=by
    rintro rfl
    have c:=L.cell 0 rfl
    rw [c] at h6
    have:=List.mem_of_getElem? h6
    simp at this
   have hrlt:=cellB_lt h6
   refine NewP_intro fun H4 hn4 hf4 hs4=>?_
   have L:=L.push hf4 hn4
   simp (implicitDefEqProofs:=false) only [go_sem]
   refine Sto_all hn4 rfl (by simp [Value.oneCell']) fun H5 hn5 hf5 hs5=>?_
   have L:=L.sto 0 rfl hf5 hn5
   simp only [List.set_cons_zero,List.set_cons_succ,List.set_nil,List.eraseIdx_cons_zero,List.eraseIdx_cons_succ] at L
   have hrow5:RowR tkC H5 a T:=(hrow.ext hf4).fr hf5 fun b o e hm=>by
    rw [ha] at e; cases e
    simp only [List.mem_singleton] at hm
    omega
   have c:=L.cell 0 rfl
   simp (implicitDefEqProofs:=false) only [go_sem,c]
   refine NewP_intro fun H6 hn6 hf6 hs6=>?_
   have hsz4:=hf4.size
   have hsz5:=hf5.size
   have hsz0:=L.fr.size
   have hps:Ps ⟨H5.size,a,cT,T⟩ H6 T 64:=⟨⟨0,hn6,rfl,List.length_pos_iff.2 hT2⟩,hrow5.ext hf6,fun b o e=>by rw [ha] at e; cases e; show rb≠H5.size; omega,Nat.le_refl _,by show T.length≤_; omega,hT3⟩
   obtain ⟨O,hO1,hO2,hO3⟩:∃ O:List Nat,H5.size ∈ O∧(∀ x ∈ O,x=H5.size∨(x=rb∧H.size≤rb))∧(H.size≤rb→rb ∈ O):=by
    by_cases q:H.size≤rb
    ·exact ⟨[H5.size,rb],by simp,fun x hx=>by simp at hx; rcases hx with h | h; exact .inl h; exact .inr ⟨h,q⟩,fun _=>by simp⟩
    ·exact ⟨[H5.size],by simp,fun x hx=>by simp at hx; exact .inl hx,fun h=>absurd h q⟩
   have hstb:∀ {A:Heap} {ts:List Tk},Ps ⟨H5.size,a,cT,T⟩ A ts 64→∀ (M:List Nat) (B:Heap),Fr M A B→(∀ x ∈ M,H.size≤x∧x ∉ O)→Ps ⟨H5.size,a,cT,T⟩ B ts 64:=fun h M B hf hM=>by
    refine h.keep hf (fun hm=>(hM _ hm).2 hO1) fun b o e hm=>?_
    replace e:a=some ⟨b,o,none⟩:=e
    rw [ha] at e; cases e
    exact (hM _ hm).2 (hO3 (hM _ hm).1)
   have hbs:rb ∉ [Ent.blk H3.size 31 [.int .i64 0,.int .i64 0],.blk b2 31 [.int .i64 0,.int .i64 0],.blk b1 24 [.int .i64 0,sv [],.int .i64 0,.int .i64 0,.slice none 0 0]].flatMap Ent.bs:=by
    simp [Ent.bs]; omega
   have L6:Lv [] H O (fun A=>Ps ⟨H5.size,a,cT,T⟩ A T 64) H6 [.blk H3.size 31 [.int .i64 0,.int .i64 0],.blk b2 31 [.int .i64 0,.int .i64 0],.blk b1 24 [.int .i64 0,sv [],.int .i64 0,.int .i64 0,.slice none 0 0]] []:=by
    have hlo5:=fun x hx=>(L.lo x hx).2.2
    have L:=L.ext hf6
    refine ⟨L.fr,fun x hx=>?_,L.nd,fun x hx=>?_,fun p hp=>?_,by simp,hstb hps⟩
    ·rcases hO2 x hx with q | ⟨q,q2⟩
     ·subst q; exact ⟨hn6.lt,.inr (by omega)⟩
     ·subst q; exact ⟨by have:=hf6.size; omega,.inr q2⟩
    ·obtain ⟨h1,h2,h3⟩:=L.lo x hx
     refine ⟨h1,fun hm=>?_,h3⟩
     rcases hO2 x hm with q | ⟨q,q2⟩
     ·have:=hlo5 x hx; omega
     ·subst q; exact hbs hx
    ·have h:=L.ok p hp
     simp only [List.mem_cons,List.not_mem_nil,or_false] at hp
     rcases hp with rfl | rfl | rfl <;> exact h
   have step:∀ {A B:Heap} {ts ts':List Tk} {l:List Ent} {ds:List (Dat × List Value)},Lv [] H O (fun A=>Ps ⟨H5.size,a,cT,T⟩ A ts 64) A l ds→Fr [H5.size] A B→Ps ⟨H5.size,a,cT,T⟩ B ts' 64→Lv [] H O (fun A=>Ps ⟨H5.size,a,cT,T⟩ A ts' 64) B l ds:=fun L hf h=>
    L.call (hf.mono fun x hx=>.inl (by simp only [List.mem_singleton] at hx; subst hx; exact hO1)) (hstb h)
   have over:∀ {A:Heap} {ts:List Tk} {e:Flt} {xs ys:List Value} {ds:List (Dat × List Value)} {B:Heap},Lv [] H O (fun A=>Ps ⟨H5.size,a,cT,T⟩ A ts 64) A [.blk H3.size 31 xs,.blk b2 31 [.int .i64 0,.int .i64 0],.blk b1 24 ys] ds→ys.length=5→topP p T= .error e→Fr [H5.size] A B→
    DCalls Tryz.prog 52 #[pP b2,pP b1] (.panicking (flt e)) .returning B fun H''=>finN (fun v H'=>ResR (topP p T) v H H'∧Fr [] H H') H'' (resV [some (pP b1),some (pP b2)] H'' [.cell S0 (some 5),.cell S1 (some 2)]):=by
    intro A ts e xs ys ds B L hy he hf
    have L:Lv [] H O (fun _=>True) B _ ds:=L.call (hf.mono fun x hx=>.inl (by simp only [List.mem_singleton] at hx; subst hx; exact hO1)) (fun _ _ _ _=>trivial)
    have hne:b2≠b1:=by
     have:=L.nd
     simp only [List.flatMap_cons,List.flatMap_nil,Ent.bs,List.cons_append,List.nil_append,List.nodup_cons,List.mem_cons,List.not_mem_nil,or_false] at this
     exact this.2.1
    refine (rec_panic (L.get 1 rfl) rfl (L.get 2 rfl) hy hne).mono ?_
    rintro H2 ⟨hx2,hy2,hf2⟩
    have cx:=hx2.cell
    have cy:=hy2.cell
    have hlo:=L.lo
    rw [he]
    unfold pP
    simp (implicitDefEqProofs:=false) only [go_sem,cx,cy,zeroN]
    refine ⟨by simp [ResR,zeroN],L.fr.trans' hf2 fun x hx=>.inr ?_⟩
    simp only [List.mem_cons,List.not_mem_nil,or_false] at hx
    rcases hx with rfl | rfl
    ·exact (hlo x (by simp [Ent.bs])).1
    ·exact (hlo x (by simp [Ent.bs])).1
   simp (implicitDefEqProofs:=false) only [go_sem]
   refine ⟨_,_,rfl,rfl,?_⟩
   simp (implicitDefEqProofs:=false) only [go_sem,c26,c26b]
   refine ⟨hg,PCalls.mono (hop.ok hps) ?_ ?_⟩
   ·rintro v H7 ⟨n,r,hp,⟨cs,rfl,hr⟩,hs7,hf7⟩
    obtain ⟨kk,tt,nn,aa,ks⟩:=n
    obtain ⟨kv,rfl,hkv⟩:=RepP.nd_open hr
    have L:=(step L6 hf7 hs7).add (L6.built hkv)
    simp (implicitDefEqProofs:=false) only [go_sem]
    refine L.stoAll 2 rfl rfl (one_agg (nd_one (L.dat (kidsD ks,[kv]) (by simp)))) fun H8 L=>?_
    simp only [List.set_cons_zero,List.set_cons_succ,List.set_nil,List.eraseIdx_cons_zero,List.eraseIdx_cons_succ] at L
    simp (implicitDefEqProofs:=false) only [go_sem]
    refine (look_ok L.st).mono ?_
    rintro v H9 ⟨rfl,hf9⟩
    have L:=L.ext hf9
    have c2:=L.cell 2 rfl
    have c1:=L.cell 1 rfl
    by_cases k6:(hd r).kind=6
    ·simp (implicitDefEqProofs:=false) only [go_sem,tkC,k6,c2]
     refine L.stoAll 2 rfl rfl (one_agg (nd_one (L.dat (kidsD ks,[kv]) (by simp)))) fun HA L=>?_
     simp only [List.set_cons_zero,List.set_cons_succ,List.set_nil,List.eraseIdx_cons_zero,List.eraseIdx_cons_succ] at L
     simp (implicitDefEqProofs:=false) only [go_sem]
     refine L.stoAll 1 rfl rfl (by simp [Value.oneCell']) fun HB L=>?_
     simp only [List.set_cons_zero,List.set_cons_succ,List.set_nil,List.eraseIdx_cons_zero,List.eraseIdx_cons_succ] at L
     simp (implicitDefEqProofs:=false) only [go_sem]
     refine (rec_ret (x:=b2) (y:=b1) HB).mono ?_
     rintro H2 rfl
     have c2:=L.cell 2 rfl
     have c1:=L.cell 1 rfl
     simp (implicitDefEqProofs:=false) only [go_sem,c1,c2]
     have ht:topP p T= .ok (.mk kk tt nn aa ks):=by unfold topP; rw [hp]; simp only [k6,if_true]
     rw [ht]
     have hk:=L.dat (kidsD ks,[kv]) (by simp)
     exact ⟨⟨_,rfl,RepP.nd (hk.more fun x hx=>.inl (.inl hx))⟩,L.fr⟩
    ·simp (implicitDefEqProofs:=false) only [go_sem,tkC,k6]
     refine (fail_ok L.st 2).mono (fun _ _ h=>h.elim) ?_
     rintro ch HA ⟨rfl,hfA⟩
     refine over L rfl ?_ (fr1 hfA)
     unfold topP; rw [hp]; simp only [k6,if_false]
   ·rintro ch H7 ⟨e,hp,rfl,hf7⟩
    exact over L6 rfl (by unfold topP; rw [hp]) hf7
theorem pexpr1_ok:POk 64 27 [] (exprP (loK 64)) NdR:=by
 refine ⟨fun {X H ts} hs=>?_⟩
 refine pcalls_of_vc (args:=[_]) Tryz.func27 c27ok (Nat.le_of_ble_eq_true rfl) ?_
 have L:=hs.walk
 simp (implicitDefEqProofs:=false) only [go_sem,c27]
 refine L.newP fun b1 H1 L=>?_
 simp (implicitDefEqProofs:=false) only [go_sem]
 refine (lev_ok 64).1.goL hs L (P0:=exprP (loK 64) ts) rfl fun kk tt nn aa ks kv r H5 L hp=>?_
 simp (implicitDefEqProofs:=false) only [go_sem]
 refine L.stoAll 0 rfl rfl (one_agg (L.one (ks:=ks) (by simp))) fun HZ L=>?_
 simp only [List.set_cons_zero,List.set_cons_succ,List.set_nil,List.eraseIdx_cons_zero,List.eraseIdx_cons_succ] at L
 have c:=L.cell 0 rfl
 simp (implicitDefEqProofs:=false) only [go_sem,c]
 exact L.fin hp (.inl (by simp))
theorem pparse1_ok:POk 64 34 [] progP NdR:=by
 refine ⟨fun {X H ts} hs=>?_⟩
 refine pcalls_of_vc (args:=[_]) Tryz.func34 c34ok (Nat.le_of_ble_eq_true rfl) ?_
 have L:=hs.walk
 have hlen:=L.len
 simp (implicitDefEqProofs:=false) only [go_sem,c34]
 refine L.newP fun b1 H1 L=>?_
 simp (implicitDefEqProofs:=false) only [go_sem]
 refine L.newP fun b2 H2 L=>?_
 simp (implicitDefEqProofs:=false) only [go_sem]
 refine L.stoAll 0 rfl rfl (one_agg (t:=[]) rfl) fun H3 L=>?_
 simp only [List.set_cons_zero,List.set_cons_succ,List.set_nil,List.eraseIdx_cons_zero,List.eraseIdx_cons_succ] at L
 have L:=L.row0 24 5
 simp (implicitDefEqProofs:=false) only [go_sem]
 refine vc_loop (fun (s:List Tk × List Nd × (Option Addr × Nat)) H'=>∃ g f,PLv X H s.1 64 H' [.row 24 5 (.slice s.2.2.1 s.2.1.length s.2.2.2) (s.2.1.map Nd.dat) g,.blk b2 24 [.int .i64 1,sv [],.int .i64 0,.int .i64 0,.slice s.2.2.1 s.2.1.length s.2.2.2],.blk b1 24 [.int .i64 0,sv [],.int .i64 0,.int .i64 0,.slice none 0 0]] []∧s.2.1.length + s.1.length≤1048576∧
  progP ts=bd (progF (f + 1) s.2.1) (fun l=>ret (.mk 1 [] 0 0 l)) s.1∧s.1.length≤f)
  (fun s=>[(0,ptr X.b),(2,.pointer (some ⟨b1,0,none⟩)),(3,.pointer (some ⟨b2,0,none⟩))]) (fun s=>s.1.length) (ts,[],(none,0)) ?_ ?_ ?_
 ·exact ⟨none,ts.length,L,by simpa using hlen,rfl,Nat.le_refl _⟩
 ·simp (implicitDefEqProofs:=false) only [go_sem,ptr]
 ·rintro ⟨cur,ns,va,vc⟩ H4 ⟨g,f,L,hle,hp,hf⟩
  simp only at L hp hf hle ⊢
  have hne:=L.ps.nil
  have hcur:=List.length_pos_iff.2 hne
  have hp:progP ts=if (hd cur).kind=6 then ret (Nd.mk 1 [] 0 0 ns) cur else bd declP (fun d=>bd (progF f (ns ++ [d])) (fun l=>ret (.mk 1 [] 0 0 l))) cur:=by
   rw [hp]
   conv=>lhs; unfold bd progF
   by_cases e:(hd cur).kind=6
   ·simp only [e,if_true]
   ·simp only [e,if_false]
    rw [← bd_bd]; rfl
  simp (implicitDefEqProofs:=false) only [go_sem]
  refine look_go L fun H5 L=>?_
  by_cases k6:(hd cur).kind=6
  ·rw [if_pos k6] at hp
   simp (implicitDefEqProofs:=false) only [go_sem,tkC,k6]
   have L:=L.rowN 0 ns rfl
   simp only [List.set_cons_zero,List.set_cons_succ,List.set_nil,List.eraseIdx_cons_zero,List.eraseIdx_cons_succ] at L
   have c:=L.cell 0 rfl
   simp (implicitDefEqProofs:=false) only [go_sem,c]
   refine L.stoAll 1 rfl rfl (one_agg (t:=[]) rfl) fun HZ L=>?_
   simp only [List.set_cons_zero,List.set_cons_succ,List.set_nil,List.eraseIdx_cons_zero,List.eraseIdx_cons_succ] at L
   have c:=L.cell 1 rfl
   simp (implicitDefEqProofs:=false) only [go_sem,c]
   exact L.fin hp (.inl (by simp))
  ·rw [if_neg k6] at hp
   have c:=L.cell 1 rfl
   simp (implicitDefEqProofs:=false) only [go_sem,tkC,k6,c]
   refine declaration_ok.goN hs L hp fun kk tt nn aa ks kv r1 H6 L hp he=>?_
   have hlt:=declP_lt he hne
   have c:=L.cell 1 rfl
   simp (implicitDefEqProofs:=false) only [go_sem,c]
   refine L.newS fun bA HA L=>?_
   have c:=L.cell 2 rfl
   simp (implicitDefEqProofs:=false) only [go_sem,c]
   refine L.appN (ns:=ns) (ks:=ks) 0 rfl (by simp) (by omega) fun a c g' HB L=>?_
   simp only [List.set_cons_zero,List.set_cons_succ,List.set_nil,List.eraseIdx_cons_zero,List.eraseIdx_cons_succ] at L
   simp (implicitDefEqProofs:=false) only [go_sem]
   refine L.stoOne 1 rfl (by simp) rfl fun HC L=>?_
   simp only [List.set_cons_zero,List.set_cons_succ,List.set_nil,List.eraseIdx_cons_zero,List.eraseIdx_cons_succ] at L
   simp (implicitDefEqProofs:=false) only [go_sem]
   obtain ⟨f,rfl⟩:∃ f',f=f' + 1:=⟨f - 1,by omega⟩
   refine loopK_intro (r1,ns ++ [.mk kk tt nn aa ks],(a,c)) ?_ ?_ ⟨g',f,L.drop (List.Sublist.refl _) (by simp),?_,hp,show r1.length≤f by omega⟩
   ·show r1.length < cur.length
    omega
   ·simp (implicitDefEqProofs:=false) only [go_sem]
   ·simp only [List.length_append,List.length_cons,List.length_nil]; omega
section
variable (s:Bs) (hl:s.length≤maxLen) {H:Heap} (hG:GlobH H)
include hl hG
theorem pexpr_ok:HCalls Tryz.prog 12 #[sv s] H fun v H'=>ResR (srcP (exprP (loK 64)) s) v H H'∧Fr [] H H':=by
 refine calls_of_vc (args:=[_]) Tryz.func12 c12ok (Nat.le_of_ble_eq_true rfl) ?_
 have L:Lv [] H [] (fun _=>True) H [] []:=Lv.start (by simp) (fun _ _ _ _=>trivial)
 simp (implicitDefEqProofs:=false) only [go_sem,c12]
 refine L.newP fun b1 H1 L=>?_
 simp (implicitDefEqProofs:=false) only [go_sem]
 refine L.newP fun b2 H2 L=>?_
 simp (implicitDefEqProofs:=false) only [go_sem]
 refine (prun_ok (g:=27) (by kernel_rfl) pexpr1_ok s hl (hG.ext L.fr)).mono ?_
 rintro v H3 ⟨hv,hf3⟩
 cases e:srcP (exprP (loK 64)) s with
 | error e=>
   rw [e] at hv
   simp only [ResR] at hv
   subst hv
   have L:=L.ext hf3
   simp (implicitDefEqProofs:=false) only [go_sem,zeroN,sv]
   refine L.stoAll 1 rfl rfl (by simp [Value.oneCell']) fun H4 L=>?_
   simp only [List.set_cons_zero,List.set_cons_succ,List.set_nil,List.eraseIdx_cons_zero,List.eraseIdx_cons_succ] at L
   simp (implicitDefEqProofs:=false) only [go_sem]
   refine L.stoAll 0 rfl rfl (by simp [Value.oneCell']) fun H5 L=>?_
   simp only [List.set_cons_zero,List.set_cons_succ,List.set_nil,List.eraseIdx_cons_zero,List.eraseIdx_cons_succ] at L
   have c0:=L.cell 0 rfl
   have c1:=L.cell 1 rfl
   simp (implicitDefEqProofs:=false) only [go_sem,c0,c1]
   exact ⟨by simp [ResR,zeroN,sv],L.fr⟩
 | ok n=>
   rw [e] at hv
   simp only [ResR] at hv
   obtain ⟨cs,rfl,hr⟩:=hv
   obtain ⟨kk,tt,nn,aa,ks⟩:=n
   obtain ⟨kv,rfl,hkv⟩:=RepP.nd_open hr
   have L:=(L.ext hf3).add (L.built hkv)
   simp (implicitDefEqProofs:=false) only [go_sem]
   refine L.stoAll 1 rfl rfl (one_agg (nd_one (L.dat (kidsD ks,[kv]) (by simp)))) fun H4 L=>?_
   simp only [List.set_cons_zero,List.set_cons_succ,List.set_nil,List.eraseIdx_cons_zero,List.eraseIdx_cons_succ] at L
   simp (implicitDefEqProofs:=false) only [go_sem]
   refine L.stoAll 0 rfl rfl (by simp [Value.oneCell']) fun H5 L=>?_
   simp only [List.set_cons_zero,List.set_cons_succ,List.set_nil,List.eraseIdx_cons_zero,List.eraseIdx_cons_succ] at L
   have c0:=L.cell 0 rfl
   have c1:=L.cell 1 rfl
   simp (implicitDefEqProofs:=false) only [go_sem,c0,c1]
   exact ⟨⟨_,rfl,RepP.nd ((L.dat (kidsD ks,[kv]) (by simp)).more fun x hx=>.inl (.inl hx))⟩,L.fr⟩
theorem pparse_ok:HCalls Tryz.prog 15 #[sv s] H fun v H'=>ResR (srcP progP s) v H H'∧Fr [] H H':=by
 refine calls_of_vc (args:=[_]) Tryz.func15 c15ok (Nat.le_of_ble_eq_true rfl) ?_
 have L:Lv [] H [] (fun _=>True) H [] []:=Lv.start (by simp) (fun _ _ _ _=>trivial)
 simp (implicitDefEqProofs:=false) only [go_sem,c15]
 refine L.newP fun b1 H1 L=>?_
 simp (implicitDefEqProofs:=false) only [go_sem]
 refine L.newP fun b2 H2 L=>?_
 simp (implicitDefEqProofs:=false) only [go_sem]
 refine (prun_ok (g:=34) (by kernel_rfl) pparse1_ok s hl (hG.ext L.fr)).mono ?_
 rintro v H3 ⟨hv,hf3⟩
 cases e:srcP progP s with
 | error e=>
   rw [e] at hv
   simp only [ResR] at hv
   subst hv
   have L:=L.ext hf3
   simp (implicitDefEqProofs:=false) only [go_sem,zeroN,sv]
   refine L.stoAll 1 rfl rfl (by simp [Value.oneCell']) fun H4 L=>?_
   simp only [List.set_cons_zero,List.set_cons_succ,List.set_nil,List.eraseIdx_cons_zero,List.eraseIdx_cons_succ] at L
   simp (implicitDefEqProofs:=false) only [go_sem]
   refine L.stoAll 0 rfl rfl (by simp [Value.oneCell']) fun H5 L=>?_
   simp only [List.set_cons_zero,List.set_cons_succ,List.set_nil,List.eraseIdx_cons_zero,List.eraseIdx_cons_succ] at L
   have c0:=L.cell 0 rfl
   have c1:=L.cell 1 rfl
   simp (implicitDefEqProofs:=false) only [go_sem,c0,c1]
   exact ⟨by simp [ResR,zeroN,sv],L.fr⟩
 | ok n=>
   rw [e] at hv
   simp only [ResR] at hv
   obtain ⟨cs,rfl,hr⟩:=hv
   obtain ⟨kk,tt,nn,aa,ks⟩:=n
   obtain ⟨kv,rfl,hkv⟩:=RepP.nd_open hr
   have L:=(L.ext hf3).add (L.built hkv)
   simp (implicitDefEqProofs:=false) only [go_sem]
   refine L.stoAll 1 rfl rfl (one_agg (nd_one (L.dat (kidsD ks,[kv]) (by simp)))) fun H4 L=>?_
   simp only [List.set_cons_zero,List.set_cons_succ,List.set_nil,List.eraseIdx_cons_zero,List.eraseIdx_cons_succ] at L
   simp (implicitDefEqProofs:=false) only [go_sem]
   refine L.stoAll 0 rfl rfl (by simp [Value.oneCell']) fun H5 L=>?_
   simp only [List.set_cons_zero,List.set_cons_succ,List.set_nil,List.eraseIdx_cons_zero,List.eraseIdx_cons_succ] at L
   have c0:=L.cell 0 rfl
   have c1:=L.cell 1 rfl
   simp (implicitDefEqProofs:=false) only [go_sem,c0,c1]
   exact ⟨⟨_,rfl,RepP.nd ((L.dat (kidsD ks,[kv]) (by simp)).more fun x hx=>.inl (.inl hx))⟩,L.fr⟩
end
end Go.Proofs.YtmhdkbmnpekpoaaGreatDoor
end
section
set_option linter.unusedSimpArgs false
set_option linter.unusedVariables false
set_option maxRecDepth 8000
namespace Go.Proofs.YtmhdkbmnpekpoaaGreatDoor
open Gx Go
mutual
def sameN:Nd→Nd→Bool
 | .mk k t n _ ks,.mk k' t' n' _ ks'=>decide (k=k') && decide (t=t') && decide (n=n') && decide (ks.length=ks'.length) && sameL ks ks'
def sameL:List Nd→List Nd→Bool
 | x :: xs,y :: ys=>sameN x y && sameL xs ys
 | _,_=>true
end
mutual
def sizeN:Nd→Nat
 | .mk _ _ _ _ ks=>sizeL ks + 1
def sizeL:List Nd→Nat
 | []=>0
 | x :: xs=>sizeN x + sizeL xs
end
theorem sizeL_get:∀ (l:List Nd) (i:Nat) (h:i < l.length),sizeN l[i]≤sizeL l
 | x :: xs,0,_=>by simp only [List.getElem_cons_zero,sizeL]; omega
 | x :: xs,i + 1,h=>by
   have:=sizeL_get xs i (by simpa using h)
   simp only [List.getElem_cons_succ,sizeL]; omega
def NA (H:Heap) (n:Nd) (v:Value):Prop:=∃ cs,v= .agg cs.toArray∧Rep H [] n.dat cs
theorem NA.ext {H H':Heap} {n:Nd} {v:Value} (h:NA H n v) (hf:Fr [] H H'):NA H' n v:=by
 obtain ⟨cs,h1,h2⟩:=h
 exact ⟨cs,h1,h2.ext hf⟩
theorem NA.open {H:Heap} {k n a:Int} {t:Bs} {ks:List Nd} {v:Value} (h:NA H (.mk k t n a ks) v):∃ kv,v= .agg #[.int .i64 k,sv t,.int .i64 n,.int .i64 a,kv]∧Rep H [] (kidsD ks) [kv]:=by
 obtain ⟨cs,rfl,h2⟩:=h
 obtain ⟨kv,rfl,h3⟩:=nd_rep.1 h2
 exact ⟨kv,rfl,h3⟩
theorem kid_at {H:Heap} {ks:List Nd} {v:Value} (h:Rep H [] (kidsD ks) [v]) (j:Nat) (hj:j < ks.length) :
 ∃ b o c k t n a kks kv,v= .slice (some ⟨b,o,none⟩) ks.length c∧ks[j]= .mk k t n a kks∧(cellB H b (o + j * 5 + 0)=some (.int .i64 k)∧cellB H b (o + j * 5 + 1)=some (sv t)∧cellB H b (o + j * 5 + 2)=some (.int .i64 n)∧cellB H b (o + j * 5 + 3)=some (.int .i64 a)∧cellB H b (o + j * 5 + 4)=some kv)∧Rep H [] (kidsD kks) [kv]:=by
 obtain ⟨b,o,c,x,h1,_,h3,h4,h5⟩:=Rep.at h j (by simpa using hj) (by decide)
 rw [List.getElem_map] at h5
 rw [List.length_map] at h1
 cases e:ks[j] with
 | mk k t n a kks=>
   rw [e] at h5
   obtain ⟨kv,rfl,h6⟩:=nd_rep.1 h5
   exact ⟨b,o,c,k,t,n,a,kks,kv,h1,rfl,⟨h4 0 (by decide),h4 1 (by decide),h4 2 (by decide),h4 3 (by decide),h4 4 (by decide)⟩,h6⟩
theorem NA.mk {H:Heap} {k n a:Int} {t:Bs} {ks:List Nd} {kv:Value} (h:Rep H [] (kidsD ks) [kv]):NA H (.mk k t n a ks) (.agg #[.int .i64 k,sv t,.int .i64 n,.int .i64 a,kv]):=⟨_,rfl,nd_rep.2 ⟨kv,rfl,h⟩⟩
theorem kids_len {H:Heap} {ks:List Nd} {v:Value} (h:Rep H [] (kidsD ks) [v]):∃ a c,v= .slice a ks.length c∧ks.length≤c∧ks.length≤maxLen:=by
 obtain ⟨a,c,h1,h2,h3⟩:=Rep.slice h
 simp only [List.length_map] at h1 h2
 exact ⟨a,c,h1,h2,by omega⟩
theorem wrap_at {i n:Nat} (h:i < n) (hn:n≤maxLen):IntKind.i64.wrap ((i:Int) + 1)=((i + 1:Nat):Int):=by
 unfold maxLen at hn
 rw [wrap_i64_id _ (by omega) (by omega)]; omega
theorem L0 (H:Heap):Lv [] H [] (fun _=>True) H [] []:=Lv.start (by simp) (fun _ _ _ _=>trivial)
theorem sizeL_take (l:List Nd) (i:Nat) (h:i < l.length):sizeL (l.take (i + 1))=sizeL (l.take i) + sizeN l[i]:=by
 induction l generalizing i with
 | nil=>simp at h
 | cons x xs ih=>
   cases i with
   | zero=>simp [sizeL]
   | succ i=>
     have:=ih i (by simpa using h)
     simp only [List.take_succ_cons,sizeL,List.getElem_cons_succ,this]; omega
theorem sizeL_all (l:List Nd):sizeL (l.take l.length)=sizeL l:=by rw [List.take_length]
theorem sizeL_le (l:List Nd) (i:Nat):sizeL (l.take i)≤sizeL l:=by
 induction l generalizing i with
 | nil=>simp
 | cons x xs ih=>
   cases i with
   | zero=>simp [sizeL]
   | succ i=>
     have:=ih i
     simp only [List.take_succ_cons,sizeL]; omega
theorem room_ok:∀ (N:Nat) (x:Nd),sizeN x≤N→∀ {H:Heap} {vx:Value} {m:Nat},m < 2^62→NA H x vx→HCalls Tryz.prog 22 #[vx,.int .i64 m] H fun v H'=>v= .int .i64 (if sizeN x≤m then (m:Int) - sizeN x else -1)∧Fr [] H H':=by
 intro N
 induction N with
 | zero=>
   intro x hx
   cases x; simp only [sizeN] at hx; omega
 | succ N ih=>
 intro x hx H vx m hm hax
 obtain ⟨k,t,n,a,ks⟩:=x
 obtain ⟨kv,rfl,hk⟩:=hax.open
 obtain ⟨aa,cc,rfl,hcc,hmx⟩:=kids_len hk
 refine calls_of_vc (args:=[_,_]) Tryz.func22 c22ok (Nat.le_of_ble_eq_true rfl) ?_
 have L:=L0 H
 have hw0:IntKind.i64.wrap ((m:Int) - 1)=(m:Int) - 1:=wrap_i64_id _ (by omega) (by omega)
 simp (implicitDefEqProofs:=false) only [go_sem,c22,hw0]
 refine L.newP fun bx H1 L=>?_
 simp (implicitDefEqProofs:=false) only [go_sem,hw0]
 refine vc_loop (fun (i:Nat) H'=>i≤ks.length∧Lv [] H [] (fun _=>True) H' [.blk bx 24 [.int .i64 k,sv t,.int .i64 n,.int .i64 a,.slice aa ks.length cc]] [])
  (fun i=>[(1,.int .i64 (if 1 + sizeL (ks.take i)≤m then (m:Int) - (1 + sizeL (ks.take i):Nat) else -1)),(2,.pointer (some ⟨bx,0,none⟩)),(5,.int .i64 i)]) (fun i=>ks.length - i) 0 ?_ ?_ ?_
 ·exact ⟨Nat.zero_le _,L⟩
 ·simp (implicitDefEqProofs:=false) only [go_sem,sizeL,List.take_zero]
  split
  ·simp
  ·rename_i h
   have:m=0:=by omega
   subst this; rfl
 ·rintro i H3 ⟨hi,L⟩
  have ca:=L.cell 0 rfl
  obtain ⟨cur,hcur⟩:∃ cur,cur=if 1 + sizeL (ks.take i)≤m then (m:Int) - (1 + sizeL (ks.take i):Nat) else -1:=⟨_,rfl⟩
  rw [← hcur]
  rcases Nat.lt_or_ge i ks.length with hlt | hge
  ·have h0:(0:Int)≤(i:Int):=by omega
   have h1:(i:Int) < (ks.length:Int):=by omega
   have hs:=sizeL_take ks i hlt
   by_cases hc:1 + sizeL (ks.take i)≤m
   ·rw [if_pos hc] at hcur
    have hc0:(0:Int)≤cur:=by omega
    obtain ⟨cn,hcn⟩:∃ cn:Nat,cur=cn:=⟨cur.toNat,by omega⟩
    have hw:=wrap_at hlt hmx
    obtain ⟨b,o,c,k1,t1,n1,a1,kks,kv1,e1,e2,⟨q0,q1,q2,q3,q4⟩,hr⟩:=kid_at (hk.ext L.fr) i hlt
    cases e1
    simp only [Nat.add_zero] at q0
    have hsz:=sizeL_get ks i hlt
    simp only [sizeN] at hx
    have hcall:=ih ks[i] (by omega) (H:=H3) (m:=cn) (by omega) (e2 ▸ NA.mk hr)
    rw [← hcn] at hcall
    unfold sv at *
    simp (implicitDefEqProofs:=false) only [go_sem,h0,h1,hc0,ca,q0,q1,q2,q3,q4]
    refine hcall.mono ?_
    rintro v H4 ⟨rfl,hf⟩
    have L:=L.ext hf
    have hval:(if sizeN ks[i]≤cn then cur - sizeN ks[i] else -1)=if 1 + sizeL (ks.take (i + 1))≤m then (m:Int) - (1 + sizeL (ks.take (i + 1)):Nat) else -1:=by
     rw [hs]
     by_cases h:sizeN ks[i]≤cn
     ·rw [if_pos h,if_pos (by omega)]; omega
     ·rw [if_neg h,if_neg (by omega)]
    rw [hval]
    simp (implicitDefEqProofs:=false) only [go_sem,hw]
    refine loopK_intro (i + 1) ?_ ?_ ⟨by omega,L⟩
    ·show ks.length - (i + 1) < ks.length - i
     omega
    ·simp (implicitDefEqProofs:=false) only [go_sem,hw]
   ·rw [if_neg hc] at hcur
    have hfin:¬ (sizeN (.mk k t n a ks)≤m):=by
     have h2:=sizeL_le ks i
     simp only [sizeN]; omega
    rw [if_neg hfin]
    subst hcur
    simp (implicitDefEqProofs:=false) only [go_sem,h1,ca]
    exact L.fr
  ·have h1:¬ ((i:Int) < (ks.length:Int)):=by omega
   obtain rfl:i=ks.length:=by omega
   simp (implicitDefEqProofs:=false) only [go_sem,h1,ca]
   have e:cur=if sizeN (.mk k t n a ks)≤m then (m:Int) - sizeN (.mk k t n a ks) else -1:=by
    rw [hcur,sizeL_all]
    by_cases h:1 + sizeL ks≤m
    ·rw [if_pos h,if_pos (by simp only [sizeN]; omega)]; simp only [sizeN]; omega
    ·rw [if_neg h,if_neg (by simp only [sizeN]; omega)]
   rw [e]
   exact ⟨rfl,L.fr⟩
theorem small_ok (x:Nd) {H:Heap} {vx:Value} {m:Nat} (hm:m < 2^62) (hax:NA H x vx):HCalls Tryz.prog 10 #[vx,.int .i64 m] H fun v H'=>v= .bool (decide (sizeN x≤m))∧Fr [] H H':=by
 obtain ⟨k,t,n,a,ks⟩:=x
 obtain ⟨kv,rfl,hk⟩:=hax.open
 obtain ⟨aa,cc,rfl,hcc,hmx⟩:=kids_len hk
 refine calls_of_vc (args:=[_,_]) Tryz.func10 c10ok (Nat.le_of_ble_eq_true rfl) ?_
 have L:=L0 H
 simp (implicitDefEqProofs:=false) only [go_sem,c10]
 refine L.newP fun bx H1 L=>?_
 have ca:=L.cell 0 rfl
 have hcall:=room_ok _ (.mk k t n a ks) (Nat.le_refl _) (H:=H1) hm ((NA.mk hk).ext L.fr)
 simp (implicitDefEqProofs:=false) only [go_sem,ca]
 refine hcall.mono ?_
 rintro v H2 ⟨rfl,hf⟩
 have hF:=L.fr.trans hf
 by_cases h:sizeN (.mk k t n a ks)≤m
 ·rw [if_pos h]
  have h2:(0:Int)≤(m:Int) - sizeN (.mk k t n a ks):=by omega
  simp (implicitDefEqProofs:=false) only [go_sem,h,h2]
  exact hF
 ·rw [if_neg h]
  simp (implicitDefEqProofs:=false) only [go_sem,h]
  exact hF
end Go.Proofs.YtmhdkbmnpekpoaaGreatDoor
end
section
set_option linter.unusedSimpArgs false
set_option linter.unusedVariables false
set_option maxRecDepth 8000
namespace Go.Proofs.YtmhdkbmnpekpoaaGreatDoor
open Gx Go
def Nk (l:List Tk):Prop:=∀ t ∈ l,t.kind≠6
theorem Nk.more {ts:List Tk} {i j:Nat} (h:Nk (ts.take i)) (h':Nk ((ts.drop i).take j)):Nk (ts.take (i + j)):=by
 intro t ht
 rw [List.take_add] at ht
 rcases List.mem_append.1 ht with q | q
 ·exact h t q
 ·exact h' t q
theorem Nk.zero (ts:List Tk):Nk (ts.take 0):=by intro t ht; simp at ht
theorem Nk.one {ts:List Tk} (h:(hd ts).kind≠6):Nk (ts.take 1):=by
 cases ts with
 | nil=>intro t ht; simp at ht
 | cons t r=>intro t' ht; simp at ht; subst ht; exact h
def Wt {α:Type} (ts:List Tk):Except Flt (α × List Tk)→Prop
 | .error e=>∃ i,Nk (ts.take i)∧e.2=(hd (ts.drop i)).at_∧(e.1=2∨(e.1=6∧(hd (ts.drop i)).kind≠6))
 | .ok x=>∃ i,Nk (ts.take i)∧x.2=ts.drop i
def Wg {α:Type} (p:PP α):Prop:=∀ ts,Wt ts (p ts)
theorem Wt.drop {α:Type} {ts:List Tk} {i:Nat} {A:Except Flt (α × List Tk)} (h:Nk (ts.take i)) (hA:Wt (ts.drop i) A):Wt ts A:=by
 cases A with
 | error e=>
   obtain ⟨j,h1,h2,h3⟩:=hA
   rw [List.drop_drop] at h2 h3
   exact ⟨i + j,h.more h1,h2,h3⟩
 | ok x=>
   obtain ⟨j,h1,h2⟩:=hA
   rw [List.drop_drop] at h2
   exact ⟨i + j,h.more h1,h2⟩
theorem drop_one (ts:List Tk):ts.drop 1=ts.tail:=List.drop_one
theorem Wt.tl {α:Type} {ts:List Tk} {A:Except Flt (α × List Tk)} (h:(hd ts).kind≠6) (hA:Wt ts.tail A):Wt ts A:=
 Wt.drop (i:=1) (Nk.one h) (by rw [drop_one]; exact hA)
theorem Wt.bad {α:Type} {ts:List Tk}:Wt (α:=α) ts (.error (2,(hd ts).at_)):=⟨0,Nk.zero ts,rfl,.inl rfl⟩
theorem Wt.lim {α:Type} {ts:List Tk} (h:(hd ts).kind≠6):Wt (α:=α) ts (.error (6,(hd ts).at_)):=⟨0,Nk.zero ts,rfl,.inr ⟨rfl,h⟩⟩
theorem Wt.val {α:Type} {ts:List Tk} {a:α}:Wt ts (.ok (a,ts)):=⟨0,Nk.zero ts,rfl⟩
theorem Wt.one {α:Type} {ts:List Tk} {a:α} (h:(hd ts).kind≠6):Wt ts (.ok (a,ts.tail)):=⟨1,Nk.one h,(drop_one ts).symm⟩
theorem Wt.ite {α:Type} {c:Prop} [Decidable c] {ts:List Tk} {x y:Except Flt (α × List Tk)} (h1:c→Wt ts x) (h2:¬ c→Wt ts y):Wt ts (if c then x else y):=by
 by_cases h:c
 ·rw [if_pos h]; exact h1 h
 ·rw [if_neg h]; exact h2 h
theorem Wg.ret {α:Type} (a:α):Wg (ret a):=fun ts=>Wt.val
theorem Wt.bnd {α β:Type} {p:PP α} {f:α→PP β} {ts:List Tk} (h:Wt ts (p ts)) (hf:∀ a r,Wt r (f a r)):Wt ts (bd p f ts):=by
 cases e:p ts with
 | error e'=>rw [bd_err e]; rw [e] at h; exact h
 | ok x=>
   obtain ⟨a,r⟩:=x
   rw [bd_ok e]
   rw [e] at h
   obtain ⟨i,h1,h2⟩:=h
   simp only at h2
   subst h2
   exact Wt.drop h1 (hf a _)
theorem Wg.bnd {α β:Type} {p:PP α} {f:α→PP β} (h:Wg p) (hf:∀ a,Wg (f a)):Wg (bd p f):=fun ts=>(h ts).bnd fun a r=>hf a r
theorem Wg.bnd' {α β:Type} {p:PP α} {f:α→PP β} (h:Wg p) (hf:∀ a r,Wt r (f a r)):Wg (bd p f):=fun ts=>(h ts).bnd hf
theorem Wg.kind {α:Type} {p:PP α} (h:Wg p) (hl:Lt p) {ts r:List Tk} {a:α} (e:p ts= .ok (a,r)):(hd ts).kind≠6:=by
 have h1:=h ts
 have h2:=hl _ _ _ e
 rw [e] at h1
 obtain ⟨i,h3,h4⟩:=h1
 simp only at h4
 subst h4
 cases ts with
 | nil=>simp at h2
 | cons t ts=>
   cases i with
   | zero=>simp at h2
   | succ i=>exact h3 t (by simp)
theorem takeP_wg {k:Int} (hk:k≠6):Wg (takeP k):=fun ts=>by
 unfold takeP
 exact Wt.ite (fun h=>Wt.one (by rw [h]; exact hk)) fun _=>Wt.bad
theorem expP_wg (s:Bs):Wg (expP s):=fun ts=>by
 unfold expP
 exact Wt.ite (fun h=>Wt.one (isB_kind h)) fun _=>Wt.bad
theorem entP_wg {α β:Type} {lo:Option β} {s:Bs} {body:β→PP α} (h:∀ x,lo=some x→Wg (body x)):Wg (entP lo s body):=fun ts=>by
 unfold entP
 refine Wt.ite (fun e=>?_) fun _=>Wt.bad
 cases lo with
 | none=>exact Wt.lim (isB_kind e)
 | some x=>exact Wt.tl (isB_kind e) (h x rfl _)
theorem intP_wg:Wg intP:=fun ts=>by
 unfold intP
 exact Wt.ite (fun e=>Wt.tl (isB_kind e) (((takeP_wg (by decide)).bnd fun _=>Wg.ret _) _)) fun _=>((takeP_wg (by decide)).bnd fun _=>Wg.ret _) _
theorem namedP_wg (k:Int):Wg (namedP k):=(takeP_wg (by decide)).bnd fun _=>Wg.ret _
theorem quoteP_wg:Wg quoteP:=(takeP_wg (by decide)).bnd fun _=>Wg.ret _
theorem chainF_wg {op:PP Nd} {kd:Kd} (h:Wg op):∀ f n,Wg (chainF op kd f n)
 | 0,n=>Wg.ret n
 | f + 1,n=>fun ts=>by
   simp only [chainF]
   exact Wt.ite (fun e=>Wt.tl (isB_kind (opAt_isB e)) ((h.bnd fun m=>chainF_wg h f _) _)) fun _=>Wt.val
theorem chainP_wg {op:PP Nd} {kd:Kd} (h:Wg op):Wg (chainP op kd):=h.bnd' fun n r=>chainF_wg h _ n r
def LoWg (lo:Lo):Prop:=∀ x,lo=some x→Wg x.1∧Wg x.2
theorem postF_wg {lo:Lo} (hl:LoWg lo):∀ f n,Wg (postF lo f n)
 | 0,n=>Wg.ret n
 | f + 1,n=>fun ts=>by
   simp only [postF]
   exact Wt.ite (fun e=>Wt.tl (isB_kind e) (((takeP_wg (by decide)).bnd fun t=>postF_wg hl f _) _)) fun _=>
    Wt.ite (fun e=>entP_wg (fun x hx=>(hl x hx).1.bnd fun m=>(expP_wg _).bnd fun _=>postF_wg hl f _) _) fun _=>Wt.val
theorem commaP_wg:Wg commaP:=fun ts=>by
 unfold commaP
 exact Wt.ite (fun e=>Wt.one (isB_kind e)) fun _=>((expP_wg _).bnd fun _=>Wg.ret _) _
theorem argP_wg {e:PP Nd} (he:Wg e) (fn:Bs):Wg (argP e fn):=fun ts=>by
 unfold argP
 exact Wt.ite (fun _=>((takeP_wg (by decide)).bnd fun t=>(expP_wg _).bnd fun _=>he.bnd fun _=>Wg.ret _) _) fun _=>
  Wt.ite (fun _=>(he.bnd fun t=>(expP_wg _).bnd fun _=>he.bnd fun _=>Wg.ret _) _) fun _=>he _
theorem listF_wg {arg:PP Nd} (h:Wg arg):∀ f l,Wg (listF arg f l)
 | 0,l=>Wg.ret l
 | f + 1,l=>h.bnd fun a=>commaP_wg.bnd fun m=>by
   cases m
   ·exact Wg.ret _
   ·exact listF_wg h f _
theorem listP_wg {arg:PP Nd} (h:Wg arg):Wg (listP arg):=fun ts=>by
 unfold listP
 exact Wt.ite (fun e=>Wt.one (isB_kind e)) fun _=>listF_wg h _ _ _
section
variable {lo:Lo} (hl:LoWg lo)
include hl
theorem primP_wg:Wg (primP lo):=fun ts=>by
 unfold primP
 refine Wt.ite (fun _=>intP_wg _) fun _=>?_
 refine Wt.ite (fun _=>quoteP_wg _) fun _=>?_
 refine Wt.ite (fun _=>namedP_wg _ _) fun _=>?_
 refine Wt.ite (fun e=>Wt.one (isB_kind e)) fun _=>?_
 refine Wt.ite (fun e=>Wt.one (isB_kind e)) fun _=>?_
 refine Wt.ite (fun e=>Wt.one (isB_kind e)) fun _=>?_
 refine Wt.ite (fun e=>Wt.one (isB_kind e)) fun _=>?_
 refine Wt.ite (fun _=>entP_wg (fun x hx=>(hl x hx).1.bnd fun _=>(expP_wg _).bnd fun _=>Wg.ret _) _) fun _=>?_
 exact Wt.ite (fun e=>Wt.tl (by rw [e.1]; decide) (entP_wg (fun x hx=>(listP_wg (argP_wg (hl x hx).1 _)).bnd fun _=>Wg.ret _) _)) fun _=>Wt.bad
theorem postP_wg:Wg (postP lo):=(primP_wg hl).bnd' fun n r=>postF_wg hl _ n r
theorem sumP_wg:Wg (sumP lo):=chainP_wg (postP_wg hl)
theorem joinP_wg:Wg (joinP lo):=chainP_wg (sumP_wg hl)
theorem cmpP_wg:Wg (cmpP lo):=(joinP_wg hl).bnd' fun n r=>
 Wt.ite (fun e=>Wt.tl (isB_kind (opAt_isB e)) (((joinP_wg hl).bnd fun _=>Wg.ret _) _)) fun _=>Wt.val
theorem notP_wg:Wg (notP lo):=fun ts=>by
 unfold notP
 exact Wt.ite (fun _=>entP_wg (fun x hx=>(hl x hx).2.bnd fun _=>Wg.ret _) _) fun _=>cmpP_wg hl _
theorem andP_wg:Wg (andP lo):=chainP_wg (notP_wg hl)
theorem orP_wg:Wg (orP lo):=chainP_wg (andP_wg hl)
theorem exprP_wg:Wg (exprP lo):=fun ts=>by
 unfold exprP
 exact Wt.ite (fun _=>entP_wg (fun x hx=>(hl x hx).1.bnd fun _=>(expP_wg _).bnd fun _=>(hl x hx).1.bnd fun _=>(expP_wg _).bnd fun _=>(hl x hx).1.bnd fun _=>Wg.ret _) _) fun _=>orP_wg hl _
end
theorem lev_wg:∀ k,Wg (lev k).1∧Wg (lev k).2
 | 0=>by
   have h:LoWg none:=fun x hx=>by cases hx
   exact ⟨exprP_wg h,notP_wg h⟩
 | k + 1=>by
   have h:LoWg (some (lev k)):=fun x hx=>by
    cases hx; exact lev_wg k
   exact ⟨exprP_wg h,notP_wg h⟩
theorem loK_wg (k:Nat):LoWg (loK k):=by
 intro x hx
 cases k with
 | zero=>cases hx
 | succ k=>cases hx; exact lev_wg k
theorem quotesF_wg:∀ f l,Wg (quotesF f l)
 | 0,l=>Wg.ret l
 | f + 1,l=>fun ts=>by
   simp only [quotesF]
   exact Wt.ite (fun e=>Wt.tl (isB_kind e) ((quoteP_wg.bnd fun m=>quotesF_wg f _) _)) fun _=>Wt.val
theorem quotesP_wg:Wg quotesP:=quoteP_wg.bnd' fun n r=>quotesF_wg _ _ r
theorem allowedP_wg:Wg allowedP:=fun ts=>by
 unfold allowedP
 exact Wt.ite (fun e=>Wt.tl (isB_kind e) ((quotesP_wg.bnd fun _=>(expP_wg _).bnd fun _=>Wg.ret _) _)) fun _=>Wt.val
theorem twoP_wg {p:PP Nd} (h:Wg p):Wg (twoP p):=(expP_wg _).bnd fun _=>h.bnd fun _=>(expP_wg _).bnd fun _=>h.bnd fun _=>(expP_wg _).bnd fun _=>Wg.ret _
theorem optQ_wg:Wg optQ:=fun ts=>by
 unfold optQ
 exact Wt.ite (fun _=>quotesP_wg _) fun _=>Wt.val
theorem ruleP_wg:Wg ruleP:=fun ts=>by
 unfold ruleP
 exact (optQ_wg.bnd fun _=>(expP_wg _).bnd fun _=>quoteP_wg.bnd fun _=>Wg.ret _) _
theorem rulesF_wg:∀ f l,Wg (rulesF f l)
 | 0,l=>Wg.ret l
 | f + 1,l=>fun ts=>by
   simp only [rulesF]
   exact Wt.ite (fun e=>Wt.tl (isB_kind e) ((ruleP_wg.bnd fun m=>rulesF_wg f _) _)) fun _=>Wt.val
theorem closedP_wg:Wg closedP:=(expP_wg _).bnd fun _=>optQ_wg.bnd' fun l r=>((rulesF_wg _ l).bnd fun _=>(expP_wg _).bnd fun _=>Wg.ret _) r
theorem memP_wg {x:PP Nd} (h:Wg x):Wg (memP x):=(takeP_wg (by decide)).bnd fun _=>(expP_wg _).bnd fun _=>h.bnd fun _=>Wg.ret _
theorem memF_wg {x:PP Nd} (h:Wg x):∀ f l,Wg (memF x f l)
 | 0,l=>Wg.ret l
 | f + 1,l=>(memP_wg h).bnd' fun m r=>Wt.ite (fun e=>Wt.tl (isB_kind e) (memF_wg h f _ _)) fun _=>Wt.val
theorem memsP_wg {x:PP Nd} (h:Wg x):Wg (memsP x):=fun ts=>by
 unfold memsP
 exact ((memF_wg h _ _).bnd fun _=>(expP_wg _).bnd fun _=>Wg.ret _) _
theorem latP_wg {lo:LLo} (hl:∀ x,lo=some x→Wg x):Wg (latP lo):=fun ts=>by
 unfold latP
 refine Wt.ite (fun _=>namedP_wg _ _) fun _=>?_
 refine Wt.ite (fun e=>Wt.one (isB_kind e)) fun _=>?_
 refine Wt.ite (fun e=>Wt.one (isB_kind e)) fun _=>?_
 refine Wt.ite (fun e=>Wt.tl (isB_kind e) ((allowedP_wg.bnd fun _=>Wg.ret _) _)) fun _=>?_
 refine Wt.ite (fun e=>Wt.tl (isB_kind e) ((allowedP_wg.bnd fun _=>Wg.ret _) _)) fun _=>?_
 refine Wt.ite (fun _=>entP_wg (fun x hx=>allowedP_wg.bnd fun _=>(hl x hx).bnd fun _=>Wg.ret _) _) fun _=>?_
 refine Wt.ite (fun e=>Wt.tl (isB_kind e) (((twoP_wg intP_wg).bnd fun _=>Wg.ret _) _)) fun _=>?_
 refine Wt.ite (fun e=>Wt.tl (isB_kind e) (((twoP_wg intP_wg).bnd fun _=>Wg.ret _) _)) fun _=>?_
 refine Wt.ite (fun _=>entP_wg (fun x hx=>(twoP_wg (hl x hx)).bnd fun _=>Wg.ret _) _) fun _=>?_
 refine Wt.ite (fun _=>entP_wg (fun x hx=>(memsP_wg (hl x hx)).bnd fun _=>Wg.ret _) _) fun _=>?_
 exact Wt.ite (fun e=>Wt.tl (isB_kind e) ((closedP_wg.bnd fun _=>Wg.ret _) _)) fun _=>Wt.bad
theorem levL_wg:∀ k,Wg (levL k)
 | 0=>latP_wg fun x hx=>by cases hx
 | k + 1=>latP_wg fun x hx=>by cases hx; exact levL_wg k
theorem sortP_wg:Wg sortP:=fun ts=>by
 unfold sortP
 refine Wt.ite (fun e=>Wt.one (isB_kind e)) fun _=>?_
 refine Wt.ite (fun e=>Wt.one (isB_kind e)) fun _=>?_
 refine Wt.ite (fun e=>Wt.one (isB_kind e)) fun _=>?_
 exact Wt.ite (fun e=>Wt.one (isB_kind e)) fun _=>Wt.bad
theorem paramP_wg:Wg paramP:=(takeP_wg (by decide)).bnd fun _=>(expP_wg _).bnd fun _=>sortP_wg.bnd fun _=>Wg.ret _
theorem lev64_wg:Wg (exprP (loK 64)):=exprP_wg (loK_wg 64)
theorem colonP_wg (kind:Int):Wg (if kind=5 then bd (expP [58]) fun _=>sortP else ret 0):=by
 split
 ·exact (expP_wg _).bnd fun _=>sortP_wg
 ·exact Wg.ret _
theorem funcP_wg (a k:Int):Wg (funcP a k):=(takeP_wg (by decide)).bnd fun _=>(expP_wg _).bnd fun _=>(listP_wg paramP_wg).bnd fun _=>(expP_wg _).bnd fun _=>(namedP_wg _).bnd fun _=>(colonP_wg k).bnd fun _=>
 (expP_wg _).bnd fun _=>lev64_wg.bnd fun _=>(expP_wg _).bnd fun _=>Wg.ret _
theorem latD_wg (a k:Int) (s:Bs):Wg (latD a k s):=(takeP_wg (by decide)).bnd fun _=>(expP_wg _).bnd fun _=>(levL_wg 64).bnd fun _=>(expP_wg _).bnd fun _=>Wg.ret _
theorem declP_wg:Wg declP:=fun ts=>by
 unfold declP
 refine Wt.ite (fun e=>Wt.tl (isB_kind e) (latD_wg _ _ _ _)) fun _=>?_
 refine Wt.ite (fun e=>Wt.tl (isB_kind e) (latD_wg _ _ _ _)) fun _=>?_
 refine Wt.ite (fun e=>Wt.tl (isB_kind e) (funcP_wg _ _ _)) fun _=>?_
 exact Wt.ite (fun e=>Wt.tl (isB_kind e) (funcP_wg _ _ _)) fun _=>Wt.bad
theorem progF_wg:∀ f l,Wg (progF f l)
 | 0,l=>Wg.ret l
 | f + 1,l=>fun ts=>by
   simp only [progF]
   exact Wt.ite (fun _=>Wt.val) fun _=>(declP_wg.bnd fun d=>progF_wg f _) _
end Go.Proofs.YtmhdkbmnpekpoaaGreatDoor
end
section
set_option linter.unusedSimpArgs false
set_option linter.unusedVariables false
set_option maxRecDepth 8000
namespace Go.Proofs.YtmhdkbmnpekpoaaGreatDoor
open Gx Go
def tkE (a b:Tk):Prop:=a.kind=b.kind∧a.text=b.text∧a.n=b.n
theorem tkE.refl (a:Tk):tkE a a:=⟨rfl,rfl,rfl⟩
def clL:List Bs:=[[41],[108,97,116,116,105,99,101],[111,98,106,101,99,116],[117,112,100,97,116,101],[113,117,101,114,121]]
def isCl (t:Tk):Prop:=t.kind=6∨((t.kind=2∨t.kind=5)∧t.text ∈ clL)
def NdE (n n':Nd):Prop:=sameN n n'=true
def LsE (l l':List Nd):Prop:=l.length=l'.length∧sameL l l'=true
theorem ndE {k k' n n' a a':Int} {t t':Bs} {ks ks':List Nd} (h1:k=k') (h2:t=t') (h3:n=n') (h4:LsE ks ks'):NdE (.mk k t n a ks) (.mk k' t' n' a' ks'):=by
 unfold NdE
 simp only [sameN,h1,h2,h3,h4.1,h4.2,decide_true,Bool.and_self]
theorem LsE.nil:LsE [] []:=⟨rfl,by simp [sameL]⟩
theorem LsE.cons {n n':Nd} {l l':List Nd} (h:NdE n n') (h':LsE l l'):LsE (n :: l) (n' :: l'):=by
 refine ⟨by simp [h'.1],?_⟩
 unfold NdE at h
 simp only [sameL,h,h'.2,Bool.and_self]
theorem LsE.one {n n':Nd} (h:NdE n n'):LsE [n] [n']:=LsE.cons h LsE.nil
theorem LsE.two {n n' m m':Nd} (h:NdE n n') (h':NdE m m'):LsE [n,m] [n',m']:=LsE.cons h (LsE.one h')
theorem LsE.app:∀ {l l' m m':List Nd},LsE l l'→LsE m m'→LsE (l ++ m) (l' ++ m')
 | [],[],m,m',_,h=>h
 | x :: l,y :: l',m,m',h,h'=>by
   have h1:=h.1
   have h2:=h.2
   simp only [sameL,Bool.and_eq_true] at h2
   exact LsE.cons h2.1 (LsE.app (l:=l) (l':=l') ⟨by simpa using h1,h2.2⟩ h')
 | [],_ :: _,_,_,h,_=>by have:=h.1; simp at this
 | _ :: _,[],_,_,h,_=>by have:=h.1; simp at this
structure Md where
 W:List Tk
 W':List Tk
 S:Nat→Prop
 lim:Prop
 kx:Prop
 wild:Prop
structure Md.Ok (M:Md):Prop where
 sync:∀ i,M.S i→tkE (hd (M.W.drop i)) (hd (M.W'.drop i))∨(M.kx∧(hd (M.W.drop i)).kind=6∧isCl (hd (M.W'.drop i)))
 next:∀ i,M.S i→(hd (M.W.drop i)).kind≠6→M.S (i + 1)∨M.wild
 ne:∀ i,M.S i→Nk (M.W.take i)→M.W.drop i≠[]∧M.W'.drop i≠[]
def In (M:Md) (ts ts':List Tk):Prop:=∃ i,M.S i∧Nk (M.W.take i)∧ts=M.W.drop i∧ts'=M.W'.drop i
def Zn (M:Md) {α:Type} (A:Except Flt (α × List Tk)):Prop:=M.wild∧∃ i,¬ M.S i∧Nk (M.W.take i)∧Wt (M.W.drop i) A
def Ou (M:Md) {α:Type} (φ:α→α→Prop) (A B:Except Flt (α × List Tk)):Prop:=
 (M.lim∧∃ o,B= .error (6,o))∨Zn M A∨(match A with
  | .error e=>M.kx∨∃ ts ts',In M ts ts'∧e.2=(hd ts).at_∧B= .error (e.1,(hd ts').at_)
  | .ok x=>∃ n' r',B= .ok (n',r')∧φ x.1 n'∧In M x.2 r')
def Rl (M:Md) {α:Type} (φ:α→α→Prop) (p q:PP α):Prop:=∀ ts ts',In M ts ts'→Ou M φ (p ts) (q ts')
def LoR (M:Md) {β:Type} (R:β→β→Prop) (lo lo':Option β):Prop:=(∀ x',lo'=some x'→∃ x,lo=some x∧R x x')∧(lo'=none→lo=none∨M.lim)
section
variable {M:Md}
theorem Ou.bd {α β:Type} {p q:PP α} {f g:α→PP β} {φ:α→α→Prop} {ψ:β→β→Prop} {ts ts':List Tk} (h:Ou M φ (p ts) (q ts')) (hw:∀ a r,Wt r (f a r))
 (hf:∀ a a' r r',p ts= .ok (a,r)→q ts'= .ok (a',r')→φ a a'→In M r r'→Ou M ψ (f a r) (g a' r')):Ou M ψ (bd p f ts) (bd q g ts'):=by
 rcases h with ⟨hl,o,hB⟩ | ⟨hw',i,h1,h2,h3⟩ | h
 ·exact .inl ⟨hl,o,bd_err hB⟩
 ·exact .inr (.inl ⟨hw',i,h1,h2,by
   cases e:p ts with
   | error e'=>rw [bd_err e]; rw [e] at h3; exact h3
   | ok x=>
     obtain ⟨a,r⟩:=x
     rw [bd_ok e]
     rw [e] at h3
     obtain ⟨j,n1,n2⟩:=h3
     simp only at n2
     subst n2
     exact Wt.drop n1 (hw a _)⟩)
 ·cases e:p ts with
  | error e'=>
    rw [e] at h
    rw [bd_err e]
    rcases h with h | ⟨us,us',h1,h2,h3⟩
    ·exact .inr (.inr (.inl h))
    ·exact .inr (.inr (.inr ⟨us,us',h1,h2,bd_err h3⟩))
  | ok x=>
    obtain ⟨a,r⟩:=x
    rw [e] at h
    rw [bd_ok e]
    obtain ⟨a',r',h1,h2,h3⟩:=h
    rw [bd_ok h1]
    exact hf a a' r r' e h1 h2 h3
theorem Ou.err {α:Type} {φ:α→α→Prop} {ts ts':List Tk} {c:Int} (hi:In M ts ts'):Ou M φ (.error (c,(hd ts).at_)) (.error (c,(hd ts').at_)):=.inr (.inr (.inr ⟨ts,ts',hi,rfl,rfl⟩))
theorem Ou.kx {α:Type} {φ:α→α→Prop} {e:Flt} {B:Except Flt (α × List Tk)} (h:M.kx):Ou M φ (.error e) B:=.inr (.inr (.inl h))
theorem Ou.val {α:Type} {φ:α→α→Prop} {a a':α} {ts ts':List Tk} (hi:In M ts ts') (h:φ a a'):Ou M φ (.ok (a,ts)) (.ok (a',ts')):=.inr (.inr ⟨a',ts',rfl,h,hi⟩)
theorem Ou.ret {α:Type} {φ:α→α→Prop} {a a':α} {ts ts':List Tk} (hi:In M ts ts') (h:φ a a'):Ou M φ (ret a ts) (ret a' ts'):=Ou.val hi h
theorem Ou.ite {α:Type} {φ:α→α→Prop} {c c':Prop} [Decidable c] [Decidable c'] {x y x' y':Except Flt (α × List Tk)} (h:c'↔c) (h1:c→Ou M φ x x') (h2:¬ c→Ou M φ y y'):Ou M φ (if c then x else y) (if c' then x' else y'):=by
 by_cases e:c
 ·rw [if_pos e,if_pos (h.2 e)]; exact h1 e
 ·rw [if_neg e,if_neg (fun q=>e (h.1 q))]; exact h2 e
variable (hM:M.Ok)
include hM
theorem In.tl {ts ts':List Tk} (hi:In M ts ts') (hk:(hd ts).kind≠6):In M ts.tail ts'.tail∨(M.wild∧∃ i,¬ M.S i∧Nk (M.W.take i)∧ts.tail=M.W.drop i):=by
 obtain ⟨i,h1,h2,rfl,rfl⟩:=hi
 have e:∀ W:List Tk,(W.drop i).tail=W.drop (i + 1):=fun W=>by rw [← drop_one,List.drop_drop]
 have hn:Nk (M.W.take (i + 1)):=h2.more (Nk.one hk)
 by_cases hs:M.S (i + 1)
 ·exact .inl ⟨i + 1,hs,hn,e _,e _⟩
 ·rcases hM.next i h1 hk with h | h
  ·exact absurd h hs
  ·exact .inr ⟨h,i + 1,hs,hn,e _⟩
theorem Ou.tl {α:Type} {φ:α→α→Prop} {ts ts':List Tk} {A B:Except Flt (α × List Tk)} (hi:In M ts ts') (hk:(hd ts).kind≠6) (hw:Wt ts.tail A) (h:In M ts.tail ts'.tail→Ou M φ A B):Ou M φ A B:=by
 rcases hi.tl hM hk with q | ⟨q,i,h1,h2,h3⟩
 ·exact h q
 ·exact .inr (.inl ⟨q,i,h1,h2,by rw [← h3]; exact hw⟩)
theorem Ou.one {α:Type} {φ:α→α→Prop} {a a':α} {ts ts':List Tk} (hi:In M ts ts') (hk:(hd ts).kind≠6) (h:φ a a'):Ou M φ (.ok (a,ts.tail)) (.ok (a',ts'.tail)):=
 Ou.tl hM hi hk Wt.val fun hi'=>Ou.val hi' h
theorem In.both {ts ts':List Tk} (hi:In M ts ts'):tkE (hd ts) (hd ts')∨(M.kx∧(hd ts).kind=6∧isCl (hd ts')):=by
 obtain ⟨i,h1,h2,rfl,rfl⟩:=hi
 exact hM.sync i h1
theorem In.sync {ts ts':List Tk} (hi:In M ts ts') (hk:(hd ts).kind≠6):tkE (hd ts) (hd ts'):=by
 rcases hi.both hM with h | ⟨_,h,_⟩
 ·exact h
 ·exact absurd h hk
theorem In.len {ts ts':List Tk} (hi:In M ts ts'):0 < ts.length∧0 < ts'.length:=by
 obtain ⟨i,h1,h2,rfl,rfl⟩:=hi
 obtain ⟨h3,h4⟩:=hM.ne i h1 h2
 exact ⟨List.length_pos_iff.2 h3,List.length_pos_iff.2 h4⟩
omit hM in
theorem isB_iff {s:Bs} {ts:List Tk}:isB s ts=true↔((hd ts).kind=2∨(hd ts).kind=5)∧(hd ts).text=s:=by
 unfold isB
 simp only [Bool.and_eq_true,Bool.or_eq_true,decide_eq_true_eq]
theorem In.isB {ts ts':List Tk} (hi:In M ts ts') (s:Bs) (hs:s ∉ clL):isB s ts'=true↔isB s ts=true:=by
 rw [isB_iff,isB_iff]
 rcases hi.both hM with ⟨h1,h2,_⟩ | ⟨_,h,h'⟩
 ·rw [h1,h2]
 ·constructor
  ·rintro ⟨q1,q2⟩
   rcases h' with h' | h'
   ·omega
   ·rw [q2] at h'; exact absurd h'.2 hs
  ·rintro ⟨q1,q2⟩; omega
theorem In.kd {ts ts':List Tk} (hi:In M ts ts') (k:Int) (hk:k≠2∧k≠5∧k≠6):(hd ts').kind=k↔(hd ts).kind=k:=by
 rcases hi.both hM with ⟨h1,h2,_⟩ | ⟨_,h,h'⟩
 ·rw [h1]
 ·unfold isCl at h'
  omega
omit hM in
theorem opAt_iff {kd:Kd} {ts:List Tk}:opAt kd ts=true↔kdOf kd (hd ts).text≠0∧((hd ts).kind=2∨(hd ts).kind=5):=by
 unfold opAt
 rw [Bool.and_eq_true,isB_iff,decide_eq_true_eq]
 exact ⟨fun h=>⟨h.1,h.2.1⟩,fun h=>⟨h.1,h.2,rfl⟩⟩
theorem In.op {ts ts':List Tk} (hi:In M ts ts') {kd:Kd} (hk:∀ c ∈ clL,kdOf kd c=0):opAt kd ts'=true↔opAt kd ts=true:=by
 rw [opAt_iff,opAt_iff]
 rcases hi.both hM with ⟨h1,h2,_⟩ | ⟨_,h,h'⟩
 ·rw [h1,h2]
 ·constructor
  ·rintro ⟨q1,q2⟩
   rcases h' with h' | h'
   ·omega
   ·exact absurd (hk _ h'.2) q1
  ·rintro ⟨q1,q2⟩; omega
theorem In.fn {ts ts':List Tk} (hi:In M ts ts'):((hd ts').kind=2∧(hd ts').text ∈ fnList)↔((hd ts).kind=2∧(hd ts).text ∈ fnList):=by
 rcases hi.both hM with ⟨h1,h2,_⟩ | ⟨_,h,h'⟩
 ·rw [h1,h2]
 ·constructor
  ·rintro ⟨q1,q2⟩
   rcases h' with h' | h'
   ·omega
   ·have:∀ c ∈ clL,c ∉ fnList:=by decide
    exact absurd q2 (this _ h'.2)
  ·rintro ⟨q1,q2⟩; omega
theorem takeP_rl {k:Int} (hk:k≠2∧k≠5∧k≠6):Rl M tkE (takeP k) (takeP k):=fun ts ts' hi=>by
 unfold takeP
 refine Ou.ite (hi.kd hM k hk) (fun e=>?_) fun e=>Ou.err hi
 have h6:(hd ts).kind≠6:=by rw [e]; exact hk.2.2
 exact Ou.one hM hi h6 (hi.sync hM h6)
theorem expP_rl (s:Bs):Rl M (fun _ _=>True) (expP s) (expP s):=fun ts ts' hi=>by
 unfold expP
 rcases hi.both hM with h | ⟨h0,h,h'⟩
 ·have e:isB s ts'=true↔isB s ts=true:=by
   rw [isB_iff,isB_iff,h.1,h.2.1]
  exact Ou.ite e (fun e=>Ou.one hM hi (isB_kind e) trivial) fun e=>Ou.err hi
 ·rw [if_neg (fun e=>isB_kind e h)]
  exact Ou.kx h0
theorem entP_rl {α β:Type} {R:β→β→Prop} {lo lo':Option β} {s:Bs} {body body':β→PP α} {φ:α→α→Prop} (hlo:LoR M R lo lo') (hs:s ∉ clL) (hw:∀ x,lo=some x→Wg (body x))
 (hb:∀ x x',lo=some x→lo'=some x'→R x x'→Rl M φ (body x) (body' x')) {ts ts':List Tk} (hi:In M ts ts'):Ou M φ (entP lo s body ts) (entP lo' s body' ts'):=by
 unfold entP
 refine Ou.ite (hi.isB hM s hs) (fun e=>?_) fun e=>Ou.err hi
 cases e':lo' with
 | none=>
   rcases hlo.2 e' with h | h
   ·subst h; exact Ou.err hi
   ·exact .inl ⟨h,_,rfl⟩
 | some x'=>
   obtain ⟨x,rfl,hR⟩:=hlo.1 x' e'
   exact Ou.tl hM hi (isB_kind e) (hw x rfl _) fun hi'=>hb x x' rfl e' hR _ _ hi'
theorem intP_rl:Rl M NdE intP intP:=fun ts ts' hi=>by
 unfold intP
 refine Ou.ite (hi.isB hM _ (by decide)) (fun e=>?_) fun e=>?_
 ·exact Ou.tl hM hi (isB_kind e) (((takeP_wg (by decide)).bnd fun _=>Wg.ret _) _) fun hi'=>(takeP_rl hM (by decide) _ _ hi').bd (fun _=>Wg.ret _) fun t t' r r' _ _ ht hr=>Ou.ret hr (ndE rfl rfl (by rw [ht.2.2]) LsE.nil)
 ·exact (takeP_rl hM (by decide) _ _ hi).bd (fun _=>Wg.ret _) fun t t' r r' _ _ ht hr=>Ou.ret hr (ndE rfl rfl (by rw [ht.2.2]) LsE.nil)
theorem namedP_rl (k:Int):Rl M NdE (namedP k) (namedP k):=fun ts ts' hi=>(takeP_rl hM (by decide) _ _ hi).bd (fun _=>Wg.ret _) fun t t' r r' _ _ ht hr=>Ou.ret hr (ndE rfl ht.2.1 rfl LsE.nil)
theorem quoteP_rl:Rl M NdE quoteP quoteP:=fun ts ts' hi=>(takeP_rl hM (by decide) _ _ hi).bd (fun _=>Wg.ret _) fun t t' r r' _ _ ht hr=>Ou.ret hr (ndE rfl ht.2.1 rfl LsE.nil)
theorem chainF_rl {op op':PP Nd} {kd:Kd} (hkd:∀ c ∈ clL,kdOf kd c=0) (hw:Wg op) (h1:Dn op) (h2:Dn op') (h:Rl M NdE op op') :
 ∀ (f f':Nat) (n n':Nd) (ts ts':List Tk),ts.length≤f→ts'.length≤f'→NdE n n'→In M ts ts'→Ou M NdE (chainF op kd f n ts) (chainF op' kd f' n' ts')
 | 0,_,n,n',ts,ts',hf,_,_,hi=>by have:=(hi.len hM).1; omega
 | _ + 1,0,n,n',ts,ts',_,hf,_,hi=>by have:=(hi.len hM).2; omega
 | f + 1,f' + 1,n,n',ts,ts',hf,hf',hn,hi=>by
   simp only [chainF]
   refine Ou.ite (hi.op hM hkd) (fun e=>?_) fun e=>Ou.val hi hn
   have hs:=hi.sync hM (isB_kind (opAt_isB e))
   have l1:=tl_lt (opAt_isB e)
   have l2:=tl_lt (opAt_isB ((hi.op hM hkd).2 e))
   exact Ou.tl hM hi (isB_kind (opAt_isB e)) ((hw.bnd fun m=>chainF_wg hw f _) _) fun hi'=>(h _ _ hi').bd (fun _=>chainF_wg hw f _) fun m m' r r' e1 e2 hm hr=>by
    have:=h1.of e1
    have:=h2.of e2
    exact chainF_rl hkd hw h1 h2 h f f' _ _ r r' (by omega) (by omega) (ndE (by rw [hs.2.1]) rfl rfl (LsE.two hn hm)) hr
theorem chainP_rl {op op':PP Nd} {kd:Kd} (hkd:∀ c ∈ clL,kdOf kd c=0) (hw:Wg op) (h1:Dn op) (h2:Dn op') (h:Rl M NdE op op'):Rl M NdE (chainP op kd) (chainP op' kd):=fun ts ts' hi=>
 (h _ _ hi).bd (fun n r=>chainF_wg hw _ n r) fun n n' r r' e1 e2 hn hr=>chainF_rl hM hkd hw h1 h2 h _ _ n n' r r' (Nat.le_refl _) (Nat.le_refl _) hn hr
def ExR (M:Md) (x x':PP Nd × PP Nd):Prop:=Rl M NdE x.1 x'.1∧Rl M NdE x.2 x'.2
omit hM in
theorem loK_lt (k:Nat):∀ x,loK k=some x→Lt x.1∧Lt x.2:=by
 intro x hx
 cases k with
 | zero=>cases hx
 | succ k=>cases hx; exact lev_Lt k
variable {k k':Nat} (hlo:LoR M (ExR M) (loK k) (loK k'))
include hlo
theorem postF_rl:∀ (f f':Nat) (n n':Nd) (ts ts':List Tk),ts.length≤f→ts'.length≤f'→NdE n n'→In M ts ts'→Ou M NdE (postF (loK k) f n ts) (postF (loK k') f' n' ts')
 | 0,_,n,n',ts,ts',hf,_,_,hi=>by have:=(hi.len hM).1; omega
 | _ + 1,0,n,n',ts,ts',_,hf,_,hi=>by have:=(hi.len hM).2; omega
 | f + 1,f' + 1,n,n',ts,ts',hf,hf',hn,hi=>by
   simp only [postF]
   refine Ou.ite (hi.isB hM _ (by decide)) (fun e=>?_) fun e=>?_
   ·have l1:=tl_lt e
    have l2:=tl_lt ((hi.isB hM _ (by decide)).2 e)
    exact Ou.tl hM hi (isB_kind e) (((takeP_wg (by decide)).bnd fun t=>postF_wg (loK_wg k) f _) _) fun hi'=>(takeP_rl hM (by decide) _ _ hi').bd (fun _=>postF_wg (loK_wg k) f _) fun t t' r r' e1 e2 ht hr=>by
     have:=takeP_lt (by decide) e1
     have:=takeP_lt (by decide) e2
     exact postF_rl f f' _ _ r r' (by omega) (by omega) (ndE rfl ht.2.1 rfl (LsE.one hn)) hr
   refine Ou.ite (hi.isB hM _ (by decide)) (fun e2=>?_) fun e2=>Ou.val hi hn
   have l1:=tl_lt e2
   have l2:=tl_lt ((hi.isB hM _ (by decide)).2 e2)
   unfold entP
   rw [if_pos e2,if_pos ((hi.isB hM _ (by decide)).2 e2)]
   cases e':loK k' with
   | none=>
     rcases hlo.2 e' with h | h
     ·rw [h]; exact Ou.err hi
     ·exact .inl ⟨h,_,rfl⟩
   | some x'=>
     obtain ⟨x,ex,hR⟩:=hlo.1 x' e'
     rw [ex]
     have hwx:=(loK_wg k x ex).1
     refine Ou.tl hM hi (isB_kind e2) ((hwx.bnd fun m=>(expP_wg _).bnd fun _=>?_) _) fun hi'=>(hR.1 _ _ hi').bd (fun _=>(expP_wg _).bnd fun _=>?_) fun m m' r r' e3 e4 hm hr=>(expP_rl hM _ _ _ hr).bd (fun _=>?_) fun _ _ r2 r2' e5 e6 _ hr2=>?_
     ·rw [← ex]; exact postF_wg (loK_wg k) f _
     ·rw [← ex]; exact postF_wg (loK_wg k) f _
     ·rw [← ex]; exact postF_wg (loK_wg k) f _
     ·have:=(loK_dn k x ex).1.of e3
      have:=(loK_dn k' x' e').1.of e4
      have:=expP_lt e5
      have:=expP_lt e6
      have ih:=postF_rl f f' (.mk 43 [] 0 (hd ts).at_ [n,m]) (.mk 43 [] 0 (hd ts').at_ [n',m']) r2 r2' (by omega) (by omega) (ndE rfl rfl rfl (LsE.two hn hm)) hr2
      rw [ex,e'] at ih
      exact ih
omit hlo
theorem commaP_rl:Rl M (fun a b=>a=b) commaP commaP:=fun ts ts' hi=>by
 unfold commaP
 exact Ou.ite (hi.isB hM _ (by decide)) (fun e=>Ou.one hM hi (isB_kind e) rfl) fun e=>(expP_rl hM _ _ _ hi).bd (fun _=>Wg.ret _) fun _ _ r r' _ _ _ hr=>Ou.ret hr rfl
theorem argP_rl {e e':PP Nd} (hw:Wg e) (h:Rl M NdE e e') (fn:Bs):Rl M NdE (argP e fn) (argP e' fn):=fun ts ts' hi=>by
 unfold argP
 refine Ou.ite Iff.rfl (fun _=>?_) fun _=>Ou.ite Iff.rfl (fun _=>?_) fun _=>h _ _ hi
 ·exact (takeP_rl hM (by decide) _ _ hi).bd (fun _=>(expP_wg _).bnd fun _=>hw.bnd fun _=>Wg.ret _) fun t t' r r' _ _ ht hr=>(expP_rl hM _ _ _ hr).bd (fun _=>hw.bnd fun _=>Wg.ret _) fun _ _ r2 r2' _ _ _ hr2=>
   (h _ _ hr2).bd (fun _=>Wg.ret _) fun x x' r3 r3' _ _ hx hr3=>Ou.ret hr3 (ndE rfl ht.2.1 rfl (LsE.one hx))
 ·exact (h _ _ hi).bd (fun _=>(expP_wg _).bnd fun _=>hw.bnd fun _=>Wg.ret _) fun x x' r r' _ _ hx hr=>(expP_rl hM _ _ _ hr).bd (fun _=>hw.bnd fun _=>Wg.ret _) fun _ _ r2 r2' _ _ _ hr2=>
   (h _ _ hr2).bd (fun _=>Wg.ret _) fun y y' r3 r3' _ _ hy hr3=>Ou.ret hr3 (ndE rfl rfl rfl (LsE.two hx hy))
theorem listF_rl {arg arg':PP Nd} (hw:Wg arg) (h1:Lt arg) (h2:Lt arg') (h:Rl M NdE arg arg') :
 ∀ (f f':Nat) (l l':List Nd) (ts ts':List Tk),ts.length≤f→ts'.length≤f'→LsE l l'→In M ts ts'→Ou M LsE (listF arg f l ts) (listF arg' f' l' ts')
 | 0,_,n,n',ts,ts',hf,_,_,hi=>by have:=(hi.len hM).1; omega
 | _ + 1,0,n,n',ts,ts',_,hf,_,hi=>by have:=(hi.len hM).2; omega
 | f + 1,f' + 1,l,l',ts,ts',hf,hf',hn,hi=>by
   simp only [listF]
   have hwm:∀ (a:Nd) (m:Bool),Wg (if m=true then listF arg f (l ++ [a]) else Go.Proofs.YtmhdkbmnpekpoaaGreatDoor.ret (l ++ [a])):=fun a m=>by
    cases m
    ·exact Wg.ret _
    ·exact listF_wg hw f _
   refine (h _ _ hi).bd (fun a=>commaP_wg.bnd fun m=>hwm a m) fun a a' r r' e1 e2 ha hr=>(commaP_rl hM _ _ hr).bd (fun m=>hwm a m) fun m m' r2 r2' e3 e4 hm hr2=>?_
   have:=h1.of e1
   have:=h2.of e2
   have:=comma_lt' e3
   have:=comma_lt' e4
   subst hm
   cases m with
   | false=>exact Ou.ret hr2 (hn.app (LsE.one ha))
   | true=>exact listF_rl hw h1 h2 h f f' _ _ r2 r2' (by omega) (by omega) (hn.app (LsE.one ha)) hr2
theorem listP_rl {arg arg':PP Nd} (hw:Wg arg) (h1:Lt arg) (h2:Lt arg') (h:Rl M NdE arg arg'):Rl M LsE (listP arg) (listP arg'):=fun ts ts' hi=>by
 unfold listP
 rcases hi.both hM with hs | ⟨h0,h6,h'⟩
 ·have e:isB [41] ts'=true↔isB [41] ts=true:=by rw [isB_iff,isB_iff,hs.1,hs.2.1]
  exact Ou.ite e (fun e=>Ou.one hM hi (isB_kind e) LsE.nil) fun e=>listF_rl hM hw h1 h2 h _ _ _ _ ts ts' (Nat.le_refl _) (Nat.le_refl _) LsE.nil hi
 ·rw [if_neg (fun e=>isB_kind e h6)]
  have hpos:=(hi.len hM).1
  obtain ⟨f,hf⟩:∃ f,ts.length=f + 1:=⟨ts.length - 1,by omega⟩
  rw [hf,listF]
  cases e:arg ts with
  | error e'=>rw [bd_err e]; exact Ou.kx h0
  | ok x=>exact absurd h6 (hw.kind h1 e)
include hlo
theorem primP_rl:Rl M NdE (primP (loK k)) (primP (loK k')):=fun ts ts' hi=>by
 have nn:∀ {c:Int},NdE (.mk c [] 0 (hd ts).at_ []) (.mk c [] 0 (hd ts').at_ []):=ndE rfl rfl rfl LsE.nil
 unfold primP
 refine Ou.ite (or_congr (hi.kd hM 3 (by decide)) (hi.isB hM _ (by decide))) (fun _=>intP_rl hM _ _ hi) fun _=>?_
 refine Ou.ite (hi.kd hM 4 (by decide)) (fun _=>quoteP_rl hM _ _ hi) fun _=>?_
 refine Ou.ite (hi.kd hM 1 (by decide)) (fun _=>namedP_rl hM _ _ _ hi) fun _=>?_
 refine Ou.ite (hi.isB hM _ (by decide)) (fun e=>Ou.one hM hi (isB_kind e) nn) fun _=>?_
 refine Ou.ite (hi.isB hM _ (by decide)) (fun e=>Ou.one hM hi (isB_kind e) nn) fun _=>?_
 refine Ou.ite (hi.isB hM _ (by decide)) (fun e=>Ou.one hM hi (isB_kind e) nn) fun _=>?_
 refine Ou.ite (hi.isB hM _ (by decide)) (fun e=>Ou.one hM hi (isB_kind e) nn) fun _=>?_
 refine Ou.ite (hi.isB hM _ (by decide)) (fun e=>?_) fun _=>?_
 ·exact entP_rl hM hlo (by decide) (fun x hx=>(loK_wg k x hx).1.bnd fun _=>(expP_wg _).bnd fun _=>Wg.ret _) (fun x x' hx hx' hR us us' hi'=>(hR.1 _ _ hi').bd (fun _=>(expP_wg _).bnd fun _=>Wg.ret _) fun n n' r r' _ _ hn hr=>
   (expP_rl hM _ _ _ hr).bd (fun _=>Wg.ret _) fun _ _ r2 r2' _ _ _ hr2=>Ou.ret hr2 hn) hi
 refine Ou.ite (hi.fn hM) (fun e=>?_) fun _=>Ou.err hi
 have h6:(hd ts).kind≠6:=by rw [e.1]; decide
 have ht:=(hi.sync hM h6).2.1
 rw [← ht]
 refine Ou.tl hM hi h6 (entP_wg (fun x hx=>(listP_wg (argP_wg (loK_wg k x hx).1 _)).bnd fun _=>Wg.ret _) _) fun hi'=>?_
 exact entP_rl hM hlo (by decide) (fun x hx=>(listP_wg (argP_wg (loK_wg k x hx).1 _)).bnd fun _=>Wg.ret _) (fun x x' hx hx' hR us us' hi'=>
  (listP_rl hM (argP_wg (loK_wg k x hx).1 _) (argP_Lt (loK_lt k x hx).1 (loK_dn k x hx).1 _) (argP_Lt (loK_lt k' x' hx').1 (loK_dn k' x' hx').1 _) (argP_rl hM (loK_wg k x hx).1 hR.1 _) _ _ hi').bd (fun _=>Wg.ret _) fun l l' r r' _ _ hl hr=>Ou.ret hr (ndE rfl rfl rfl hl)) hi'
theorem postP_rl:Rl M NdE (postP (loK k)) (postP (loK k')):=fun ts ts' hi=>(primP_rl hM hlo _ _ hi).bd (fun n r=>postF_wg (loK_wg k) _ n r) fun n n' r r' _ _ hn hr=>
 postF_rl hM hlo _ _ n n' r r' (Nat.le_refl _) (Nat.le_refl _) hn hr
theorem sumP_rl:Rl M NdE (sumP (loK k)) (sumP (loK k')):=chainP_rl hM (by decide) (postP_wg (loK_wg k)) (postP_dn (loK_dn k)) (postP_dn (loK_dn k')) (postP_rl hM hlo)
theorem joinP_rl:Rl M NdE (joinP (loK k)) (joinP (loK k')):=chainP_rl hM (by decide) (sumP_wg (loK_wg k)) (sumP_dn (loK_dn k)) (sumP_dn (loK_dn k')) (sumP_rl hM hlo)
theorem cmpP_rl:Rl M NdE (cmpP (loK k)) (cmpP (loK k')):=fun ts ts' hi=>by
 have hj:=joinP_rl hM hlo
 have hw:=joinP_wg (loK_wg k)
 refine (hj _ _ hi).bd (fun n r=>Wt.ite (fun e=>Wt.tl (isB_kind (opAt_isB e)) ((hw.bnd fun _=>Wg.ret _) _)) fun _=>Wt.val) fun n n' r r' _ _ hn hr=>?_
 refine Ou.ite (hr.op hM (by decide)) (fun e=>?_) fun e=>Ou.val hr hn
 have hs:=hr.sync hM (isB_kind (opAt_isB e))
 exact Ou.tl hM hr (isB_kind (opAt_isB e)) ((hw.bnd fun _=>Wg.ret _) _) fun hi'=>(hj _ _ hi').bd (fun _=>Wg.ret _) fun m m' r2 r2' _ _ hm hr2=>Ou.ret hr2 (ndE (by rw [hs.2.1]) rfl rfl (LsE.two hn hm))
theorem notP_rl:Rl M NdE (notP (loK k)) (notP (loK k')):=fun ts ts' hi=>by
 unfold notP
 refine Ou.ite (hi.isB hM _ (by decide)) (fun e=>?_) fun e=>cmpP_rl hM hlo _ _ hi
 exact entP_rl hM hlo (by decide) (fun x hx=>(loK_wg k x hx).2.bnd fun _=>Wg.ret _) (fun x x' hx hx' hR us us' hi'=>(hR.2 _ _ hi').bd (fun _=>Wg.ret _) fun n n' r r' _ _ hn hr=>Ou.ret hr (ndE rfl rfl rfl (LsE.one hn))) hi
theorem andP_rl:Rl M NdE (andP (loK k)) (andP (loK k')):=chainP_rl hM (by decide) (notP_wg (loK_wg k)) (notP_dn (loK_dn k)) (notP_dn (loK_dn k')) (notP_rl hM hlo)
theorem orP_rl:Rl M NdE (orP (loK k)) (orP (loK k')):=chainP_rl hM (by decide) (andP_wg (loK_wg k)) (andP_dn (loK_dn k)) (andP_dn (loK_dn k')) (andP_rl hM hlo)
theorem exprP_rl:Rl M NdE (exprP (loK k)) (exprP (loK k')):=fun ts ts' hi=>by
 unfold exprP
 refine Ou.ite (hi.isB hM _ (by decide)) (fun e=>?_) fun e=>orP_rl hM hlo _ _ hi
 refine entP_rl hM hlo (by decide) (fun x hx=>?_) (fun x x' hx hx' hR us us' hi'=>?_) hi
 ·have hw:=(loK_wg k x hx).1
  exact hw.bnd fun _=>(expP_wg _).bnd fun _=>hw.bnd fun _=>(expP_wg _).bnd fun _=>hw.bnd fun _=>Wg.ret _
 ·have hw:=(loK_wg k x hx).1
  exact (hR.1 _ _ hi').bd (fun _=>(expP_wg _).bnd fun _=>hw.bnd fun _=>(expP_wg _).bnd fun _=>hw.bnd fun _=>Wg.ret _) fun a a' r r' _ _ ha hr=>
   (expP_rl hM _ _ _ hr).bd (fun _=>hw.bnd fun _=>(expP_wg _).bnd fun _=>hw.bnd fun _=>Wg.ret _) fun _ _ r r' _ _ _ hr=>
   (hR.1 _ _ hr).bd (fun _=>(expP_wg _).bnd fun _=>hw.bnd fun _=>Wg.ret _) fun b b' r r' _ _ hb hr=>
   (expP_rl hM _ _ _ hr).bd (fun _=>hw.bnd fun _=>Wg.ret _) fun _ _ r r' _ _ _ hr=>
   (hR.1 _ _ hr).bd (fun _=>Wg.ret _) fun c c' r r' _ _ hc hr=>Ou.ret hr (ndE rfl rfl rfl (LsE.cons ha (LsE.two hb hc)))
omit hlo
theorem lev_rl:∀ k:Nat,ExR M (lev k) (lev k)∧LoR M (ExR M) (loK k) (loK k):=by
 have key:∀ k,LoR M (ExR M) (loK k) (loK k)→ExR M (lev k) (lev k):=fun k h=>by
  rw [lev_eq]; exact ⟨exprP_rl hM h,notP_rl hM h⟩
 intro k
 induction k with
 | zero=>
   have h:LoR M (ExR M) (loK 0) (loK 0):=⟨fun x' h=>(by cases h),fun _=>.inl rfl⟩
   exact ⟨key 0 h,h⟩
 | succ k ih=>
   have h:LoR M (ExR M) (loK (k + 1)) (loK (k + 1)):=⟨fun x' h=>⟨x',h,by cases h; exact ih.1⟩,fun h=>by cases h⟩
   exact ⟨key _ h,h⟩
theorem expr_rl (k:Nat):Rl M NdE (exprP (loK k)) (exprP (loK k)):=exprP_rl hM (lev_rl hM k).2
theorem lev_less (hl:M.lim):∀ k:Nat,ExR M (lev (k + 1)) (lev k)∧LoR M (ExR M) (loK (k + 1)) (loK k):=by
 have key:∀ k,LoR M (ExR M) (loK (k + 1)) (loK k)→ExR M (lev (k + 1)) (lev k):=fun k h=>by
  rw [lev_eq,lev_eq]; exact ⟨exprP_rl hM h,notP_rl hM h⟩
 intro k
 induction k with
 | zero=>
   have h:LoR M (ExR M) (loK 1) (loK 0):=⟨fun x' h=>(by cases h),fun _=>.inr hl⟩
   exact ⟨key 0 h,h⟩
 | succ k ih=>
   have h:LoR M (ExR M) (loK (k + 2)) (loK (k + 1)):=⟨fun x' h=>⟨lev (k + 1),rfl,by cases h; exact ih.1⟩,fun h=>by cases h⟩
   exact ⟨key _ h,h⟩
theorem expr_less (hl:M.lim) (k:Nat):Rl M NdE (exprP (loK (k + 1))) (exprP (loK k)):=exprP_rl hM (lev_less hM hl k).2
end
end Go.Proofs.YtmhdkbmnpekpoaaGreatDoor
end
section
set_option linter.unusedSimpArgs false
set_option linter.unusedVariables false
set_option maxRecDepth 8000
namespace Go.Proofs.YtmhdkbmnpekpoaaGreatDoor
open Gx Go
section
variable {M:Md} (hM:M.Ok)
include hM
theorem quotesF_rl:∀ (f f':Nat) (l l':List Nd) (ts ts':List Tk),ts.length≤f→ts'.length≤f'→LsE l l'→In M ts ts'→Ou M LsE (quotesF f l ts) (quotesF f' l' ts')
 | 0,_,n,n',ts,ts',hf,_,_,hi=>by have:=(hi.len hM).1; omega
 | _ + 1,0,n,n',ts,ts',_,hf,_,hi=>by have:=(hi.len hM).2; omega
 | f + 1,f' + 1,l,l',ts,ts',hf,hf',hn,hi=>by
   simp only [quotesF]
   refine Ou.ite (hi.isB hM _ (by decide)) (fun e=>?_) fun e=>Ou.val hi hn
   have l1:=tl_lt e
   have l2:=tl_lt ((hi.isB hM _ (by decide)).2 e)
   exact Ou.tl hM hi (isB_kind e) ((quoteP_wg.bnd fun m=>quotesF_wg f _) _) fun hi'=>(quoteP_rl hM _ _ hi').bd (fun _=>quotesF_wg f _) fun q q' r r' e1 e2 hq hr=>by
    have:=quoteP_lt e1
    have:=quoteP_lt e2
    exact quotesF_rl f f' _ _ r r' (by omega) (by omega) (hn.app (LsE.one hq)) hr
theorem quotesP_rl:Rl M LsE quotesP quotesP:=fun ts ts' hi=>(quoteP_rl hM _ _ hi).bd (fun q r=>quotesF_wg _ _ r) fun q q' r r' _ _ hq hr=>
 quotesF_rl hM _ _ _ _ r r' (Nat.le_refl _) (Nat.le_refl _) (LsE.one hq) hr
theorem allowedP_rl:Rl M LsE allowedP allowedP:=fun ts ts' hi=>by
 unfold allowedP
 refine Ou.ite (hi.isB hM _ (by decide)) (fun e=>?_) fun e=>Ou.val hi LsE.nil
 exact Ou.tl hM hi (isB_kind e) ((quotesP_wg.bnd fun _=>(expP_wg _).bnd fun _=>Wg.ret _) _) fun hi'=>(quotesP_rl hM _ _ hi').bd (fun _=>(expP_wg _).bnd fun _=>Wg.ret _) fun l l' r r' _ _ hl hr=>
  (expP_rl hM _ _ _ hr).bd (fun _=>Wg.ret _) fun _ _ r2 r2' _ _ _ hr2=>Ou.ret hr2 hl
theorem twoP_rl {p p':PP Nd} (hw:Wg p) (h:Rl M NdE p p'):Rl M LsE (twoP p) (twoP p'):=fun ts ts' hi=>
 (expP_rl hM _ _ _ hi).bd (fun _=>hw.bnd fun _=>(expP_wg _).bnd fun _=>hw.bnd fun _=>(expP_wg _).bnd fun _=>Wg.ret _) fun _ _ r r' _ _ _ hr=>
 (h _ _ hr).bd (fun _=>(expP_wg _).bnd fun _=>hw.bnd fun _=>(expP_wg _).bnd fun _=>Wg.ret _) fun a a' r r' _ _ ha hr=>
 (expP_rl hM _ _ _ hr).bd (fun _=>hw.bnd fun _=>(expP_wg _).bnd fun _=>Wg.ret _) fun _ _ r r' _ _ _ hr=>
 (h _ _ hr).bd (fun _=>(expP_wg _).bnd fun _=>Wg.ret _) fun b b' r r' _ _ hb hr=>
 (expP_rl hM _ _ _ hr).bd (fun _=>Wg.ret _) fun _ _ r r' _ _ _ hr=>Ou.ret hr (LsE.two ha hb)
theorem optQ_rl:Rl M LsE optQ optQ:=fun ts ts' hi=>by
 unfold optQ
 exact Ou.ite (hi.kd hM 4 (by decide)) (fun _=>quotesP_rl hM _ _ hi) fun _=>Ou.val hi LsE.nil
theorem ruleP_rl:Rl M NdE ruleP ruleP:=fun ts ts' hi=>by
 unfold ruleP
 exact (optQ_rl hM _ _ hi).bd (fun _=>(expP_wg _).bnd fun _=>quoteP_wg.bnd fun _=>Wg.ret _) fun q q' r r' _ _ hq hr=>
  (expP_rl hM _ _ _ hr).bd (fun _=>quoteP_wg.bnd fun _=>Wg.ret _) fun _ _ r r' _ _ _ hr=>
  (quoteP_rl hM _ _ hr).bd (fun _=>Wg.ret _) fun c c' r r' _ _ hc hr=>Ou.ret hr (ndE rfl rfl rfl (hq.app (LsE.one hc)))
theorem rulesF_rl:∀ (f f':Nat) (l l':List Nd) (ts ts':List Tk),ts.length≤f→ts'.length≤f'→LsE l l'→In M ts ts'→Ou M LsE (rulesF f l ts) (rulesF f' l' ts')
 | 0,_,n,n',ts,ts',hf,_,_,hi=>by have:=(hi.len hM).1; omega
 | _ + 1,0,n,n',ts,ts',_,hf,_,hi=>by have:=(hi.len hM).2; omega
 | f + 1,f' + 1,l,l',ts,ts',hf,hf',hn,hi=>by
   simp only [rulesF]
   refine Ou.ite (hi.isB hM _ (by decide)) (fun e=>?_) fun e=>Ou.val hi hn
   have l1:=tl_lt e
   have l2:=tl_lt ((hi.isB hM _ (by decide)).2 e)
   exact Ou.tl hM hi (isB_kind e) ((ruleP_wg.bnd fun m=>rulesF_wg f _) _) fun hi'=>(ruleP_rl hM _ _ hi').bd (fun _=>rulesF_wg f _) fun q q' r r' e1 e2 hq hr=>by
    have:=ruleP_dn.of e1
    have:=ruleP_dn.of e2
    exact rulesF_rl f f' _ _ r r' (by omega) (by omega) (hn.app (LsE.one hq)) hr
theorem closedP_rl:Rl M LsE closedP closedP:=fun ts ts' hi=>by
 have hw:∀ (l:List Nd) (r:List Tk),Wt r (bd (rulesF r.length l) (fun l=>bd (expP [41]) fun _=>ret l) r):=fun l r=>((rulesF_wg _ l).bnd fun _=>(expP_wg _).bnd fun _=>Wg.ret _) r
 exact (expP_rl hM _ _ _ hi).bd (fun _=>optQ_wg.bnd' hw) fun _ _ r r' _ _ _ hr=>(optQ_rl hM _ _ hr).bd hw fun l l' r r' _ _ hl hr=>
  (rulesF_rl hM _ _ _ _ r r' (Nat.le_refl _) (Nat.le_refl _) hl hr).bd (fun _=>(expP_wg _).bnd fun _=>Wg.ret _) fun l l' r r' _ _ hl hr=>
  (expP_rl hM _ _ _ hr).bd (fun _=>Wg.ret _) fun _ _ r r' _ _ _ hr=>Ou.ret hr hl
theorem memP_rl {x x':PP Nd} (hw:Wg x) (h:Rl M NdE x x'):Rl M NdE (memP x) (memP x'):=fun ts ts' hi=>
 (takeP_rl hM (by decide) _ _ hi).bd (fun _=>(expP_wg _).bnd fun _=>hw.bnd fun _=>Wg.ret _) fun t t' r r' _ _ ht hr=>
 (expP_rl hM _ _ _ hr).bd (fun _=>hw.bnd fun _=>Wg.ret _) fun _ _ r r' _ _ _ hr=>
 (h _ _ hr).bd (fun _=>Wg.ret _) fun y y' r r' _ _ hy hr=>Ou.ret hr (ndE rfl ht.2.1 rfl (LsE.one hy))
theorem memF_rl {x x':PP Nd} (hw:Wg x) (h1:Dn x) (h2:Dn x') (h:Rl M NdE x x'):∀ (f f':Nat) (l l':List Nd) (ts ts':List Tk),ts.length≤f→ts'.length≤f'→LsE l l'→In M ts ts'→Ou M LsE (memF x f l ts) (memF x' f' l' ts')
 | 0,_,n,n',ts,ts',hf,_,_,hi=>by have:=(hi.len hM).1; omega
 | _ + 1,0,n,n',ts,ts',_,hf,_,hi=>by have:=(hi.len hM).2; omega
 | f + 1,f' + 1,l,l',ts,ts',hf,hf',hn,hi=>by
   simp only [memF]
   refine (memP_rl hM hw h _ _ hi).bd (fun m r=>Wt.ite (fun e=>Wt.tl (isB_kind e) (memF_wg hw f _ _)) fun _=>Wt.val) fun m m' r r' e1 e2 hm hr=>?_
   have:=(memP_Lt h1).of e1
   have:=(memP_Lt h2).of e2
   refine Ou.ite (hr.isB hM _ (by decide)) (fun e=>?_) fun e=>Ou.val hr (hn.app (LsE.one hm))
   have l1:=tl_lt e
   have l2:=tl_lt ((hr.isB hM _ (by decide)).2 e)
   exact Ou.tl hM hr (isB_kind e) (memF_wg hw f _ _) fun hi'=>memF_rl hw h1 h2 h f f' _ _ _ _ (by omega) (by omega) (hn.app (LsE.one hm)) hi'
theorem memsP_rl {x x':PP Nd} (hw:Wg x) (h1:Dn x) (h2:Dn x') (h:Rl M NdE x x'):Rl M LsE (memsP x) (memsP x'):=fun ts ts' hi=>by
 unfold memsP
 exact (memF_rl hM hw h1 h2 h _ _ _ _ ts ts' (Nat.le_succ _) (Nat.le_succ _) LsE.nil hi).bd (fun _=>(expP_wg _).bnd fun _=>Wg.ret _) fun l l' r r' _ _ hl hr=>
  (expP_rl hM _ _ _ hr).bd (fun _=>Wg.ret _) fun _ _ r r' _ _ _ hr=>Ou.ret hr hl
omit hM in
theorem loL_wg (k:Nat):∀ x,loL k=some x→Wg x:=by
 intro x hx
 cases k with
 | zero=>cases hx
 | succ k=>cases hx; exact levL_wg k
theorem latP_rl {k k':Nat} (hlo:LoR M (Rl M NdE) (loL k) (loL k')):Rl M NdE (latP (loL k)) (latP (loL k')):=fun ts ts' hi=>by
 have nn:∀ {c:Int} {l l':List Nd},LsE l l'→NdE (.mk c [] 0 (hd ts).at_ l) (.mk c [] 0 (hd ts').at_ l'):=fun h=>ndE rfl rfl rfl h
 unfold latP
 refine Ou.ite (hi.kd hM 1 (by decide)) (fun _=>namedP_rl hM _ _ _ hi) fun _=>?_
 refine Ou.ite (hi.isB hM _ (by decide)) (fun e=>Ou.one hM hi (isB_kind e) (nn LsE.nil)) fun _=>?_
 refine Ou.ite (hi.isB hM _ (by decide)) (fun e=>Ou.one hM hi (isB_kind e) (nn LsE.nil)) fun _=>?_
 refine Ou.ite (hi.isB hM _ (by decide)) (fun e=>Ou.tl hM hi (isB_kind e) ((allowedP_wg.bnd fun _=>Wg.ret _) _) fun hi'=>(allowedP_rl hM _ _ hi').bd (fun _=>Wg.ret _) fun l l' r r' _ _ hl hr=>Ou.ret hr (nn hl)) fun _=>?_
 refine Ou.ite (hi.isB hM _ (by decide)) (fun e=>Ou.tl hM hi (isB_kind e) ((allowedP_wg.bnd fun _=>Wg.ret _) _) fun hi'=>(allowedP_rl hM _ _ hi').bd (fun _=>Wg.ret _) fun l l' r r' _ _ hl hr=>Ou.ret hr (nn hl)) fun _=>?_
 refine Ou.ite (hi.isB hM _ (by decide)) (fun e=>?_) fun _=>?_
 ·exact entP_rl hM hlo (by decide) (fun x hx=>allowedP_wg.bnd fun _=>(loL_wg k x hx).bnd fun _=>Wg.ret _) (fun x x' hx hx' hR us us' hi'=>(allowedP_rl hM _ _ hi').bd (fun _=>(loL_wg k x hx).bnd fun _=>Wg.ret _) fun l l' r r' _ _ hl hr=>
   (hR _ _ hr).bd (fun _=>Wg.ret _) fun y y' r r' _ _ hy hr=>Ou.ret hr (nn (hl.app (LsE.one hy)))) hi
 refine Ou.ite (hi.isB hM _ (by decide)) (fun e=>Ou.tl hM hi (isB_kind e) (((twoP_wg intP_wg).bnd fun _=>Wg.ret _) _) fun hi'=>(twoP_rl hM intP_wg (intP_rl hM) _ _ hi').bd (fun _=>Wg.ret _) fun l l' r r' _ _ hl hr=>Ou.ret hr (nn hl)) fun _=>?_
 refine Ou.ite (hi.isB hM _ (by decide)) (fun e=>Ou.tl hM hi (isB_kind e) (((twoP_wg intP_wg).bnd fun _=>Wg.ret _) _) fun hi'=>(twoP_rl hM intP_wg (intP_rl hM) _ _ hi').bd (fun _=>Wg.ret _) fun l l' r r' _ _ hl hr=>Ou.ret hr (nn hl)) fun _=>?_
 refine Ou.ite (hi.isB hM _ (by decide)) (fun e=>?_) fun _=>?_
 ·exact entP_rl hM hlo (by decide) (fun x hx=>(twoP_wg (loL_wg k x hx)).bnd fun _=>Wg.ret _) (fun x x' hx hx' hR us us' hi'=>(twoP_rl hM (loL_wg k x hx) hR _ _ hi').bd (fun _=>Wg.ret _) fun l l' r r' _ _ hl hr=>Ou.ret hr (nn hl)) hi
 refine Ou.ite (hi.isB hM _ (by decide)) (fun e=>?_) fun _=>?_
 ·exact entP_rl hM hlo (by decide) (fun x hx=>(memsP_wg (loL_wg k x hx)).bnd fun _=>Wg.ret _) (fun x x' hx hx' hR us us' hi'=>(memsP_rl hM (loL_wg k x hx) (loL_dn k x hx) (loL_dn k' x' hx') hR _ _ hi').bd (fun _=>Wg.ret _) fun l l' r r' _ _ hl hr=>Ou.ret hr (nn hl)) hi
 exact Ou.ite (hi.isB hM _ (by decide)) (fun e=>Ou.tl hM hi (isB_kind e) ((closedP_wg.bnd fun _=>Wg.ret _) _) fun hi'=>(closedP_rl hM _ _ hi').bd (fun _=>Wg.ret _) fun l l' r r' _ _ hl hr=>Ou.ret hr (nn hl)) fun _=>Ou.err hi
theorem levL_rl:∀ k:Nat,Rl M NdE (levL k) (levL k)∧LoR M (Rl M NdE) (loL k) (loL k):=by
 have key:∀ k,LoR M (Rl M NdE) (loL k) (loL k)→Rl M NdE (levL k) (levL k):=fun k h=>by
  rw [levL_eq]; exact latP_rl hM h
 intro k
 induction k with
 | zero=>
   have h:LoR M (Rl M NdE) (loL 0) (loL 0):=⟨fun x' h=>(by cases h),fun _=>.inl rfl⟩
   exact ⟨key 0 h,h⟩
 | succ k ih=>
   have h:LoR M (Rl M NdE) (loL (k + 1)) (loL (k + 1)):=⟨fun x' h=>⟨x',h,by cases h; exact ih.1⟩,fun h=>by cases h⟩
   exact ⟨key _ h,h⟩
theorem levL_less (hl:M.lim):∀ k:Nat,Rl M NdE (levL (k + 1)) (levL k)∧LoR M (Rl M NdE) (loL (k + 1)) (loL k):=by
 have key:∀ k,LoR M (Rl M NdE) (loL (k + 1)) (loL k)→Rl M NdE (levL (k + 1)) (levL k):=fun k h=>by
  rw [levL_eq,levL_eq]; exact latP_rl hM h
 intro k
 induction k with
 | zero=>
   have h:LoR M (Rl M NdE) (loL 1) (loL 0):=⟨fun x' h=>(by cases h),fun _=>.inr hl⟩
   exact ⟨key 0 h,h⟩
 | succ k ih=>
   have h:LoR M (Rl M NdE) (loL (k + 2)) (loL (k + 1)):=⟨fun x' h=>⟨levL (k + 1),rfl,by cases h; exact ih.1⟩,fun h=>by cases h⟩
   exact ⟨key _ h,h⟩
theorem lat_less (hl:M.lim) (k:Nat):Rl M NdE (latP (loL (k + 1))) (latP (loL k)):=latP_rl hM (levL_less hM hl k).2
theorem sortP_rl:Rl M (fun a b=>a=b) sortP sortP:=fun ts ts' hi=>by
 unfold sortP
 refine Ou.ite (hi.isB hM _ (by decide)) (fun e=>Ou.one hM hi (isB_kind e) rfl) fun _=>?_
 refine Ou.ite (hi.isB hM _ (by decide)) (fun e=>Ou.one hM hi (isB_kind e) rfl) fun _=>?_
 refine Ou.ite (hi.isB hM _ (by decide)) (fun e=>Ou.one hM hi (isB_kind e) rfl) fun _=>?_
 exact Ou.ite (hi.isB hM _ (by decide)) (fun e=>Ou.one hM hi (isB_kind e) rfl) fun _=>Ou.err hi
theorem paramP_rl:Rl M NdE paramP paramP:=fun ts ts' hi=>
 (takeP_rl hM (by decide) _ _ hi).bd (fun _=>(expP_wg _).bnd fun _=>sortP_wg.bnd fun _=>Wg.ret _) fun t t' r r' _ _ ht hr=>
 (expP_rl hM _ _ _ hr).bd (fun _=>sortP_wg.bnd fun _=>Wg.ret _) fun _ _ r r' _ _ _ hr=>
 (sortP_rl hM _ _ hr).bd (fun _=>Wg.ret _) fun y y' r r' _ _ hy hr=>Ou.ret hr (ndE rfl ht.2.1 hy LsE.nil)
theorem colonP_rl (kind:Int):Rl M (fun a b=>a=b) (if kind=5 then bd (expP [58]) fun _=>sortP else ret 0) (if kind=5 then bd (expP [58]) fun _=>sortP else ret 0):=by
 split
 ·exact fun ts ts' hi=>(expP_rl hM _ _ _ hi).bd (fun _=>sortP_wg) fun _ _ r r' _ _ _ hr=>sortP_rl hM _ _ hr
 ·exact fun ts ts' hi=>Ou.ret hi rfl
theorem funcP_rl (a a' kind:Int):Rl M NdE (funcP a kind) (funcP a' kind):=fun ts ts' hi=>by
 have w1:∀ (t:Tk) (ps:List Nd) (o:Nd) (n:Int) (e:Nd),Wg (bd (expP [59]) fun _=>ret (Nd.mk kind t.text n a (ps ++ [o] ++ [e]))):=fun t ps o n e=>(expP_wg _).bnd fun _=>Wg.ret _
 have w2:=fun (t:Tk) (ps:List Nd) (o:Nd) (n:Int)=>lev64_wg.bnd fun e=>w1 t ps o n e
 have w3:=fun (t:Tk) (ps:List Nd) (o:Nd) (n:Int)=>(expP_wg [61]).bnd fun _=>w2 t ps o n
 have w4:=fun (t:Tk) (ps:List Nd) (o:Nd)=>(colonP_wg kind).bnd fun n=>w3 t ps o n
 have w5:=fun (t:Tk) (ps:List Nd)=>(namedP_wg 48).bnd fun o=>w4 t ps o
 have w6:=fun (t:Tk) (ps:List Nd)=>(expP_wg [111,110]).bnd fun _=>w5 t ps
 have w7:=fun (t:Tk)=>(listP_wg paramP_wg).bnd fun ps=>w6 t ps
 have w8:=fun (t:Tk)=>(expP_wg [40]).bnd fun _=>w7 t
 exact (takeP_rl hM (by decide) _ _ hi).bd (fun t=>w8 t) fun t t' r r' _ _ ht hr=>
  (expP_rl hM _ _ _ hr).bd (fun _=>w7 t) fun _ _ r r' _ _ _ hr=>
  (listP_rl hM paramP_wg paramP_Lt paramP_Lt (paramP_rl hM) _ _ hr).bd (fun ps=>w6 t ps) fun ps ps' r r' _ _ hps hr=>
  (expP_rl hM _ _ _ hr).bd (fun _=>w5 t ps) fun _ _ r r' _ _ _ hr=>
  (namedP_rl hM _ _ _ hr).bd (fun o=>w4 t ps o) fun o o' r r' _ _ ho hr=>
  (colonP_rl hM kind _ _ hr).bd (fun n=>w3 t ps o n) fun n n' r r' _ _ hn hr=>
  (expP_rl hM _ _ _ hr).bd (fun _=>w2 t ps o n) fun _ _ r r' _ _ _ hr=>
  (expr_rl hM 64 _ _ hr).bd (fun e=>w1 t ps o n e) fun e e' r r' _ _ he hr=>
  (expP_rl hM _ _ _ hr).bd (fun _=>Wg.ret _) fun _ _ r r' _ _ _ hr=>Ou.ret hr (ndE rfl ht.2.1 hn ((hps.app (LsE.one ho)).app (LsE.one he)))
theorem latD_rl (a a' kind:Int) (s:Bs):Rl M NdE (latD a kind s) (latD a' kind s):=fun ts ts' hi=>
 (takeP_rl hM (by decide) _ _ hi).bd (fun _=>(expP_wg _).bnd fun _=>(levL_wg 64).bnd fun _=>(expP_wg _).bnd fun _=>Wg.ret _) fun t t' r r' _ _ ht hr=>
 (expP_rl hM _ _ _ hr).bd (fun _=>(levL_wg 64).bnd fun _=>(expP_wg _).bnd fun _=>Wg.ret _) fun _ _ r r' _ _ _ hr=>
 ((levL_rl hM 64).1 _ _ hr).bd (fun _=>(expP_wg _).bnd fun _=>Wg.ret _) fun x x' r r' _ _ hx hr=>
 (expP_rl hM _ _ _ hr).bd (fun _=>Wg.ret _) fun _ _ r r' _ _ _ hr=>Ou.ret hr (ndE rfl ht.2.1 rfl (LsE.one hx))
omit hM in
theorem declP_end {ts:List Tk} (h:(hd ts).kind=6):declP ts= .error (2,(hd ts).at_):=by
 have n:∀ s,¬ isB s ts=true:=fun s e=>isB_kind e h
 unfold declP
 rw [if_neg (n _),if_neg (n _),if_neg (n _),if_neg (n _)]
theorem declP_rl:Rl M NdE declP declP:=fun ts ts' hi=>by
 rcases hi.both hM with hs | ⟨h0,h6,h'⟩
 ·have e:∀ s,isB s ts'=true↔isB s ts=true:=fun s=>by rw [isB_iff,isB_iff,hs.1,hs.2.1]
  unfold declP
  refine Ou.ite (e _) (fun e=>Ou.tl hM hi (isB_kind e) (latD_wg _ _ _ _) fun hi'=>latD_rl hM _ _ _ _ _ _ hi') fun _=>?_
  refine Ou.ite (e _) (fun e=>Ou.tl hM hi (isB_kind e) (latD_wg _ _ _ _) fun hi'=>latD_rl hM _ _ _ _ _ _ hi') fun _=>?_
  refine Ou.ite (e _) (fun e=>Ou.tl hM hi (isB_kind e) (funcP_wg _ _ _) fun hi'=>funcP_rl hM _ _ _ _ _ hi') fun _=>?_
  exact Ou.ite (e _) (fun e=>Ou.tl hM hi (isB_kind e) (funcP_wg _ _ _) fun hi'=>funcP_rl hM _ _ _ _ _ hi') fun _=>Ou.err hi
 ·rw [declP_end h6]; exact Ou.kx h0
theorem progF_rl (hk:¬ M.kx):∀ (f f':Nat) (l l':List Nd) (ts ts':List Tk),ts.length≤f→ts'.length≤f'→LsE l l'→In M ts ts'→Ou M LsE (progF f l ts) (progF f' l' ts')
 | 0,_,n,n',ts,ts',hf,_,_,hi=>by have:=(hi.len hM).1; omega
 | _ + 1,0,n,n',ts,ts',_,hf,_,hi=>by have:=(hi.len hM).2; omega
 | f + 1,f' + 1,l,l',ts,ts',hf,hf',hn,hi=>by
   simp only [progF]
   have hs:tkE (hd ts) (hd ts'):=by
    rcases hi.both hM with h | ⟨h,_⟩
    ·exact h
    ·exact absurd h hk
   have hl:=hi.len hM
   refine Ou.ite (by rw [hs.1]) (fun _=>Ou.val hi hn) fun _=>(declP_rl hM _ _ hi).bd (fun d=>progF_wg f _) fun d d' r r' e1 e2 hd hr=>?_
   have:=declP_lt e1 (List.length_pos_iff.1 hl.1)
   have:=declP_lt e2 (List.length_pos_iff.1 hl.2)
   exact progF_rl hk f f' _ _ r r' (by omega) (by omega) (hn.app (LsE.one hd)) hr
theorem progP_rl (hk:¬ M.kx):Rl M NdE progP progP:=fun ts ts' hi=>by
 unfold progP
 exact (progF_rl hM hk _ _ _ _ ts ts' (Nat.le_succ _) (Nat.le_succ _) LsE.nil hi).bd (fun _=>Wg.ret _) fun l l' r r' _ _ hl hr=>Ou.ret hr (ndE rfl rfl rfl hl)
end
end Go.Proofs.YtmhdkbmnpekpoaaGreatDoor
end
section
set_option linter.unusedSimpArgs false
set_option linter.unusedVariables false
set_option maxRecDepth 8000
namespace Go.Proofs.YtmhdkbmnpekpoaaGreatDoor
open Gx Go
def tkEq (o:Bool) (x y:Tk):Bool:=decide (x.kind=y.kind) && (decide (x.text=y.text) && (decide (x.n=y.n) && (!o || decide (x.at_=y.at_))))
def sameT (o:Bool):List Tk→List Tk→Bool
 | [],[]=>true
 | x :: xs,y :: ys=>tkEq o x y && sameT o xs ys
 | _,_=>false
theorem sameT_len {o:Bool}:∀ {a b:List Tk},sameT o a b=true→a.length=b.length
 | [],[],_=>rfl
 | x :: xs,y :: ys,h=>by
   simp only [sameT,Bool.and_eq_true] at h
   simp [sameT_len h.2]
 | [],_ :: _,h=>by simp [sameT] at h
 | _ :: _,[],h=>by simp [sameT] at h
def spT (t:Tk):Bs:=if t.kind=3 then Lib.itoa t.n else if t.kind=4 then 39 :: (t.text ++ [39]) else if t.kind=6 then [] else t.text
def poB (t:Tk):Bool:=
 (decide (t.kind=3) || decide (t.n=0)) && (if t.kind=1 then validN t.text && !kwB t.text else if t.kind=2 then kwB t.text else if t.kind=3 then decide (t.text=[]) && (decide (0≤t.n) && decide (t.n≤1000000000000000))
  else if t.kind=4 then validN t.text else if t.kind=5 then signB t.text else if t.kind=6 then decide (t.text=[]) else false)
end Go.Proofs.YtmhdkbmnpekpoaaGreatDoor
end
section
set_option linter.unusedSimpArgs false
set_option linter.unusedVariables false
set_option maxRecDepth 8000
namespace Go.Proofs.YtmhdkbmnpekpoaaGreatDoor
open Gx Go
theorem nDigits_le:∀ (k u:Nat),u < 10 ^ (k + 1)→Lib.nDigits u≤k + 1
 | 0,u,h=>by rw [Lib.nDigits_small (by simpa using h)]; exact Nat.le_refl _
 | k + 1,u,h=>by
   by_cases hu:u < 10
   ·rw [Lib.nDigits_small hu]; omega
   ·rw [Lib.nDigits_big hu]
    have:=nDigits_le k (u / 10) (by rw [Nat.pow_succ] at h; omega)
    omega
theorem valid_len {s:Bs} (h:validN s=true):s.length≤16:=by
 unfold validN at h
 simp only [Bool.and_eq_true,decide_eq_true_eq] at h
 exact h.2.1
end Go.Proofs.YtmhdkbmnpekpoaaGreatDoor
end
section
set_option linter.unusedSimpArgs false
set_option linter.unusedVariables false
set_option maxRecDepth 8000
namespace Go.Proofs.YtmhdkbmnpekpoaaGreatDoor
open Gx Go
theorem dd_small {n:Nat} (h:n < 10):Lib.decDigits n=[UInt8.ofNat (48 + n)]:=by rw [Lib.decDigits,dif_pos h]
theorem dd_big {n:Nat} (h:¬ n < 10):Lib.decDigits n=Lib.decDigits (n / 10) ++ Lib.decDigits (n % 10):=by
 rw [Lib.decDigits,dif_neg h,dd_small (n:=n % 10) (by omega)]
theorem itoa_nat (u:Nat):Lib.itoa (u:Int)=Lib.decDigits u:=by
 unfold Lib.itoa; rw [if_neg (by omega)]; simp
theorem numF_snoc (c:UInt8) (v:Bs):∀ (a:Nat),numF a (v ++ [c])=10 * numF a v + (c.toNat - 48):=by
 induction v with
 | nil=>intro a; rfl
 | cons d v ih=>
   intro a
   have e1:numF a (d :: v ++ [c])=numF (10 * a + (d.toNat - 48)) (v ++ [c]):=rfl
   have e2:numF a (d :: v)=numF (10 * a + (d.toNat - 48)) v:=rfl
   rw [e1,e2,ih]
theorem spT_int (n a:Int):spT ⟨3,[],n,a⟩=Lib.itoa n:=rfl
theorem poB_sign (t:Bs) (a:Int):poB ⟨5,t,0,a⟩=signB t:=by simp [poB]
theorem digB_iff (c:UInt8):digB c=true↔48≤c.toNat∧c.toNat≤57:=by
 simp only [digB,Bool.and_eq_true,decide_eq_true_eq]; omega
theorem dig_byte {c:UInt8} (h:digB c=true):UInt8.ofNat (48 + (c.toNat - 48))=c:=by
 rw [digB_iff] at h
 apply UInt8.toNat_inj.1
 rw [UInt8.toNat_ofNat']
 omega
theorem snoc_ind {P:Bs→Prop} (h0:P []) (h1:∀ v c,P v→P (v ++ [c])) (w:Bs):P w:=by
 have:∀ n (w:Bs),w.length=n→P w:=by
  intro n
  induction n with
  | zero=>intro w h; rw [List.eq_nil_of_length_eq_zero h]; exact h0
  | succ n ih=>
    intro w h
    have hne:w≠[]:=fun e=>by rw [e] at h; cases h
    rw [← List.dropLast_concat_getLast hne]
    exact h1 _ _ (ih _ (by rw [List.length_dropLast]; omega))
 exact this _ w rfl
theorem dd_num (w:Bs):w.all digB=true→w≠[]→w.getD 0 0≠48→Lib.decDigits (numL w)=w∧1≤numL w:=by
 refine snoc_ind (P:=fun w=>w.all digB=true→w≠[]→w.getD 0 0≠48→Lib.decDigits (numL w)=w∧1≤numL w) (fun _ h=>absurd rfl h) ?_ w
 intro v c ih hall _ hh
 rw [List.all_append,Bool.and_eq_true] at hall
 have hc:digB c=true:=by simpa using hall.2
 have hc':=(digB_iff c).1 hc
 have hn:numL (v ++ [c])=10 * numL v + (c.toNat - 48):=numF_snoc c v 0
 cases v with
 | nil=>
   have hne:c≠48:=hh
   have h48:c.toNat≠48:=fun e=>hne (UInt8.toNat_inj.1 (by rw [e]; decide))
   have e0:numL ([]:Bs)=0:=rfl
   rw [hn,e0]
   refine ⟨?_,by omega⟩
   rw [show 10 * 0 + (c.toNat - 48)=c.toNat - 48 by omega,dd_small (by omega),dig_byte hc]; rfl
 | cons d v'=>
   obtain ⟨h1,h2⟩:=ih hall.1 (by simp) hh
   generalize numL (d :: v')=u at *
   rw [hn]
   refine ⟨?_,by omega⟩
   rw [dd_big (by omega),show (10 * u + (c.toNat - 48)) / 10=u by omega,show (10 * u + (c.toNat - 48)) % 10=c.toNat - 48 by omega,h1,dd_small (by omega),dig_byte hc]
theorem dd_dig (n:Nat):(Lib.decDigits n).all digB=true∧numL (Lib.decDigits n)=n∧Lib.decDigits n≠[]∧(1 < (Lib.decDigits n).length→(Lib.decDigits n).getD 0 0≠48):=by
 induction n using Nat.strongRecOn with
 | _ n ih=>
   have hsm:∀ k,k < 10→digB (UInt8.ofNat (48 + k))=true∧(UInt8.ofNat (48 + k)).toNat - 48=k∧(1≤k→UInt8.ofNat (48 + k)≠48):=by decide
   by_cases h:n < 10
   ·rw [dd_small h]
    obtain ⟨a,b,_⟩:=hsm n h
    refine ⟨by rw [List.all_cons,a]; rfl,?_,by simp,by simp⟩
    show 10 * 0 + ((UInt8.ofNat (48 + n)).toNat - 48)=n
    omega
   ·obtain ⟨i1,i2,i3,i4⟩:=ih (n / 10) (by omega)
    obtain ⟨a,b,_⟩:=hsm (n % 10) (by omega)
    rw [dd_big h,dd_small (n:=n % 10) (by omega)]
    refine ⟨by rw [List.all_append,i1,List.all_cons,a]; rfl,?_,by simp,fun _=>?_⟩
    ·show numF 0 _=n
     rw [numF_snoc]
     have:numF 0 (Lib.decDigits (n / 10))=n / 10:=i2
     rw [this,b]; omega
    ·cases e:Lib.decDigits (n / 10) with
     | nil=>exact absurd e i3
     | cons c v=>
       rw [e] at i2 i4
       show c≠48
       cases v with
       | nil=>
         intro hc
         subst hc
         have:numL [48]=0:=by decide
         omega
       | cons d v'=>exact i4 (by simp)
theorem letB_part {c:UInt8} (h:letB c=true):partB c=true:=by simp [partB,h]
theorem takeWhile_all (p:UInt8→Bool) (w:Bs) (h:w.all p=true):w.takeWhile p=w:=by
 induction w with
 | nil=>rfl
 | cons c r ih=>
   rw [List.all_cons,Bool.and_eq_true] at h
   rw [List.takeWhile_cons,if_pos h.1,ih h.2]
theorem tokS_spell {s:Bs} {k n:Int} {t:Bs} {m:Nat} (h:tokS s= .ok k t n m) (h6:k≠6) (a:Int) :
 poB ⟨k,t,n,a⟩=true∧m=(spT ⟨k,t,n,a⟩).length∧s.take m=spT ⟨k,t,n,a⟩:=by
 cases s with
 | nil=>simp only [tokS,TR.ok.injEq] at h; exact absurd h.1.symm h6
 | cons c r=>
   simp only [tokS] at h
   split at h
   ·rename_i hc
    have htw:=take_twN partB (c :: r)
    unfold twN at htw
    have hall:((c :: r).takeWhile partB).all partB=true:=List.all_takeWhile
    have hhd:((c :: r).takeWhile partB).getD 0 0=c:=by rw [List.takeWhile_cons,if_pos (letB_part hc)]; rfl
    have hpos:0 < ((c :: r).takeWhile partB).length:=by rw [List.takeWhile_cons,if_pos (letB_part hc)]; simp
    generalize (c :: r).takeWhile partB=w at *
    unfold tokW at h
    split at h
    ·cases h
    ·rename_i h16
     simp only [TR.ok.injEq] at h
     obtain ⟨h1,rfl,rfl,rfl⟩:=h
     have hv:validN w=true:=by
      unfold validN
      rw [hall,hhd,hc]
      simp; omega
     cases ek:kwB w
     ·rw [ek] at h1
      obtain rfl:(1:Int)=k:=h1
      exact ⟨by simp [poB,hv,ek],rfl,htw⟩
     ·rw [ek] at h1
      obtain rfl:(2:Int)=k:=h1
      exact ⟨by simp [poB,ek],rfl,htw⟩
   ·split at h
    ·rename_i _ hc
     have htw:=take_twN digB (c :: r)
     unfold twN at htw
     have hall:((c :: r).takeWhile digB).all digB=true:=List.all_takeWhile
     have hne:(c :: r).takeWhile digB≠[]:=by rw [List.takeWhile_cons,if_pos hc]; simp
     generalize (c :: r).takeWhile digB=w at *
     unfold tokD at h
     split at h
     ·cases h
     ·rename_i hlead
      split at h
      ·cases h
      ·rename_i hmax
       simp only [TR.ok.injEq] at h
       obtain ⟨rfl,rfl,rfl,rfl⟩:=h
       have hdd:Lib.decDigits (numL w)=w:=by
        by_cases h48:w.getD 0 0=48
        ·match w,hne,hlead,h48 with
         | [d],_,_,h48=>
           obtain rfl:d=48:=h48
           show Lib.decDigits 0=_
           rw [dd_small (by decide)]; rfl
         | d :: e :: v,_,hlead,h48=>exact absurd ⟨by simp,h48⟩ hlead
        ·exact (dd_num w hall hne h48).1
       have hsp:spT ⟨3,[],(numL w:Int),a⟩=w:=by
        rw [spT_int,itoa_nat,hdd]
       rw [hsp]
       refine ⟨?_,rfl,htw⟩
       simp [poB]; omega
    ·split at h
     ·rename_i hq
      have htw:=take_twN partB r
      have hdw:=drop_twN partB r
      unfold twN at htw hdw
      unfold tokQ at h
      split at h
      ·cases h
      ·rename_i hne
       split at h
       ·rename_i hv
        simp only [TR.ok.injEq] at h
        obtain ⟨rfl,rfl,rfl,rfl⟩:=h
        have hc39:c=39:=by
         apply UInt8.toNat_inj.1
         have:(UInt8.toNat 39)=39:=by decide
         omega
        generalize hw:r.takeWhile partB=w at *
        cases hd:r.dropWhile partB with
        | nil=>exact absurd (.inl hd) hne
        | cons d u=>
          have hd39:d=39:=by
           by_cases hx:d=39
           ·exact hx
           ·exact absurd (.inr (by rw [hd]; simpa using hx)) hne
          subst hd39 hc39
          have hr:r=w ++ 39 :: u:=by
           rw [← hd,← hw]; exact List.takeWhile_append_dropWhile.symm
          refine ⟨by simp [poB,hv],by simp [spT],?_⟩
          show (39 :: r).take (w.length + 2)=39 :: (w ++ [39])
          rw [List.take_succ_cons,hr,show w ++ 39 :: u=(w ++ [39]) ++ u by simp,show w.length + 1=(w ++ [39]).length by simp,List.take_left]
       ·cases h
     ·unfold tokG at h
      split at h
      ·rename_i h2
       simp only [TR.ok.injEq] at h
       obtain ⟨rfl,rfl,rfl,rfl⟩:=h
       refine ⟨by rw [poB_sign]; exact h2.2,?_,rfl⟩
       show 2=((c :: r).take 2).length
       rw [List.length_take]; omega
      ·split at h
       ·rename_i h1
        simp only [TR.ok.injEq] at h
        obtain ⟨rfl,rfl,rfl,rfl⟩:=h
        refine ⟨by rw [poB_sign]; exact h1,?_,rfl⟩
        show 1=((c :: r).take 1).length
        simp
       ·cases h
end Go.Proofs.YtmhdkbmnpekpoaaGreatDoor
end
section
set_option linter.unusedSimpArgs false
set_option linter.unusedVariables false
set_option maxRecDepth 8000
namespace Go.Proofs.YtmhdkbmnpekpoaaGreatDoor
open Gx Go
theorem lexF_step (f:Nat) (s:Bs) (o:Nat):lexF (f + 1) s o=match tokS (s.drop (skB false s)) with
 | .bad e=>.bad e (o + skB false s)
 | .ok k t n m=>if k=6 then .ok [⟨k,t,n,(o + skB false s:Nat)⟩] else LR.cons ⟨k,t,n,(o + skB false s:Nat)⟩ (lexF f (s.drop (skB false s + m)) (o + skB false s + m)):=rfl
theorem end_nil {s:Bs} {k n:Int} {t:Bs} {m:Nat} (h:tokS s= .ok k t n m):k=6↔s=[]:=by
 obtain ⟨h1,h2,h3⟩:=tokS_len h
 exact ⟨fun h6=>by
  by_cases e:s=[]
  ·exact e
  ·exact absurd h6 (h2 e).2,h3⟩
theorem end_val {k n:Int} {t:Bs} {m:Nat} (h:tokS []= .ok k t n m):k=6∧t=[]∧n=0∧m=0:=by
 simp only [tokS,TR.ok.injEq] at h
 obtain ⟨rfl,rfl,rfl,rfl⟩:=h
 exact ⟨rfl,rfl,rfl,rfl⟩
def chainT (e:Nat):Bs→Nat→List Tk→Prop
 | _,_,[]=>False
 | s,o,t :: r=>(r=[]∧t=⟨6,[],0,(e:Int)⟩∧e=o + s.length)∨
  (poB t=true∧t.kind≠6∧∃ q:Nat,q + (spT t).length≤s.length∧t.at_=(o + q:Nat)∧1≤(spT t).length∧(s.drop q).take (spT t).length=spT t∧chainT e (s.drop (q + (spT t).length)) (o + q + (spT t).length) r)
theorem lexF_chain:∀ (f:Nat) (s:Bs) (o:Nat) (ts:List Tk),s.length < f→lexF f s o= .ok ts→chainT (o + s.length) s o ts
 | 0,s,o,ts,h,_=>by omega
 | f + 1,s,o,ts,hf,h=>by
   rw [lexF_step] at h
   have hk:=skB_le false s
   cases e:tokS (s.drop (skB false s)) with
   | bad c=>rw [e] at h; cases h
   | ok k t n m=>
     rw [e] at h
     obtain ⟨l1,l2,l3⟩:=tokS_len e
     simp only at h
     split at h
     ·rename_i h6
      have hnil:=(end_nil e).1 h6
      rw [hnil] at e
      obtain ⟨_,rfl,rfl,_⟩:=end_val e
      cases h
      have hlen:s.length≤skB false s:=by
       have:=congrArg List.length hnil
       simp only [List.length_drop,List.length_nil] at this
       omega
      refine .inl ⟨rfl,?_,rfl⟩
      have:skB false s=s.length:=by omega
      rw [this,h6]
     ·rename_i h6
      obtain ⟨p1,p2,p3⟩:=tokS_spell e h6 (o + skB false s:Nat)
      have hne:s.drop (skB false s)≠[]:=fun q=>h6 (l3 q)
      obtain ⟨hm,_⟩:=l2 hne
      simp only [List.length_drop] at l1
      cases er:lexF f (s.drop (skB false s + m)) (o + skB false s + m) with
      | bad c q=>rw [er] at h; cases h
      | ok r=>
        rw [er] at h
        have h':LR.ok (⟨k,t,n,(o + skB false s:Nat)⟩ :: r)=LR.ok ts:=h
        cases h'
        have ih:=lexF_chain f _ _ r (by simp only [List.length_drop]; omega) er
        have hlen:o + skB false s + m + (s.drop (skB false s + m)).length=o + s.length:=by simp only [List.length_drop]; omega
        rw [hlen] at ih
        rw [p2] at ih hm p3
        refine .inr ⟨p1,h6,skB false s,by rw [← p2]; omega,rfl,hm,p3,ih⟩
end Go.Proofs.YtmhdkbmnpekpoaaGreatDoor
end
section
set_option linter.unusedSimpArgs false
set_option linter.unusedVariables false
set_option maxRecDepth 8000
namespace Go.Proofs.YtmhdkbmnpekpoaaGreatDoor
open Gx Go
theorem spT_tok {t:Tk} (h:poB t=true) (h6:t.kind≠6):tokS (spT t)= .ok t.kind t.text t.n (spT t).length:=by
 have hkw:∀ g ∈ kwList,validN g=true:=by decide
 have hsg:∀ g ∈ signList,tokS g= .ok 5 g 0 g.length:=by decide
 have word:∀ w:Bs,validN w=true→tokS w= .ok (if kwB w then 2 else 1) w 0 w.length:=by
  intro w hv
  unfold validN at hv
  simp only [Bool.and_eq_true,decide_eq_true_eq] at hv
  obtain ⟨v1,v2,v3,v4⟩:=hv
  cases w with
  | nil=>simp at v1
  | cons c r=>
    have hc:letB c=true:=v3
    simp only [tokS,hc,if_true]
    rw [takeWhile_all partB _ v4]
    unfold tokW
    rw [if_neg (by omega)]
 obtain ⟨k,tx,n,a⟩:=t
 have hp:=h
 unfold poB at hp
 simp only [Bool.and_eq_true,Bool.or_eq_true,decide_eq_true_eq] at hp h6
 obtain ⟨hn,hp⟩:=hp
 by_cases k1:k=1
 ·subst k1
  simp only [if_true,Bool.and_eq_true,Bool.not_eq_true'] at hp
  have hn0:n=0:=by omega
  subst hn0
  show tokS tx=_
  rw [word tx hp.1,hp.2]; rfl
 rw [if_neg k1] at hp
 by_cases k2:k=2
 ·subst k2
  rw [if_pos rfl] at hp
  have hn0:n=0:=by omega
  subst hn0
  show tokS tx=_
  have hv:=hkw tx (by unfold kwB at hp; simpa using hp)
  rw [word tx hv,hp]; rfl
 rw [if_neg k2] at hp
 by_cases k3:k=3
 ·subst k3
  simp only [if_true,Bool.and_eq_true,decide_eq_true_eq] at hp
  obtain ⟨rfl,h0,h1⟩:=hp
  obtain ⟨u,rfl⟩:∃ u:Nat,n=u:=⟨n.toNat,by omega⟩
  have hsp:spT ⟨3,[],(u:Int),a⟩=Lib.decDigits u:=by
   rw [spT_int,itoa_nat]
  rw [hsp]
  obtain ⟨d1,d2,d3,d4⟩:=dd_dig u
  show tokS (Lib.decDigits u)= .ok 3 [] (u:Int) _
  generalize Lib.decDigits u=w at *
  cases w with
  | nil=>exact absurd rfl d3
  | cons c r=>
    have hc:digB c=true:=by rw [List.all_cons,Bool.and_eq_true] at d1; exact d1.1
    have hl:letB c=false:=by
     rw [digB_iff] at hc
     simp [letB]; omega
    simp only [tokS,hl,hc,Bool.false_eq_true,if_false,if_true]
    rw [takeWhile_all digB _ d1]
    unfold tokD
    rw [if_neg (fun q=>d4 q.1 q.2),if_neg (by rw [d2]; omega),d2]
 rw [if_neg k3] at hp
 have hn0:n=0:=by omega
 subst hn0
 by_cases k4:k=4
 ·subst k4
  rw [if_pos rfl] at hp
  show tokS (39 :: (tx ++ [39]))= .ok 4 tx 0 (39 :: (tx ++ [39])).length
  have hv:=hp
  unfold validN at hv
  simp only [Bool.and_eq_true,decide_eq_true_eq] at hv
  have hall:∀ x ∈ tx,partB x=true:=List.all_eq_true.1 hv.2.2.2
  have a1:letB 39=false:=by decide
  have a2:digB 39=false:=by decide
  have a3:((UInt8.toNat 39:Nat):Int)=39:=by decide
  simp only [tokS,a1,a2,a3,Bool.false_eq_true,if_false,if_true]
  have e1:(tx ++ [39]).takeWhile partB=tx:=by
   rw [List.takeWhile_append_of_pos hall]
   have:([39]:Bs).takeWhile partB=[]:=by decide
   rw [this]; simp
  have e2:(tx ++ [39]).dropWhile partB=[39]:=by
   rw [List.dropWhile_append_of_pos hall]; decide
  rw [e1,e2]
  unfold tokQ
  rw [if_neg (by simp),if_pos hp]
  simp
 rw [if_neg k4] at hp
 by_cases k5:k=5
 ·subst k5
  rw [if_pos rfl] at hp
  show tokS tx=_
  rw [hsg tx (by unfold signB at hp; simpa using hp)]
  rfl
 ·rw [if_neg k5,if_neg h6] at hp
  cases hp
theorem spT_head {t:Tk} (h:poB t=true) (h6:t.kind≠6) (s:Bs):spT t≠[]∧skB false (spT t ++ s)=0:=by
 have ht:=spT_tok h h6
 have hlen:=tokS_len ht
 have hne:spT t≠[]:=fun e=>h6 (hlen.2.2 e)
 refine ⟨hne,?_⟩
 cases e:spT t with
 | nil=>exact absurd e hne
 | cons c r=>
   rw [e] at ht
   rw [List.cons_append]
   refine skB_other ?_ ?_ _
   ·cases hb:blankB c
    ·rfl
    ·exfalso
     obtain ⟨b1,b2,b3⟩:=blank_not hb
     have hq:¬ (c.toNat:Int)=39:=by
      simp only [blankB,Bool.or_eq_true,decide_eq_true_eq] at hb; omega
     simp only [tokS,b1,b2,hq,Bool.false_eq_true,if_false] at ht
     have hs:∀ x:UInt8,blankB x=true→∀ g ∈ signList,g.getD 0 0≠x:=by
      intro x hx g hg e
      simp only [blankB,Bool.or_eq_true,decide_eq_true_eq] at hx
      have:∀ g ∈ signList,¬ blankB (g.getD 0 0)=true:=by decide
      exact this g hg (by rw [e]; simp only [blankB,Bool.or_eq_true,decide_eq_true_eq]; exact hx)
     unfold tokG at ht
     split at ht
     ·rename_i h2
      have:=h2.2
      unfold signB at this
      rw [decide_eq_true_eq] at this
      exact hs c hb _ this rfl
     ·split at ht
      ·rename_i h2
       unfold signB at h2
       rw [decide_eq_true_eq] at h2
       exact hs c hb _ h2 rfl
      ·cases ht
   ·intro hh
    have b1:letB c=false:=by simp [letB]; omega
    have b2:digB c=false:=by simp [digB]; omega
    have hq:¬ (c.toNat:Int)=39:=by omega
    simp only [tokS,b1,b2,hq,Bool.false_eq_true,if_false] at ht
    have:∀ g ∈ signList,(g.getD 0 0).toNat≠35:=by decide
    unfold tokG at ht
    split at ht
    ·rename_i h2
     have h3:=h2.2
     unfold signB at h3
     rw [decide_eq_true_eq] at h3
     exact this _ h3 (by show c.toNat=35; omega)
    ·split at ht
     ·rename_i h2
      unfold signB at h2
      rw [decide_eq_true_eq] at h2
      exact this _ h2 (by show c.toNat=35; omega)
     ·cases ht
theorem lexF_one {t:Tk} (h:poB t=true) (h6:t.kind≠6) {s:Bs} (hs:s=[]∨∃ y,s=32 :: y) (f:Nat) (o:Nat) :
 lexF (f + 1) (spT t ++ s) o=LR.cons ⟨t.kind,t.text,t.n,(o:Int)⟩ (lexF f s (o + (spT t).length)):=by
 obtain ⟨hne,hsk⟩:=spT_head h h6 s
 have ht:=spT_tok h h6
 have htok:tokS (spT t ++ s)= .ok t.kind t.text t.n (spT t).length:=by
  have h0:tokS (spT t ++ [])= .ok t.kind t.text t.n (spT t).length:=by rw [List.append_nil]; exact ht
  refine tokS_behind h0 hne ?_
  rcases hs with rfl | ⟨y,rfl⟩
  ·exact .inl rfl
  ·exact .inr (.inr ⟨by show blankB 32=true; decide,by simp⟩)
 rw [lexF_step,hsk,List.drop_zero,htok]
 simp only
 rw [if_neg h6,Nat.zero_add,List.drop_left,Nat.add_zero]
end Go.Proofs.YtmhdkbmnpekpoaaGreatDoor
end
section
set_option linter.unusedSimpArgs false
set_option linter.unusedVariables false
set_option maxRecDepth 8000
namespace Go.Proofs.YtmhdkbmnpekpoaaGreatDoor
open Gx Go
theorem tkEq_iff {x y:Tk}:tkEq false x y=true↔tkE x y:=by
 unfold tkE
 simp only [tkEq,Bool.and_eq_true,decide_eq_true_eq,Bool.not_false,Bool.true_or,and_true]
theorem sameT_cons {x y:Tk} {a b:List Tk} (h:tkE x y) (h':sameT false a b=true):sameT false (x :: a) (y :: b)=true:=by
 simp only [sameT,Bool.and_eq_true]
 exact ⟨tkEq_iff.2 h,h'⟩
theorem sameT_hd:∀ {a b:List Tk} (i:Nat),sameT false a b=true→tkE (hd (a.drop i)) (hd (b.drop i))
 | [],[],i,_=>by simp [tkE]
 | x :: a,y :: b,0,h=>by
   simp only [sameT,Bool.and_eq_true] at h
   exact tkEq_iff.1 h.1
 | x :: a,y :: b,i + 1,h=>by
   simp only [sameT,Bool.and_eq_true] at h
   exact sameT_hd i h.2
 | [],_ :: _,_,h=>by simp [sameT] at h
 | _ :: _,[],_,h=>by simp [sameT] at h
def Lx (s:Bs) (T:List Tk):Prop:=∀ o,∃ T',lexF (s.length + 1) s o= .ok T'∧sameT false T' T=true
def eT:Tk:=⟨6,[],0,0⟩
def opT:Tk:=⟨5,[40],0,0⟩
def clT:Tk:=⟨5,[41],0,0⟩
theorem Lx.at {s:Bs} {T:List Tk} (h:Lx s T) {f:Nat} (hf:s.length < f) (o:Nat):∃ T',lexF f s o= .ok T'∧sameT false T' T=true:=by
 obtain ⟨T',h1,h2⟩:=h o
 exact ⟨T',by rw [lexF_fuel f (s.length + 1) s o hf (by omega)]; exact h1,h2⟩
theorem Lx.lexT {s:Bs} {T:List Tk} (h:Lx s T) (hl:s.length≤65536):∃ T',lexT s= .ok T'∧sameT false T' T=true:=by
 unfold Go.Proofs.YtmhdkbmnpekpoaaGreatDoor.lexT lexA
 rw [if_neg (by omega),List.drop_zero]
 exact h 0
theorem Lx.nil:Lx [] [eT]:=fun o=>⟨[⟨6,[],0,(o:Int)⟩],rfl,sameT_cons ⟨rfl,rfl,rfl⟩ rfl⟩
theorem Lx.sign {c:UInt8} (h:c=40∨c=41) {s:Bs} {T:List Tk} (hs:Lx s T):Lx (c :: s) (⟨5,[c],0,0⟩ :: T):=fun o=>by
 obtain ⟨T',h1,h2⟩:=hs (o + 1)
 have hsk:skB false (c :: s)=0:=by rcases h with rfl | rfl <;> rfl
 have ht:tokS (c :: s)= .ok 5 [c] 0 1:=by
  have hl:letB c=false:=by rcases h with rfl | rfl <;> decide
  have hd:digB c=false:=by rcases h with rfl | rfl <;> decide
  have hq:¬ (c.toNat:Int)=39:=by rcases h with rfl | rfl <;> decide
  have hg:signB [c]=true:=by rcases h with rfl | rfl <;> decide
  have hg2:∀ d,signB [c,d]=false:=by
   intro d
   unfold signB
   rcases h with rfl | rfl <;> simp [signList]
  simp only [tokS,hl,hd,hq,Bool.false_eq_true,if_false]
  unfold tokG
  cases s with
  | nil=>simp [hg]
  | cons d s=>simp [hg,hg2]
 rw [List.length_cons,lexF_step,hsk,List.drop_zero,ht]
 simp only
 rw [if_neg (by decide),Nat.zero_add,Nat.add_zero]
 have e1:(c :: s).drop 1=s:=rfl
 rw [e1,h1]
 exact ⟨_,rfl,sameT_cons ⟨rfl,rfl,rfl⟩ h2⟩
theorem Lx.open {s:Bs} {T:List Tk} (hs:Lx s T):Lx (40 :: s) (opT :: T):=Lx.sign (.inl rfl) hs
theorem Lx.close {s:Bs} {T:List Tk} (hs:Lx s T):Lx (41 :: s) (clT :: T):=Lx.sign (.inr rfl) hs
theorem lexF_bl {c:UInt8} (h:blankB c=true) (f:Nat) (x:Bs) (o:Nat):lexF (f + 1) (c :: x) o=lexF (f + 1) x (o + 1):=by
 rw [lexF_step,lexF_step]
 have h:skB false (c :: x)=skB false x + 1:=by
  simp only [skB]; rw [if_pos h]
 rw [h,List.drop_succ_cons,show o + (skB false x + 1)=o + 1 + skB false x by omega]
 cases tokS (x.drop (skB false x)) with
 | bad c=>rfl
 | ok k t n m=>
   simp only
   rw [show skB false x + 1 + m=(skB false x + m) + 1 by omega,List.drop_succ_cons]
theorem Lx.blank {c:UInt8} (h:blankB c=true) {s:Bs} {T:List Tk} (hs:Lx s T):Lx (c :: s) T:=fun o=>by
 obtain ⟨T',h1,h2⟩:=hs.at (f:=s.length + 2) (by omega) (o + 1)
 exact ⟨T',by rw [List.length_cons,lexF_bl h]; exact h1,h2⟩
theorem Lx.tok {t:Tk} (h:poB t=true) (h6:t.kind≠6) {s:Bs} {T:List Tk} (hs:Lx (32 :: s) T):Lx (spT t ++ 32 :: s) (t :: T):=fun o=>by
 obtain ⟨T',h1,h2⟩:=hs.at (f:=(spT t ++ 32 :: s).length) (by
  have:=List.length_pos_iff.2 (spT_head h h6 []).1
  simp; omega) (o + (spT t).length)
 rw [lexF_one h h6 (.inr ⟨s,rfl⟩),h1]
 exact ⟨_,rfl,sameT_cons ⟨rfl,rfl,rfl⟩ h2⟩
end Go.Proofs.YtmhdkbmnpekpoaaGreatDoor
end
section
set_option linter.unusedSimpArgs false
set_option linter.unusedVariables false
set_option maxRecDepth 8000
namespace Go.Proofs.YtmhdkbmnpekpoaaGreatDoor
open Gx Go
section
variable {A B:Int→Prop}
end
end Go.Proofs.YtmhdkbmnpekpoaaGreatDoor
end
section
set_option linter.unusedSimpArgs false
set_option linter.unusedVariables false
set_option maxRecDepth 8000
namespace Go.Proofs.YtmhdkbmnpekpoaaGreatDoor
open Gx Go
def Hend (T:List Tk):Prop:=∃ t ∈ T,t.kind=6
theorem Hend.ne {T:List Tk} (h:Hend T) {i:Nat} (hn:Nk (T.take i)):T.drop i≠[]:=by
 obtain ⟨t,ht,hk⟩:=h
 intro e
 rw [List.drop_eq_nil_iff] at e
 rw [List.take_of_length_le e] at hn
 exact hn t ht hk
theorem sameT_ne {a b:List Tk} (h:sameT false a b=true) {i:Nat} (hn:a.drop i≠[]):b.drop i≠[]:=by
 rw [ne_eq,List.drop_eq_nil_iff] at *
 rw [← sameT_len h]; exact hn
def TopS (A B:Except Flt Nd):Prop:=(∃ n n',A= .ok n∧B= .ok n'∧NdE n n')∨∃ c o o',A= .error (c,o)∧B= .error (c,o')
theorem agree_top {p:PP Nd} {T T':List Tk} (hs:sameT false T T'=true) (he:Hend T) (h:∀ M:Md,M.Ok→¬ M.kx→Rl M NdE p p):TopS (topP p T) (topP p T'):=by
 have hM:Md.Ok ⟨T,T',fun _=>True,False,False,False⟩:=⟨fun i _=>.inl (sameT_hd i hs),fun _ _ _=>.inl trivial,fun i _ hn=>⟨he.ne hn,sameT_ne hs (he.ne hn)⟩⟩
 have hi:In ⟨T,T',fun _=>True,False,False,False⟩ T T':=⟨0,trivial,Nk.zero T,rfl,rfl⟩
 have ho:=h _ hM (fun q=>q) _ _ hi
 unfold topP
 rcases ho with ⟨q,_⟩ | ⟨q,_⟩ | ho
 ·exact q.elim
 ·exact q.elim
 cases e:p T with
 | error e'=>
   rw [e] at ho
   rcases ho with q | ⟨us,us',h1,h2,h3⟩
   ·exact q.elim
   ·rw [h3]
    exact .inr ⟨_,_,_,rfl,rfl⟩
 | ok x=>
   obtain ⟨n,r⟩:=x
   rw [e] at ho
   obtain ⟨n',r',h1,h2,h3⟩:=ho
   rw [h1]
   simp only
   have hk:(hd r).kind=(hd r').kind:=by
    rcases h3.both hM with q | ⟨q,_⟩
    ·exact q.1
    ·exact q.elim
   by_cases k6:(hd r).kind=6
   ·rw [if_pos k6,if_pos (hk ▸ k6)]
    exact .inl ⟨n,n',rfl,rfl,h2⟩
   ·rw [if_neg k6,if_neg (fun q=>k6 (hk.trans q))]
    exact .inr ⟨2,_,_,rfl,rfl⟩
theorem prog_any:∀ M:Md,M.Ok→¬ M.kx→Rl M NdE progP progP:=fun M hM hk=>progP_rl hM hk
theorem expr_any:∀ M:Md,M.Ok→¬ M.kx→Rl M NdE (exprP (loK 64)) (exprP (loK 64)):=fun M hM _=>expr_rl hM 64
theorem lex_parts {s:Bs} {T:List Tk} (h:lexT s= .ok T):∃ I,T=I ++ [⟨6,[],0,(s.length:Int)⟩]∧(∀ t ∈ I,poB t=true∧t.kind≠6):=by
 unfold lexT at h
 split at h
 ·cases h
 ·unfold lexA at h
  rw [List.drop_zero] at h
  have hc:=lexF_chain _ _ _ _ (Nat.lt_succ_self _) h
  rw [Nat.zero_add] at hc
  have key:∀ (e:Nat) (s:Bs) (o:Nat) (ts:List Tk),chainT e s o ts→∃ I,ts=I ++ [⟨6,[],0,(e:Int)⟩]∧(∀ t ∈ I,poB t=true∧t.kind≠6):=by
   intro e s o ts
   induction ts generalizing s o with
   | nil=>intro h; exact h.elim
   | cons t r ih=>
     rintro (⟨rfl,rfl,_⟩ | ⟨h1,h2,q,h3,h4,h5,h6,h7⟩)
     ·exact ⟨[],rfl,by simp⟩
     ·obtain ⟨I,rfl,hI⟩:=ih _ _ h7
      refine ⟨t :: I,rfl,fun x hx=>?_⟩
      rcases List.mem_cons.1 hx with rfl | hx
      ·exact ⟨h1,h2⟩
      ·exact hI x hx
  exact key _ _ _ _ hc
theorem lex_end {s:Bs} {T:List Tk} (h:lexT s= .ok T):Hend T:=by
 obtain ⟨I,rfl,_⟩:=lex_parts h
 exact ⟨⟨6,[],0,(s.length:Int)⟩,by simp,rfl⟩
end Go.Proofs.YtmhdkbmnpekpoaaGreatDoor
end
section
set_option linter.unusedSimpArgs false
set_option linter.unusedVariables false
set_option maxRecDepth 8000
namespace Go.Proofs.YtmhdkbmnpekpoaaGreatDoor
open Gx Go
mutual
theorem sameN_refl:∀ x:Nd,sameN x x=true
 | .mk k t n a ks=>by simp [sameN,sameL_refl ks]
theorem sameL_refl:∀ l:List Nd,sameL l l=true
 | []=>by simp [sameL]
 | x :: l=>by simp [sameL,sameN_refl x,sameL_refl l]
end
mutual
theorem sameN_symm:∀ x y:Nd,sameN x y=sameN y x
 | .mk k t n a ks,.mk k' t' n' a' ks'=>by
   simp only [sameN,sameL_symm ks ks',eq_comm (a:=k),eq_comm (a:=t),eq_comm (a:=n),eq_comm (a:=ks.length)]
theorem sameL_symm:∀ l m:List Nd,sameL l m=sameL m l
 | [],[]=>rfl
 | [],_ :: _=>by simp [sameL]
 | _ :: _,[]=>by simp [sameL]
 | x :: l,y :: m=>by simp only [sameL,sameN_symm x y,sameL_symm l m]
end
end Go.Proofs.YtmhdkbmnpekpoaaGreatDoor
end
section
set_option linter.unusedSimpArgs false
set_option linter.unusedVariables false
set_option maxRecDepth 8000
namespace Go.Proofs.YtmhdkbmnpekpoaaGreatDoor
open Gx Go
theorem NdE.symm {n m:Nd} (h:NdE n m):NdE m n:=by unfold NdE at *; rw [sameN_symm]; exact h
theorem NdE.refl (n:Nd):NdE n n:=sameN_refl n
mutual
theorem sameN_trans:∀ x y z:Nd,sameN x y=true→sameN y z=true→sameN x z=true
 | .mk k t n a ks,.mk k' t' n' a' ks',.mk k2 t2 n2 a2 ks2,h,h'=>by
   simp only [sameN,Bool.and_eq_true,decide_eq_true_eq] at h h' ⊢
   obtain ⟨⟨⟨⟨h1,h2⟩,h3⟩,h4⟩,h5⟩:=h
   obtain ⟨⟨⟨⟨g1,g2⟩,g3⟩,g4⟩,g5⟩:=h'
   exact ⟨⟨⟨⟨h1.trans g1,h2.trans g2⟩,h3.trans g3⟩,h4.trans g4⟩,sameL_trans ks ks' ks2 h4 h5 g5⟩
theorem sameL_trans:∀ x y z:List Nd,x.length=y.length→sameL x y=true→sameL y z=true→sameL x z=true
 | [],_,_,_,_,_=>by simp [sameL]
 | x :: l,y :: m,[],_,_,_=>by simp [sameL]
 | x :: l,[],z,h,_,_=>by simp at h
 | x :: l,y :: m,z :: r,hl,h,h'=>by
   simp only [sameL,Bool.and_eq_true] at h h' ⊢
   exact ⟨sameN_trans x y z h.1 h'.1,sameL_trans l m r (by simpa using hl) h.2 h'.2⟩
end
theorem NdE.trans {a b c:Nd} (h:NdE a b) (h':NdE b c):NdE a c:=sameN_trans a b c h h'
theorem expr_down {k:Nat} {ts:List Tk} (he:Hend ts):(∀ m r,exprP (loK (k + 1)) ts= .ok (m,r)→(∃ o,exprP (loK k) ts= .error (6,o))∨∃ m',exprP (loK k) ts= .ok (m',r)∧NdE m m')∧
 (∀ c o,exprP (loK (k + 1)) ts= .error (c,o)→∃ o',exprP (loK k) ts= .error (6,o')∨exprP (loK k) ts= .error (c,o')):=by
 have hM:Md.Ok ⟨ts,ts,fun _=>True,True,False,False⟩:=⟨fun i _=>.inl (tkE.refl _),fun _ _ _=>.inl trivial,fun i _ hn=>⟨he.ne hn,he.ne hn⟩⟩
 have ho:=expr_less hM trivial k _ _ ⟨0,trivial,Nk.zero _,rfl,rfl⟩
 change Ou _ NdE (exprP (loK (k + 1)) ts) (exprP (loK k) ts) at ho
 refine ⟨fun m r h=>?_,fun c o h=>?_⟩
 ·rw [h] at ho
  rcases ho with ⟨_,q⟩ | ⟨q,_⟩ | ⟨m',r',h1,h2,j,h3,h4,h5,h7⟩
  ·exact .inl q
  ·exact q.elim
  ·have h5:r=ts.drop j:=h5
   have h7:r'=ts.drop j:=h7
   exact .inr ⟨m',by rw [h1,h7,h5],h2⟩
 ·rw [h] at ho
  rcases ho with ⟨_,o',q⟩ | ⟨q,_⟩ | ⟨q | ⟨us,us',h1,h2,h3⟩⟩
  ·exact ⟨o',.inl q⟩
  ·exact q.elim
  ·exact q.elim
  ·exact ⟨_,.inr h3⟩
theorem expr_lev {ts:List Tk} (he:Hend ts) {k:Nat} {m:Nd} {r:List Tk} (h:exprP (loK k) ts= .ok (m,r)):∀ j,j≤k→(∃ o,exprP (loK j) ts= .error (6,o))∨∃ m',exprP (loK j) ts= .ok (m',r)∧NdE m m':=by
 have key:∀ d j,j + d=k→(∃ o,exprP (loK j) ts= .error (6,o))∨∃ m',exprP (loK j) ts= .ok (m',r)∧NdE m m':=by
  intro d
  induction d with
  | zero=>intro j hj; obtain rfl:j=k:=hj; exact .inr ⟨m,h,NdE.refl m⟩
  | succ d ih=>
    intro j hj
    rcases ih (j + 1) (by omega) with ⟨o,q⟩ | ⟨m',q,hm⟩
    ·obtain ⟨o',q | q⟩:=(expr_down he).2 _ _ q
     ·exact .inl ⟨o',q⟩
     ·exact .inl ⟨o',q⟩
    ·rcases (expr_down he).1 _ _ q with q | ⟨m2,q,hm2⟩
     ·exact .inl q
     ·exact .inr ⟨m2,q,hm.trans hm2⟩
 exact fun j hj=>key (k - j) j (by omega)
def isOp (ts:List Tk):Prop:=(hd ts).kind=5∧(hd ts).text=[40]
theorem isOp.isB {ts:List Tk} (h:isOp ts) (s:Bs):isB s ts=decide (s=[40]):=by
 unfold Go.Proofs.YtmhdkbmnpekpoaaGreatDoor.isB
 rw [h.1,h.2]
 simp [eq_comm]
theorem prim_open {k:Nat} {ts:List Tk} (h:isOp ts):primP (loK (k + 1)) ts=bd (exprP (loK k)) (fun n=>bd (expP [41]) fun _=>ret n) ts.tail:=by
 unfold primP
 have hb:=h.isB
 have k5:=h.1
 have e:loK (k + 1)=some (exprP (loK k),notP (loK k)):=by
  show some (lev k)=_
  rw [lev_eq]
 rw [e]
 simp only [k5,hb]
 simp [entP,hb]
theorem prim_val {k:Nat} {ts r:List Tk} {m:Nd} (h:isOp ts) (he:exprP (loK k) ts.tail= .ok (m,r)) (hr:(hd r).kind=5∧(hd r).text=[41]):primP (loK (k + 1)) ts= .ok (m,r.tail):=by
 rw [prim_open h,bd_ok he]
 have e:expP [41] r= .ok ((hd r).at_,r.tail):=by
  unfold expP
  rw [if_pos]
  unfold isB
  rw [hr.1,hr.2]; simp
 rw [bd_ok e]; rfl
theorem chainF_stop {op:PP Nd} {kd:Kd} {n:Nd} {r:List Tk} (h:opAt kd r=false):∀ f,chainF op kd f n r= .ok (n,r)
 | 0=>rfl
 | f + 1=>by simp only [chainF,h,Bool.false_eq_true,if_false]
def stops (r:List Tk):Prop:=isB [46] r=false∧isB [91] r=false
theorem postF_stop {lo:Lo} {n:Nd} {r:List Tk} (h:stops r):∀ f,postF lo f n r= .ok (n,r)
 | 0=>rfl
 | f + 1=>by simp only [postF,h.1,h.2,Bool.false_eq_true,if_false]
theorem cmp_skip {lo:Lo} {ts r:List Tk} {n:Nd} (h:joinP lo ts= .ok (n,r)) (hr:opAt kCmp r=false):cmpP lo ts= .ok (n,r):=by
 unfold cmpP
 rw [bd_ok h]
 simp only [hr,Bool.false_eq_true,if_false]
end Go.Proofs.YtmhdkbmnpekpoaaGreatDoor
end
section
set_option linter.unusedSimpArgs false
set_option linter.unusedVariables false
set_option maxRecDepth 8000
namespace Go.Proofs.YtmhdkbmnpekpoaaGreatDoor
open Gx Go
def kdL:Nat→Kd
 | 0=>kOr
 | 1=>kAnd
 | 2=>kCmp
 | 3=>kJoin
 | _=>kSum
theorem cmp_take {lo:Lo} {ts u r:List Tk} {n m:Nd} {o:Tk} (h:joinP lo ts= .ok (n,o :: u)) (hr:opAt kCmp (o :: u)=true) (hu:joinP lo u= .ok (m,r)):cmpP lo ts= .ok (.mk (kdOf kCmp o.text) [] 0 o.at_ [n,m],r):=by
 unfold cmpP
 rw [bd_ok h]
 simp only [hr,if_true,List.tail_cons]
 rw [bd_ok hu]; rfl
structure OpF (o:Tk) (a:Nat) (k:Int):Prop where
 at_:∀ l s,l < 5→opAt (kdL l) (o :: s)=decide (l=a)
 kind:kdOf (kdL a) o.text=k
 stop:∀ s,stops (o :: s)
 lt:a < 5
section
variable {lo:Lo} {o1 o2:Tk} {a b:Nat} {k1 k2:Int} (f1:OpF o1 a k1) (f2:OpF o2 b k2) {s0 s1 s2:List Tk} (i0:isOp s0) (i1:isOp s1) (i2:isOp s2) {e:Flt} {x0 x1 x2:Nd}
include f2 i1
include f1 i0 i2
end
theorem prog_open {T:List Tk} {n:Nd} (h:topP progP T= .ok n):∃ l r,progF (T.length + 1) [] T= .ok (l,r)∧(hd r).kind=6∧n= .mk 1 [] 0 0 l:=by
 unfold topP progP at h
 cases e:progF (T.length + 1) [] T with
 | error e'=>rw [bd_err e] at h; cases h
 | ok x=>
   obtain ⟨l,r⟩:=x
   rw [bd_ok e] at h
   simp only [ret] at h
   split at h
   ·cases h; exact ⟨l,r,rfl,by assumption,rfl⟩
   ·cases h
end Go.Proofs.YtmhdkbmnpekpoaaGreatDoor
end
section
set_option linter.unusedSimpArgs false
set_option linter.unusedVariables false
set_option maxRecDepth 8000
namespace Go.Proofs.YtmhdkbmnpekpoaaGreatDoor
open Gx Go
def kwT (s:Bs):Tk:=⟨2,s,0,0⟩
def sgT (s:Bs):Tk:=⟨5,s,0,0⟩
def nmT (s:Bs):Tk:=⟨1,s,0,0⟩
def qtT (s:Bs):Tk:=⟨4,s,0,0⟩
def itT (n:Int):Tk:=⟨3,[],n,0⟩
def binK (k:Int):Option (Tk × Nat × Nat × Nat):=
 if k=31 then some (kwT [111,114],1,1,2)
 else if k=32 then some (kwT [97,110,100],2,2,3)
 else if k=34 then some (sgT [60,61],4,5,5)
 else if k=35 then some (sgT [60],4,5,5)
 else if k=36 then some (sgT [61,61],4,5,5)
 else if k=37 then some (kwT [105,110],4,5,5)
 else if k=38 then some (kwT [108,101,113],4,5,5)
 else if k=39 then some (kwT [106,111,105,110],5,5,6)
 else if k=40 then some (sgT [43],6,6,7)
 else if k=41 then some (sgT [45],6,6,7)
 else none
def levK (k:Int):Nat:=if k=30 then 0 else if k=33 then 3 else if k=42∨k=43 then 7 else match binK k with
 | some x=>x.2.1
 | none=>8
def kindOf:Nd→Int
 | .mk k _ _ _ _=>k
def lvN (n:Nd):Nat:=levK (kindOf n)
def wordK (k:Int):Option Bs:=if k=45 then some [116,114,117,101] else if k=46 then some [102,97,108,115,101] else if k=49 then some [115] else if k=50 then some [98,111,116,116,111,109] else none
def wrapP (b:Bool) (l:List Tk):List Tk:=if b then opT :: (l ++ [clT]) else l
def intTk (n:Int):List Tk:=if n < 0 then [sgT [45],itT (-n)] else [itT n]
mutual
def tkB:Nd→List Tk
 | .mk k t n _ ks=>match binK k with
   | some (o,_,l,r)=>(match ks with
     | [a,b]=>wrapP (decide (lvN a < l)) (tkB a) ++ o :: wrapP (decide (lvN b < r)) (tkB b)
     | _=>[])
   | none=>
     if k=30 then (match ks with
      | [a,b,c]=>kwT [105,102] :: (tkB a ++ kwT [116,104,101,110] :: (tkB b ++ kwT [101,108,115,101] :: tkB c))
      | _=>[])
     else if k=33 then (match ks with
      | [a]=>kwT [110,111,116] :: wrapP (decide (lvN a < 3)) (tkB a)
      | _=>[])
     else if k=42 then (match ks with
      | [a]=>wrapP (decide (lvN a < 7)) (tkB a) ++ [sgT [46],nmT t]
      | _=>[])
     else if k=43 then (match ks with
      | [a,b]=>wrapP (decide (lvN a < 7)) (tkB a) ++ sgT [91] :: (tkB b ++ [sgT [93]])
      | _=>[])
     else if k=44 then intTk n
     else if k=47 then [qtT t]
     else if k=48 then [nmT t]
     else if k=51 then kwT t :: opT :: (tkA t true ks ++ [clT])
     else match wordK k with
      | some w=>[kwT w]
      | none=>[]
def tkA (fn:Bs):Bool→List Nd→List Tk
 | _,[]=>[]
 | first,a :: r=>(if first then [] else [sgT [44]]) ++ (tkG fn a ++ tkA fn false r)
def tkG (fn:Bs):Nd→List Tk
 | .mk k t n p ks=>if fn=[114,101,99] then (match ks with
  | [x]=>nmT t :: sgT [58] :: tkB x
  | _=>[])
  else if fn=[109,97,112] then (match ks with
   | [x,y]=>tkB x ++ sgT [58] :: tkB y
   | _=>[])
  else tkB (.mk k t n p ks)
end
def tkAt (n:Nd) (req:Nat):List Tk:=wrapP (decide (lvN n < req)) (tkB n)
def nameB (s:Bs):Bool:=validN s && !kwB s
mutual
def okB:Nd→Bool
 | .mk k t n _ ks=>match binK k with
   | some _=>(match ks with
     | [a,b]=>decide (t=[]) && decide (n=0) && okB a && okB b
     | _=>false)
   | none=>
     if k=30 then (match ks with
      | [a,b,c]=>decide (t=[]) && decide (n=0) && okB a && okB b && okB c
      | _=>false)
     else if k=33 then (match ks with
      | [a]=>decide (t=[]) && decide (n=0) && okB a
      | _=>false)
     else if k=42 then (match ks with
      | [a]=>nameB t && decide (n=0) && okB a
      | _=>false)
     else if k=43 then (match ks with
      | [a,b]=>decide (t=[]) && decide (n=0) && okB a && okB b
      | _=>false)
     else if k=44 then decide (t=[]) && ks.isEmpty && decide (-1000000000000000≤n) && decide (n≤1000000000000000)
     else if k=47 then validN t && decide (n=0) && ks.isEmpty
     else if k=48 then nameB t && decide (n=0) && ks.isEmpty
     else if k=51 then decide (t ∈ fnList) && decide (n=0) && okA t ks
     else match wordK k with
      | some _=>decide (t=[]) && decide (n=0) && ks.isEmpty
      | none=>false
def okA (fn:Bs):List Nd→Bool
 | []=>true
 | a :: r=>okJ fn a && okA fn r
def okJ (fn:Bs):Nd→Bool
 | .mk k t n p ks=>if fn=[114,101,99] then (match ks with
  | [x]=>decide (k=52) && nameB t && decide (n=0) && okB x
  | _=>false)
  else if fn=[109,97,112] then (match ks with
   | [x,y]=>decide (k=52) && decide (t=[]) && decide (n=0) && okB x && okB y
   | _=>false)
  else okB (.mk k t n p ks)
end
def wrapN (b:Bool) (m:Nat):Nat:=if b then m + 1 else m
mutual
def opB:Nd→Nat
 | .mk k t n _ ks=>match binK k with
   | some (_,_,l,r)=>(match ks with
     | [a,b]=>max (wrapN (decide (lvN a < l)) (opB a)) (wrapN (decide (lvN b < r)) (opB b))
     | _=>0)
   | none=>
     if k=30 then (match ks with
      | [a,b,c]=>max (opB a) (max (opB b) (opB c)) + 1
      | _=>0)
     else if k=33 then (match ks with
      | [a]=>wrapN (decide (lvN a < 3)) (opB a) + 1
      | _=>0)
     else if k=42 then (match ks with
      | [a]=>wrapN (decide (lvN a < 7)) (opB a)
      | _=>0)
     else if k=43 then (match ks with
      | [a,b]=>max (wrapN (decide (lvN a < 7)) (opB a)) (opB b + 1)
      | _=>0)
     else if k=51 then opA t ks + 1
     else 0
def opA (fn:Bs):List Nd→Nat
 | []=>0
 | a :: r=>max (opG fn a) (opA fn r)
def opG (fn:Bs):Nd→Nat
 | .mk k t n p ks=>if fn=[114,101,99] then (match ks with
  | [x]=>opB x
  | _=>0)
  else if fn=[109,97,112] then (match ks with
   | [x,y]=>max (opB x) (opB y)
   | _=>0)
  else opB (.mk k t n p ks)
end
def opAtN (n:Nd) (req:Nat):Nat:=wrapN (decide (lvN n < req)) (opB n)
def rdP (lo:Lo):Nat→PP Nd
 | 0=>exprP lo
 | 1=>orP lo
 | 2=>andP lo
 | 3=>notP lo
 | 4=>cmpP lo
 | 5=>joinP lo
 | 6=>sumP lo
 | 7=>postP lo
 | _=>primP lo
def kdC:Nat→Kd
 | 1=>kOr
 | 2=>kAnd
 | 4=>kCmp
 | 5=>kJoin
 | 6=>kSum
 | _=>[]
def Fol (l:Nat) (Y:List Tk):Prop:=(∀ j,l≤j→j≤6→opAt (kdC j) Y=false)∧(l≤7→stops Y)
theorem Fol.mono {l l':Nat} {Y:List Tk} (h:Fol l Y) (hl:l≤l'):Fol l' Y:=⟨fun j h1 h2=>h.1 j (by omega) h2,fun h1=>h.2 (by omega)⟩
def Ct (lo:Lo):Nat→Nd→PP Nd
 | 1,n=>fun Y=>chainF (andP lo) kOr Y.length n Y
 | 2,n=>fun Y=>chainF (notP lo) kAnd Y.length n Y
 | 5,n=>fun Y=>chainF (sumP lo) kJoin Y.length n Y
 | 6,n=>fun Y=>chainF (postP lo) kSum Y.length n Y
 | 7,n=>fun Y=>postF lo Y.length n Y
 | _,n=>fun Y=>.ok (n,Y)
theorem Ct_ok {lo:Lo} {Y:List Tk} {n:Nd}:∀ {l:Nat},Fol l Y→Ct lo l n Y= .ok (n,Y)
 | 0,_=>rfl
 | 1,h=>chainF_stop (h.1 1 (by omega) (by omega)) _
 | 2,h=>chainF_stop (h.1 2 (by omega) (by omega)) _
 | 3,_=>rfl
 | 4,_=>rfl
 | 5,h=>chainF_stop (h.1 5 (by omega) (by omega)) _
 | 6,h=>chainF_stop (h.1 6 (by omega) (by omega)) _
 | 7,h=>postF_stop (h.2 (by omega)) _
 | l + 8,_=>rfl
def pre (l:Nat) (Y:List Tk):Prop:=Fol (if l=4 then 4 else l + 1) Y
theorem pre_fol {l:Nat} {Y:List Tk} (h:pre l Y):Fol (l + 1) Y:=by
 unfold pre at h
 split at h
 ·exact h.mono (by omega)
 ·exact h
theorem fol_pre {l:Nat} {Y:List Tk} (h:Fol l Y):pre l Y:=by
 unfold pre
 split
 ·exact h.mono (by omega)
 ·exact h.mono (by omega)
theorem rd_down {lo:Lo} {ts Y:List Tk} {n:Nd}:∀ {l:Nat},l < 8→(l=0→isB [105,102] ts=false)→(l=3→isB [110,111,116] ts=false)→pre l Y→rdP lo (l + 1) ts=Ct lo (l + 1) n Y→rdP lo l ts=Ct lo l n Y
 | 0,_,h0,_,hp,h=>by
   show exprP lo ts=_
   unfold exprP
   rw [if_neg (by rw [h0 rfl]; decide)]
   exact h.trans (Ct_ok (pre_fol hp))
 | 1,_,_,_,hp,h=>by
   rw [Ct_ok (pre_fol hp)] at h
   exact bd_ok h
 | 2,_,_,_,hp,h=>by
   rw [Ct_ok (pre_fol hp)] at h
   exact bd_ok h
 | 3,_,_,h3,hp,h=>by
   show notP lo ts=_
   unfold notP
   rw [if_neg (by rw [h3 rfl]; decide)]
   exact h
 | 4,_,_,_,hp,h=>by
   have hp:Fol 4 Y:=hp
   rw [Ct_ok (hp.mono (by omega))] at h
   exact cmp_skip h (hp.1 4 (by omega) (by omega))
 | 5,_,_,_,hp,h=>by
   rw [Ct_ok (pre_fol hp)] at h
   exact bd_ok h
 | 6,_,_,_,hp,h=>by
   rw [Ct_ok (pre_fol hp)] at h
   exact bd_ok h
 | 7,_,_,_,hp,h=>bd_ok h
 | l + 8,hl,_,_,_,_=>by omega
theorem rd_downs {lo:Lo} {ts Y:List Tk} {n:Nd} {l m:Nat} (hlm:l≤m) (hm:m≤8) (h0:l=0→0 < m→isB [105,102] ts=false) (h3:l≤3→3 < m→isB [110,111,116] ts=false) (hp:pre l Y) (h:rdP lo m ts=Ct lo m n Y):rdP lo l ts=Ct lo l n Y:=by
 have key:∀ d,∀ j,j + d=m→l≤j→rdP lo j ts=Ct lo j n Y:=by
  intro d
  induction d with
  | zero=>intro j hj _; obtain rfl:j=m:=hj; exact h
  | succ d ih=>
    intro j hj hl
    refine rd_down (by omega) (fun e=>h0 (by omega) (by omega)) (fun e=>h3 (by omega) (by omega)) ?_ (ih (j + 1) (by omega) (by omega))
    rcases Nat.eq_or_lt_of_le hl with e | e
    ·rw [← e]; exact hp
    ·exact fol_pre ((pre_fol hp).mono (by omega))
 exact key (m - l) l (by omega) (Nat.le_refl _)
end Go.Proofs.YtmhdkbmnpekpoaaGreatDoor
end
section
set_option linter.unusedSimpArgs false
set_option linter.unusedVariables false
set_option maxRecDepth 8000
namespace Go.Proofs.YtmhdkbmnpekpoaaGreatDoor
open Gx Go
structure BinF (k:Int) (o:Tk) (lv l r:Nat):Prop where
 lev:levK k=lv
 ops:lv=4∧l=5∧r=5∨(lv=1∨lv=2∨lv=5∨lv=6)∧l=lv∧r=lv + 1
 at_:∀ j s,j < 7→opAt (kdC j) (o :: s)=decide (j=lv)
 kind:kdOf (kdC lv) o.text=k
 stop:∀ s,stops (o :: s)
 hif:∀ s,isB [105,102] (o :: s)=false
 hnot:∀ s,isB [110,111,116] (o :: s)=false
 zero:o.at_=0
 po:poB o=true∧o.kind≠6
theorem binK_f {k:Int} {o:Tk} {lv l r:Nat} (h:binK k=some (o,lv,l,r)):BinF k o lv l r:=by
 have key:∀ (k:Int) (o:Tk) (lv l r:Nat),levK k=lv→(lv=4∧l=5∧r=5∨(lv=1∨lv=2∨lv=5∨lv=6)∧l=lv∧r=lv + 1)→(∀ j,j < 7→decide (kdOf (kdC j) o.text≠0)=decide (j=lv))→kdOf (kdC lv) o.text=k→(o.kind=2∨o.kind=5)→o.text≠[46]→o.text≠[91]→o.text≠[105,102]→o.text≠[110,111,116]→o.at_=0→(poB o=true∧o.kind≠6)→BinF k o lv l r:=fun k o lv l r h1 h2 h3 h4 h5 h6 h7 h8 h9 hz hp=>by
  have no:∀ s x,o.text≠x→isB x (o :: s)=false:=fun s x hx=>by
   cases e:isB x (o :: s) with
   | false=>rfl
   | true=>exact absurd (isB_iff.1 e).2 hx
  refine ⟨h1,h2,fun j s hj=>?_,h4,fun s=>⟨no s _ h6,no s _ h7⟩,fun s=>no s _ h8,fun s=>no s _ h9,hz,hp⟩
  have e:isB o.text (o :: s)=true:=isB_iff.2 ⟨h5,rfl⟩
  show (decide (kdOf (kdC j) o.text≠0) && isB o.text (o :: s))=_
  rw [e,Bool.and_true]; exact h3 j hj
 unfold binK at h
 repeat' split at h
 all_goals first
  | (cases h; done)
  | (rename_i hk
     subst hk
     simp only [Option.some.injEq,Prod.mk.injEq] at h
     obtain ⟨rfl,rfl,rfl,rfl⟩:=h
     exact key _ _ _ _ _ (by decide) (by decide) (by decide) (by decide) (by decide) (by decide) (by decide) (by decide) (by decide) (by decide) (by decide))
section
variable {k n p:Int} {t:Bs} {a b c:Nd} {ks:List Nd} {o:Tk} {lv l r:Nat}
theorem tkB_bin (h:binK k=some (o,lv,l,r)):tkB (.mk k t n p [a,b])=tkAt a l ++ o :: tkAt b r:=by
 rw [tkB.eq_def]; simp only [h]; rfl
theorem opB_bin (h:binK k=some (o,lv,l,r)):opB (.mk k t n p [a,b])=max (opAtN a l) (opAtN b r):=by
 rw [opB.eq_def]; simp only [h]; rfl
theorem tkB_if:tkB (.mk 30 t n p [a,b,c])=kwT [105,102] :: (tkB a ++ kwT [116,104,101,110] :: (tkB b ++ kwT [101,108,115,101] :: tkB c)):=by
 rw [tkB.eq_def]; rfl
theorem opB_if:opB (.mk 30 t n p [a,b,c])=max (opB a) (max (opB b) (opB c)) + 1:=by
 rw [opB.eq_def]; rfl
theorem tkB_not:tkB (.mk 33 t n p [a])=kwT [110,111,116] :: tkAt a 3:=by
 rw [tkB.eq_def]; rfl
theorem opB_not:opB (.mk 33 t n p [a])=opAtN a 3 + 1:=by
 rw [opB.eq_def]; rfl
theorem tkB_field:tkB (.mk 42 t n p [a])=tkAt a 7 ++ [sgT [46],nmT t]:=by
 rw [tkB.eq_def]; rfl
theorem opB_field:opB (.mk 42 t n p [a])=opAtN a 7:=by
 rw [opB.eq_def]; rfl
theorem tkB_index:tkB (.mk 43 t n p [a,b])=tkAt a 7 ++ sgT [91] :: (tkB b ++ [sgT [93]]):=by
 rw [tkB.eq_def]; rfl
theorem opB_index:opB (.mk 43 t n p [a,b])=max (opAtN a 7) (opB b + 1):=by
 rw [opB.eq_def]; rfl
theorem tkB_int:tkB (.mk 44 t n p ks)=intTk n:=by
 rw [tkB.eq_def]; rfl
theorem tkB_quote:tkB (.mk 47 t n p ks)=[qtT t]:=by
 rw [tkB.eq_def]; rfl
theorem tkB_name:tkB (.mk 48 t n p ks)=[nmT t]:=by
 rw [tkB.eq_def]; rfl
theorem tkB_call:tkB (.mk 51 t n p ks)=kwT t :: opT :: (tkA t true ks ++ [clT]):=by
 rw [tkB.eq_def]; rfl
theorem opB_call:opB (.mk 51 t n p ks)=opA t ks + 1:=by
 rw [opB.eq_def]; rfl
theorem tkB_word {w:Bs} (h:wordK k=some w):tkB (.mk k t n p ks)=[kwT w]:=by
 have hk:k=45∨k=46∨k=49∨k=50:=by
  unfold wordK at h
  repeat' split at h
  all_goals first
   | (cases h; done)
   | omega
 rcases hk with rfl | rfl | rfl | rfl <;> (rw [tkB.eq_def]; cases h; rfl)
end
inductive OkC:Nd→Prop
 | bin {k n p:Int} {t:Bs} {a b:Nd} {o:Tk} {lv l r:Nat} (h:binK k=some (o,lv,l,r)) (ht:t=[]) (hn:n=0) (ha:okB a=true) (hb:okB b=true):OkC (.mk k t n p [a,b])
 | cond {n p:Int} {t:Bs} {a b c:Nd} (ht:t=[]) (hn:n=0) (ha:okB a=true) (hb:okB b=true) (hc:okB c=true):OkC (.mk 30 t n p [a,b,c])
 | not {n p:Int} {t:Bs} {a:Nd} (ht:t=[]) (hn:n=0) (ha:okB a=true):OkC (.mk 33 t n p [a])
 | field {n p:Int} {t:Bs} {a:Nd} (ht:nameB t=true) (hn:n=0) (ha:okB a=true):OkC (.mk 42 t n p [a])
 | index {n p:Int} {t:Bs} {a b:Nd} (ht:t=[]) (hn:n=0) (ha:okB a=true) (hb:okB b=true):OkC (.mk 43 t n p [a,b])
 | int {n p:Int} {t:Bs} (ht:t=[]) (h1:-1000000000000000≤n) (h2:n≤1000000000000000):OkC (.mk 44 t n p [])
 | quote {n p:Int} {t:Bs} (ht:validN t=true) (hn:n=0):OkC (.mk 47 t n p [])
 | name {n p:Int} {t:Bs} (ht:nameB t=true) (hn:n=0):OkC (.mk 48 t n p [])
 | call {n p:Int} {t:Bs} {ks:List Nd} (ht:t ∈ fnList) (hn:n=0) (hk:okA t ks=true):OkC (.mk 51 t n p ks)
 | word {k n p:Int} {t w:Bs} (h:wordK k=some w) (hb:binK k=none) (ht:t=[]) (hn:n=0):OkC (.mk k t n p [])
theorem ok_cases:∀ {x:Nd},okB x=true→OkC x
 | .mk k t n p ks,h=>by
   rw [okB.eq_def] at h
   simp only at h
   split at h
   ·rename_i y hb
    obtain ⟨o,lv,l,r⟩:=y
    match ks,h with
    | [a,b],h=>
      simp only [Bool.and_eq_true,decide_eq_true_eq] at h
      exact .bin hb h.1.1.1 h.1.1.2 h.1.2 h.2
   ·rename_i hb
    by_cases k0:k=30
    ·subst k0
     rw [if_pos rfl] at h
     match ks,h with
     | [a,b,c],h=>
       simp only [Bool.and_eq_true,decide_eq_true_eq] at h
       exact .cond h.1.1.1.1 h.1.1.1.2 h.1.1.2 h.1.2 h.2
    rw [if_neg k0] at h
    by_cases k1:k=33
    ·subst k1
     rw [if_pos rfl] at h
     match ks,h with
     | [a],h=>
       simp only [Bool.and_eq_true,decide_eq_true_eq] at h
       exact .not h.1.1 h.1.2 h.2
    rw [if_neg k1] at h
    by_cases k2:k=42
    ·subst k2
     rw [if_pos rfl] at h
     match ks,h with
     | [a],h=>
       simp only [Bool.and_eq_true,decide_eq_true_eq] at h
       exact .field h.1.1 h.1.2 h.2
    rw [if_neg k2] at h
    by_cases k3:k=43
    ·subst k3
     rw [if_pos rfl] at h
     match ks,h with
     | [a,b],h=>
       simp only [Bool.and_eq_true,decide_eq_true_eq] at h
       exact .index h.1.1.1 h.1.1.2 h.1.2 h.2
    rw [if_neg k3] at h
    by_cases k4:k=44
    ·subst k4
     rw [if_pos rfl] at h
     simp only [Bool.and_eq_true,decide_eq_true_eq,List.isEmpty_iff] at h
     obtain ⟨⟨⟨h1,rfl⟩,h3⟩,h4⟩:=h
     exact .int h1 h3 h4
    rw [if_neg k4] at h
    by_cases k5:k=47
    ·subst k5
     rw [if_pos rfl] at h
     simp only [Bool.and_eq_true,decide_eq_true_eq,List.isEmpty_iff] at h
     obtain ⟨⟨h1,h3⟩,rfl⟩:=h
     exact .quote h1 h3
    rw [if_neg k5] at h
    by_cases k6:k=48
    ·subst k6
     rw [if_pos rfl] at h
     simp only [Bool.and_eq_true,decide_eq_true_eq,List.isEmpty_iff] at h
     obtain ⟨⟨h1,h3⟩,rfl⟩:=h
     exact .name h1 h3
    rw [if_neg k6] at h
    by_cases k7:k=51
    ·subst k7
     rw [if_pos rfl] at h
     simp only [Bool.and_eq_true,decide_eq_true_eq] at h
     exact .call h.1.1 h.1.2 h.2
    rw [if_neg k7] at h
    split at h
    ·rename_i w hw
     simp only [Bool.and_eq_true,decide_eq_true_eq,List.isEmpty_iff] at h
     obtain ⟨⟨h1,h3⟩,rfl⟩:=h
     exact .word hw hb h1 h3
    ·cases h
theorem lv_le (x:Nd):lvN x≤8:=by
 unfold lvN levK
 split
 ·omega
 split
 ·omega
 split
 ·omega
 split
 ·rename_i y hy
  have:=(binK_f (o:=y.1) (lv:=y.2.1) (l:=y.2.2.1) (r:=y.2.2.2) hy).ops
  omega
 ·omega
theorem first_tk:∀ (N:Nat) (x:Nd),sizeN x≤N→okB x=true→∃ u s,tkB x=u :: s∧(1≤lvN x→isB [105,102] [u]=false)∧(4≤lvN x→isB [110,111,116] [u]=false)∧isB [41] [u]=false
 | 0,x,h,_=>by cases x; simp only [sizeN] at h; omega
 | N + 1,x,h,ho=>by
   have at_:∀ (a:Nd) (q:Nat) (s:List Tk),sizeN a≤N→okB a=true→∃ u s',tkAt a q ++ s=u :: s'∧(1≤q→isB [105,102] [u]=false)∧(4≤q→isB [110,111,116] [u]=false)∧isB [41] [u]=false:=fun a q s ha hoa=>by
    unfold tkAt wrapP
    by_cases hw:lvN a < q
    ·rw [if_pos (by simpa using hw)]
     exact ⟨opT,_,rfl,fun _=>rfl,fun _=>rfl,rfl⟩
    ·rw [if_neg (by simpa using hw)]
     obtain ⟨u,s',h1,h2,h3,h4⟩:=first_tk N a ha hoa
     rw [h1]
     exact ⟨u,s' ++ s,rfl,fun q=>h2 (by omega),fun q=>h3 (by omega),h4⟩
   have hs:=ok_cases ho
   cases hs with
   | @bin k n p t a b o lv l r hb ht hn ha hb'=>
     have hf:=binK_f hb
     simp only [sizeN,sizeL] at h
     obtain ⟨u,s',e,e1,e2,e3⟩:=at_ a l (o :: tkAt b r) (by omega) ha
     rw [tkB_bin hb]
     have hl:lvN (.mk k t n p [a,b])=lv:=hf.lev
     refine ⟨u,s',e,fun q=>e1 ?_,fun q=>e2 ?_,e3⟩
     ·have:=hf.ops; omega
     ·have:=hf.ops; omega
   | cond=>rw [tkB_if]; exact ⟨_,_,rfl,fun q=>absurd (show 1≤0 from q) (by decide),fun q=>absurd (show 4≤0 from q) (by decide),rfl⟩
   | not=>rw [tkB_not]; exact ⟨_,_,rfl,fun q=>rfl,fun q=>absurd (show 4≤3 from q) (by decide),rfl⟩
   | @field n p t a ht hn ha=>
     simp only [sizeN,sizeL] at h
     obtain ⟨u,s',e,e1,e2,e3⟩:=at_ a 7 [sgT [46],nmT t] (by omega) ha
     rw [tkB_field]
     exact ⟨u,s',e,fun q=>e1 (by omega),fun q=>e2 (by omega),e3⟩
   | @index n p t a b ht hn ha hb=>
     simp only [sizeN,sizeL] at h
     obtain ⟨u,s',e,e1,e2,e3⟩:=at_ a 7 (sgT [91] :: (tkB b ++ [sgT [93]])) (by omega) ha
     rw [tkB_index]
     exact ⟨u,s',e,fun q=>e1 (by omega),fun q=>e2 (by omega),e3⟩
   | int=>
     rw [tkB_int]
     unfold intTk
     split
     ·exact ⟨_,_,rfl,fun q=>rfl,fun q=>rfl,rfl⟩
     ·exact ⟨_,_,rfl,fun q=>rfl,fun q=>rfl,rfl⟩
   | quote=>rw [tkB_quote]; exact ⟨_,_,rfl,fun q=>rfl,fun q=>rfl,rfl⟩
   | name=>rw [tkB_name]; exact ⟨_,_,rfl,fun q=>rfl,fun q=>rfl,rfl⟩
   | @call n p t ks ht hn hk=>
     rw [tkB_call]
     have:∀ f ∈ fnList,isB [105,102] [kwT f]=false∧isB [110,111,116] [kwT f]=false∧isB [41] [kwT f]=false:=by decide
     exact ⟨_,_,rfl,fun q=>(this t ht).1,fun q=>(this t ht).2.1,(this t ht).2.2⟩
   | @word k n p t w hw hb ht hn=>
     rw [tkB_word hw]
     have:isB [105,102] [kwT w]=false∧isB [110,111,116] [kwT w]=false∧isB [41] [kwT w]=false:=by
      unfold wordK at hw
      repeat' split at hw
      all_goals first
       | (cases hw; done)
       | (cases hw; exact ⟨rfl,rfl,rfl⟩)
     exact ⟨_,_,rfl,fun q=>this.1,fun q=>this.2.1,this.2.2⟩
theorem first_if {x:Nd} (h:okB x=true) (hl:1≤lvN x) (Y:List Tk):isB [105,102] (tkB x ++ Y)=false:=by
 obtain ⟨u,s,e,e1,_,_⟩:=first_tk _ x (Nat.le_refl _) h
 rw [e]; exact e1 hl
theorem first_not {x:Nd} (h:okB x=true) (hl:4≤lvN x) (Y:List Tk):isB [110,111,116] (tkB x ++ Y)=false:=by
 obtain ⟨u,s,e,_,e2,_⟩:=first_tk _ x (Nat.le_refl _) h
 rw [e]; exact e2 hl
theorem first_cl {x:Nd} (h:okB x=true) (Y:List Tk):isB [41] (tkB x ++ Y)=false:=by
 obtain ⟨u,s,e,_,_,e3⟩:=first_tk _ x (Nat.le_refl _) h
 rw [e]; exact e3
end Go.Proofs.YtmhdkbmnpekpoaaGreatDoor
end
section
set_option linter.unusedSimpArgs false
set_option linter.unusedVariables false
set_option maxRecDepth 8000
namespace Go.Proofs.YtmhdkbmnpekpoaaGreatDoor
open Gx Go
theorem tkAt_zero (x:Nd):tkAt x 0=tkB x:=by simp [tkAt,wrapP]
theorem opAt_zero (x:Nd):opAtN x 0=opB x:=by simp [opAtN,wrapN]
theorem fol_tok {t:Tk} (h:(∀ j,j < 7→kdOf (kdC j) t.text=0)∧t.text≠[46]∧t.text≠[91]) (s:List Tk):Fol 0 (t :: s):=by
 have no:∀ x,t.text≠x→isB x (t :: s)=false:=fun x hx=>by
  cases e:isB x (t :: s) with
  | false=>rfl
  | true=>exact absurd (isB_iff.1 e).2 hx
 refine ⟨fun j _ hj=>?_,fun _=>⟨no _ h.2.1,no _ h.2.2⟩⟩
 show (decide (kdOf (kdC j) t.text≠0) && isB t.text (t :: s))=false
 rw [h.1 j (by omega)]; rfl
theorem fol_bin {k:Int} {o:Tk} {lv l r:Nat} (h:BinF k o lv l r) (s:List Tk):Fol (lv + 1) (o :: s):=by
 refine ⟨fun j h1 h2=>?_,fun _=>h.stop s⟩
 rw [h.at_ j s (by omega)]
 simp; omega
theorem fol_cl (s:List Tk):Fol 0 (clT :: s):=fol_tok (by decide) s
def RtA (x:Nd):Prop:=okB x=true→∀ k,opB x≤k→∀ Y,pre (lvN x) Y→∃ x',NdE x x'∧rdP (loK k) (lvN x) (tkB x ++ Y)=Ct (loK k) (lvN x) x' Y
theorem pre_of {l:Nat} {Y:List Tk} (h:Fol 0 Y):pre l Y:=fol_pre (h.mono (Nat.zero_le l))
theorem rt_zero {x:Nd} (ho:okB x=true) (h:RtA x) {k:Nat} (hk:opB x≤k) {Y:List Tk} (hY:Fol 0 Y):∃ x',NdE x x'∧exprP (loK k) (tkB x ++ Y)= .ok (x',Y):=by
 obtain ⟨x',h1,h2⟩:=h ho k hk Y (pre_of hY)
 exact ⟨x',h1,rd_downs (l:=0) (Nat.zero_le _) (lv_le x) (fun _ q=>first_if ho q Y) (fun _ q=>first_not ho q Y) (pre_of hY) h2⟩
theorem rtB {x:Nd} (ho:okB x=true) (h:RtA x) {req:Nat} (hr:req≤8) {k:Nat} (hk:opAtN x req≤k) {Y:List Tk} (hp:pre req Y):∃ x',NdE x x'∧rdP (loK k) req (tkAt x req ++ Y)=Ct (loK k) req x' Y:=by
 by_cases hw:lvN x < req
 ·have e1:tkAt x req=opT :: (tkB x ++ [clT]):=by unfold tkAt wrapP; rw [if_pos (by simpa using hw)]
  have e2:opAtN x req=opB x + 1:=by unfold opAtN wrapN; rw [if_pos (by simpa using hw)]
  obtain ⟨k,rfl⟩:∃ k',k=k' + 1:=⟨k - 1,by omega⟩
  obtain ⟨x',h1,h2⟩:=rt_zero ho h (k:=k) (by omega) (fol_cl Y)
  refine ⟨x',h1,?_⟩
  rw [e1]
  have e3:opT :: (tkB x ++ [clT]) ++ Y=opT :: (tkB x ++ clT :: Y):=by simp
  rw [e3]
  refine rd_downs hr (Nat.le_refl 8) (fun _ _=>rfl) (fun _ _=>rfl) hp ?_
  exact prim_val (ts:=opT :: (tkB x ++ clT :: Y)) (r:=clT :: Y) ⟨rfl,rfl⟩ h2 ⟨rfl,rfl⟩
 ·have e1:tkAt x req=tkB x:=by unfold tkAt wrapP; rw [if_neg (by simpa using hw)]
  have e2:opAtN x req=opB x:=by unfold opAtN wrapN; rw [if_neg (by simpa using hw)]
  have hpl:pre (lvN x) Y:=by
   rcases Nat.eq_or_lt_of_le (Nat.le_of_not_lt hw) with e | e
   ·rw [← e]; exact hp
   ·exact fol_pre ((pre_fol hp).mono (by omega))
  obtain ⟨x',h1,h2⟩:=h ho k (by omega) Y hpl
  rw [e1]
  exact ⟨x',h1,rd_downs (Nat.le_of_not_lt hw) (lv_le x) (fun _ q=>first_if ho q Y) (fun _ q=>first_not ho q Y) hp h2⟩
theorem rtB_ok {x:Nd} (ho:okB x=true) (h:RtA x) {req:Nat} (hr:req≤8) {k:Nat} (hk:opAtN x req≤k) {Y:List Tk} (hf:Fol req Y):∃ x',NdE x x'∧rdP (loK k) req (tkAt x req ++ Y)= .ok (x',Y):=by
 obtain ⟨x',h1,h2⟩:=rtB ho h hr hk (fol_pre hf)
 exact ⟨x',h1,by rw [h2,Ct_ok hf]⟩
theorem chain_bin {op:PP Nd} {kd:Kd} (hop:Dn op) {A Z Y:List Tk} {o:Tk} {a' b':Nd} (ha:chainP op kd (A ++ o :: Z)=chainF op kd (o :: Z).length a' (o :: Z)) (ho:opAt kd (o :: Z)=true) (hb:op Z= .ok (b',Y)) :
 chainP op kd (A ++ o :: Z)=chainF op kd Y.length (.mk (kdOf kd o.text) [] 0 o.at_ [a',b']) Y:=by
 rw [ha]
 simp only [List.length_cons,chainF,ho,if_true,List.tail_cons]
 rw [bd_ok hb]
 exact chainF_fuel hop _ _ _ _ (hop.of hb) (Nat.le_refl _)
theorem lev1 (k:Nat):loK (k + 1)=some (exprP (loK k),notP (loK k)):=by
 show some (lev k)=_
 rw [lev_eq]
theorem isB_same {s:Bs} {t:Tk} (h1:t.kind=2∨t.kind=5) (h2:t.text=s) (r:List Tk):isB s (t :: r)=true:=isB_iff.2 ⟨h1,h2⟩
theorem isB_diff {s:Bs} {t:Tk} (h2:t.text≠s) (r:List Tk):isB s (t :: r)=false:=by
 cases e:isB s (t :: r) with
 | false=>rfl
 | true=>exact absurd (isB_iff.1 e).2 h2
theorem expP_tok {s:Bs} {t:Tk} (h1:t.kind=2∨t.kind=5) (h2:t.text=s) (r:List Tk):expP s (t :: r)= .ok (t.at_,r):=by
 unfold expP
 rw [if_pos (isB_same h1 h2 r)]; rfl
theorem entP_tok {α β:Type} {x:β} {s:Bs} {body:β→PP α} {t:Tk} (h1:t.kind=2∨t.kind=5) (h2:t.text=s) (r:List Tk):entP (some x) s body (t :: r)=body x r:=by
 unfold entP
 rw [if_pos (isB_same h1 h2 r)]; rfl
theorem expP_sg (s:Bs) (r:List Tk):expP s (sgT s :: r)= .ok (0,r):=expP_tok (.inr rfl) rfl r
theorem expP_kw (s:Bs) (r:List Tk):expP s (kwT s :: r)= .ok (0,r):=expP_tok (.inl rfl) rfl r
theorem expP_cl (r:List Tk):expP [41] (clT :: r)= .ok (0,r):=expP_sg [41] r
theorem tkA_len {fn:Bs}:∀ (ks:List Nd),ks.length≤(tkA fn false ks).length
 | []=>Nat.zero_le _
 | a :: r=>by
   rw [tkA]
   have:=tkA_len (fn:=fn) r
   simp only [List.length_append,List.length_cons,Bool.false_eq_true,if_false]
   simp; omega
section
variable {N:Nat} (ih:∀ x,sizeN x≤N→RtA x)
include ih
theorem arg_rt {fn:Bs} {a:Nd} (hs:sizeN a≤N) (ho:okJ fn a=true) {k:Nat} (hk:opG fn a≤k) {Z:List Tk} (hZ:Fol 0 Z):∃ a',NdE a a'∧argP (exprP (loK k)) fn (tkG fn a ++ Z)= .ok (a',Z):=by
 obtain ⟨c,t,n,p,ks⟩:=a
 rw [okJ.eq_def] at ho
 rw [opG.eq_def] at hk
 rw [tkG.eq_def]
 simp only at ho hk ⊢
 unfold argP
 by_cases h1:fn=[114,101,99]
 ·rw [if_pos h1] at ho hk ⊢
  rw [if_pos h1]
  match ks,ho,hk,hs with
  | [x],ho,hk,hs=>
    simp only [Bool.and_eq_true,decide_eq_true_eq] at ho hk
    obtain ⟨⟨⟨rfl,ht⟩,rfl⟩,hx⟩:=ho
    simp only [sizeN,sizeL] at hs
    obtain ⟨x',e1,e2⟩:=rt_zero hx (ih x (by omega)) hk hZ
    refine ⟨.mk 52 t 0 0 [x'],ndE rfl rfl rfl (LsE.one e1),?_⟩
    show bd (takeP 1) _ (nmT t :: sgT [58] :: (tkB x ++ Z))=_
    have t1:takeP 1 (nmT t :: sgT [58] :: (tkB x ++ Z))= .ok (nmT t,sgT [58] :: (tkB x ++ Z)):=rfl
    rw [bd_ok t1,bd_ok (expP_sg [58] _),bd_ok e2]
    rfl
 ·rw [if_neg h1] at ho hk ⊢
  rw [if_neg h1]
  by_cases h2:fn=[109,97,112]
  ·rw [if_pos h2] at ho hk ⊢
   rw [if_pos h2]
   match ks,ho,hk,hs with
   | [x,y],ho,hk,hs=>
     simp only [Bool.and_eq_true,decide_eq_true_eq] at ho hk
     obtain ⟨⟨⟨⟨rfl,rfl⟩,rfl⟩,hx⟩,hy⟩:=ho
     simp only [sizeN,sizeL] at hs
     obtain ⟨x',e1,e2⟩:=rt_zero hx (ih x (by omega)) (k:=k) (by omega) (fol_tok (t:=sgT [58]) (by decide) (tkB y ++ Z))
     obtain ⟨y',e3,e4⟩:=rt_zero hy (ih y (by omega)) (k:=k) (by omega) hZ
     have e:tkB x ++ sgT [58] :: tkB y ++ Z=tkB x ++ sgT [58] :: (tkB y ++ Z):=by simp
     refine ⟨.mk 52 [] 0 (hd (tkB x ++ sgT [58] :: tkB y ++ Z)).at_ [x',y'],ndE rfl rfl rfl (LsE.two e1 e3),?_⟩
     rw [e,bd_ok e2,bd_ok (expP_sg [58] _),bd_ok e4]
     rfl
  ·rw [if_neg h2] at ho hk ⊢
   rw [if_neg h2]
   exact rt_zero ho (ih _ hs) hk hZ
theorem args_rt {fn:Bs} {k:Nat} {Y:List Tk}:∀ (ks:List Nd) (a:Nd) (f:Nat) (l:List Nd),sizeN a≤N→sizeL ks≤N→okJ fn a=true→okA fn ks=true→opG fn a≤k→opA fn ks≤k→ks.length < f→
 ∃ m,LsE (a :: ks) m∧listF (argP (exprP (loK k)) fn) f l (tkG fn a ++ (tkA fn false ks ++ clT :: Y))= .ok (l ++ m,Y)
 | [],a,0,l,_,_,_,_,_,_,h=>by omega
 | [],a,f + 1,l,h1,h2,h3,h4,h5,h6,h7=>by
   obtain ⟨a',e1,e2⟩:=arg_rt ih h1 h3 h5 (fol_cl Y)
   refine ⟨[a'],LsE.one e1,?_⟩
   rw [tkA,List.nil_append]
   simp only [listF]
   rw [bd_ok e2]
   have ec:commaP (clT :: Y)= .ok (false,Y):=by
    unfold commaP
    rw [if_neg (by rw [isB_diff (by decide)]; decide),bd_ok (expP_cl Y)]; rfl
   rw [bd_ok ec]; rfl
 | b :: r,a,0,l,_,_,_,_,_,_,h=>by omega
 | b :: r,a,f + 1,l,h1,h2,h3,h4,h5,h6,h7=>by
   simp only [sizeL] at h2
   simp only [List.length_cons] at h7
   rw [okA,Bool.and_eq_true] at h4
   rw [opA] at h6
   have e:tkA fn false (b :: r) ++ clT :: Y=sgT [44] :: (tkG fn b ++ (tkA fn false r ++ clT :: Y)):=by
    rw [tkA]; simp
   obtain ⟨a',e1,e2⟩:=arg_rt ih h1 h3 h5 (fol_tok (t:=sgT [44]) (by decide) (tkG fn b ++ (tkA fn false r ++ clT :: Y)))
   obtain ⟨m,e3,e4⟩:=args_rt (k:=k) (Y:=Y) r b f (l ++ [a']) (by omega) (by omega) h4.1 h4.2 (by omega) (by omega) (by omega)
   refine ⟨a' :: m,LsE.cons e1 e3,?_⟩
   rw [e]
   simp only [listF]
   rw [bd_ok e2]
   have ec:commaP (sgT [44] :: (tkG fn b ++ (tkA fn false r ++ clT :: Y)))= .ok (true,tkG fn b ++ (tkA fn false r ++ clT :: Y)):=by
    unfold commaP
    rw [if_pos (isB_same (s:=[44]) (t:=sgT [44]) (.inr rfl) rfl _)]; rfl
   rw [bd_ok ec]
   simp only [if_true]
   rw [e4]
   simp
end
theorem prim_word {k:Int} {w:Bs} (h:wordK k=some w) (lo:Lo) (Y:List Tk):primP lo (kwT w :: Y)= .ok (.mk k [] 0 0 [],Y):=by
 unfold wordK at h
 repeat' split at h
 all_goals first
  | (cases h; done)
  | (rename_i hk
     subst hk
     cases h
     rfl)
theorem prim_call {fn:Bs} (h:fn ∈ fnList) {k:Nat} {l:List Nd} {Z Y:List Tk} (hl:listP (argP (exprP (loK k)) fn) Z= .ok (l,Y)):primP (loK (k + 1)) (kwT fn :: opT :: Z)= .ok (.mk 51 fn 0 0 l,Y):=by
 have key:∀ f ∈ fnList,isB [45] [kwT f]=false∧isB [116,114,117,101] [kwT f]=false∧isB [102,97,108,115,101] [kwT f]=false∧isB [115] [kwT f]=false∧isB [98,111,116,116,111,109] [kwT f]=false∧isB [40] [kwT f]=false:=by decide
 obtain ⟨h1,h2,h3,h4,h5,h6⟩:=key fn h
 have e:∀ s,isB s (kwT fn :: opT :: Z)=isB s [kwT fn]:=fun s=>rfl
 unfold primP
 have hk:(hd (kwT fn :: opT :: Z)).kind=2:=rfl
 have ht:(hd (kwT fn :: opT :: Z)).text=fn:=rfl
 have n3:¬ ((hd (kwT fn :: opT :: Z)).kind=3∨isB [45] (kwT fn :: opT :: Z)=true):=by
  rw [hk,e,h1]; decide
 have n4:¬ (hd (kwT fn :: opT :: Z)).kind=4:=by rw [hk]; decide
 have n1:¬ (hd (kwT fn :: opT :: Z)).kind=1:=by rw [hk]; decide
 rw [if_neg n3,if_neg n4,if_neg n1,if_neg (by rw [e,h2]; decide),if_neg (by rw [e,h3]; decide),if_neg (by rw [e,h4]; decide),if_neg (by rw [e,h5]; decide),if_neg (by rw [e,h6]; decide),if_pos ⟨hk,h⟩,lev1]
 show entP _ [40] _ (opT :: Z)=_
 rw [entP_tok (s:=[40]) (t:=opT) (.inr rfl) rfl]
 show bd (listP (argP (exprP (loK k)) fn)) _ Z=_
 rw [bd_ok hl]; rfl
theorem post_field {lo:Lo} (hl:LoDn lo) {n:Nd} {t:Bs} {Y:List Tk}:postF lo (sgT [46] :: nmT t :: Y).length n (sgT [46] :: nmT t :: Y)=postF lo Y.length (.mk 42 t 0 0 [n]) Y:=by
 simp only [List.length_cons,postF]
 rw [if_pos (isB_same (s:=[46]) (t:=sgT [46]) (.inr rfl) rfl _)]
 show bd (takeP 1) _ (nmT t :: Y)=_
 have t1:takeP 1 (nmT t :: Y)= .ok (nmT t,Y):=rfl
 rw [bd_ok t1]
 exact postF_fuel hl (Y.length + 1) Y.length _ _ (Nat.le_succ _) (Nat.le_refl _)
theorem post_index {k:Nat} {n m:Nd} {Z Y:List Tk} (hm:exprP (loK k) Z= .ok (m,sgT [93] :: Y)):postF (loK (k + 1)) (sgT [91] :: Z).length n (sgT [91] :: Z)=postF (loK (k + 1)) Y.length (.mk 43 [] 0 0 [n,m]) Y:=by
 have hlen:Y.length≤Z.length:=by
  have:=(exprP_dn (loK_dn k)).of hm
  simp only [List.length_cons] at this
  omega
 simp only [List.length_cons,postF]
 rw [if_neg (by rw [isB_diff (t:=sgT [91]) (by decide)]; decide),if_pos (isB_same (s:=[91]) (t:=sgT [91]) (.inr rfl) rfl _)]
 have e:∀ body:PP Nd × PP Nd→PP Nd,entP (loK (k + 1)) [91] body (sgT [91] :: Z)=body (exprP (loK k),notP (loK k)) Z:=fun body=>by
  rw [lev1]
  exact entP_tok (t:=sgT [91]) (.inr rfl) rfl Z
 rw [e]
 show bd (exprP (loK k)) _ Z=_
 rw [bd_ok hm,bd_ok (expP_sg [93] Y)]
 exact postF_fuel (loK_dn _) _ _ _ _ hlen (Nat.le_refl _)
theorem pre_seven (Y:List Tk):pre 7 Y:=⟨fun j h1 h2=>by
 have:8≤j:=h1
 omega,fun h=>by
 have:8≤7:=h
 omega⟩
theorem rtA_all:∀ (N:Nat) (x:Nd),sizeN x≤N→RtA x
 | 0,x,h=>by cases x; simp only [sizeN] at h; omega
 | N + 1,x,h=>by
   have ih:=rtA_all N
   intro ho k hk Y hp
   have hs:=ok_cases ho
   cases hs with
   | @bin kk n p t a b o lv l r hb ht hn ha hb'=>
     have hf:=binK_f hb
     have hlv:lvN (.mk kk t n p [a,b])=lv:=hf.lev
     rw [hlv] at hp ⊢
     rw [opB_bin hb] at hk
     rw [tkB_bin hb]
     simp only [sizeN,sizeL] at h
     have e:tkAt a l ++ o :: tkAt b r ++ Y=tkAt a l ++ o :: (tkAt b r ++ Y):=by simp
     rw [e]
     have hfa:Fol l (o :: (tkAt b r ++ Y))∨l=lv:=by
      rcases hf.ops with ⟨h1,h2,_⟩ | ⟨_,h2,_⟩
      ·left; rw [h2]; exact (fol_bin hf _).mono (by omega)
      ·exact .inr h2
     have hfb:Fol r Y:=by
      rcases hf.ops with ⟨h1,_,h3⟩ | ⟨h1,_,h3⟩
      ·rw [h3]
       exact (pre_fol hp).mono (by omega)
      ·rw [h3]; exact pre_fol hp
     have hr8:r≤8:=by have:=hf.ops; omega
     have hl8:l≤8:=by have:=hf.ops; omega
     obtain ⟨b',b1,b2⟩:=rtB_ok hb' (ih b (by omega)) hr8 (k:=k) (by omega) hfb
     have hat:=hf.at_ lv (tkAt b r ++ Y) (by have:=hf.ops; omega)
     rw [decide_eq_true rfl] at hat
     rcases hf.ops with ⟨h1,h2,h3⟩ | ⟨h1,h2,h3⟩
     ·subst h1 h2 h3
      obtain ⟨a',a1,a2⟩:=rtB_ok ha (ih a (by omega)) hl8 (k:=k) (by omega) (hfa.resolve_right (by omega))
      refine ⟨.mk kk [] 0 o.at_ [a',b'],ndE rfl ht hn (LsE.two a1 b1),?_⟩
      have:=cmp_take (lo:=loK k) a2 hat b2
      have hkd:kdOf kCmp o.text=kk:=hf.kind
      rw [hkd] at this
      exact this
     ·subst h2 h3
      obtain ⟨a',a1,a2⟩:=rtB ha (ih a (by omega)) hl8 (k:=k) (by omega) (Y:=o :: (tkAt b (l + 1) ++ Y)) (by
       unfold pre
       rw [if_neg (by omega)]
       exact fol_bin hf _)
      refine ⟨.mk kk [] 0 o.at_ [a',b'],ndE rfl ht hn (LsE.two a1 b1),?_⟩
      have hkd:=hf.kind
      rcases h1 with rfl | rfl | rfl | rfl
      ·have:=chain_bin (kd:=kOr) (andP_dn (loK_dn k)) a2 hat b2
       rw [show kdOf kOr o.text=kk from hkd] at this
       exact this
      ·have:=chain_bin (kd:=kAnd) (notP_dn (loK_dn k)) a2 hat b2
       rw [show kdOf kAnd o.text=kk from hkd] at this
       exact this
      ·have:=chain_bin (kd:=kJoin) (sumP_dn (loK_dn k)) a2 hat b2
       rw [show kdOf kJoin o.text=kk from hkd] at this
       exact this
      ·have:=chain_bin (kd:=kSum) (postP_dn (loK_dn k)) a2 hat b2
       rw [show kdOf kSum o.text=kk from hkd] at this
       exact this
   | @cond n p t a b c ht hn ha hb hc=>
     rw [opB_if] at hk
     rw [tkB_if]
     simp only [sizeN,sizeL] at h
     have hY:Fol 0 Y:=by
      have hY:Fol 1 Y:=hp
      refine ⟨fun j _ h2=>?_,fun _=>hY.2 (by omega)⟩
      rcases Nat.eq_zero_or_pos j with rfl | q
      ·show (decide (kdOf [] _≠0) && _)=false
       rfl
      ·exact hY.1 j q h2
     obtain ⟨k,rfl⟩:∃ k',k=k' + 1:=⟨k - 1,by omega⟩
     obtain ⟨c',c1,c2⟩:=rt_zero hc (ih c (by omega)) (k:=k) (by omega) hY
     obtain ⟨b',b1,b2⟩:=rt_zero hb (ih b (by omega)) (k:=k) (by omega) (fol_tok (t:=kwT [101,108,115,101]) (by decide) (tkB c ++ Y))
     obtain ⟨a',a1,a2⟩:=rt_zero ha (ih a (by omega)) (k:=k) (by omega) (fol_tok (t:=kwT [116,104,101,110]) (by decide) (tkB b ++ kwT [101,108,115,101] :: (tkB c ++ Y)))
     refine ⟨.mk 30 [] 0 0 [a',b',c'],ndE rfl ht hn (LsE.cons a1 (LsE.two b1 c1)),?_⟩
     show exprP (loK (k + 1)) _= .ok (.mk 30 [] 0 0 [a',b',c'],Y)
     have e:kwT [105,102] :: (tkB a ++ kwT [116,104,101,110] :: (tkB b ++ kwT [101,108,115,101] :: tkB c)) ++ Y=kwT [105,102] :: (tkB a ++ kwT [116,104,101,110] :: (tkB b ++ kwT [101,108,115,101] :: (tkB c ++ Y))):=by simp
     rw [e]
     unfold exprP
     rw [if_pos (isB_same (s:=[105,102]) (t:=kwT [105,102]) (.inl rfl) rfl _),lev1,entP_tok (s:=[105,102]) (t:=kwT [105,102]) (.inl rfl) rfl]
     rw [bd_ok a2,bd_ok (expP_kw _ _),bd_ok b2,bd_ok (expP_kw _ _),bd_ok c2]
     rfl
   | @not n p t a ht hn ha=>
     rw [opB_not] at hk
     rw [tkB_not]
     simp only [sizeN,sizeL] at h
     obtain ⟨k,rfl⟩:∃ k',k=k' + 1:=⟨k - 1,by omega⟩
     obtain ⟨a',a1,a2⟩:=rtB ha (ih a (by omega)) (req:=3) (by omega) (k:=k) (by omega) (Y:=Y) hp
     refine ⟨.mk 33 [] 0 0 [a'],ndE rfl ht hn (LsE.one a1),?_⟩
     show notP (loK (k + 1)) (kwT [110,111,116] :: (tkAt a 3 ++ Y))= .ok (.mk 33 [] 0 0 [a'],Y)
     unfold notP
     rw [if_pos (isB_same (s:=[110,111,116]) (t:=kwT [110,111,116]) (.inl rfl) rfl _),lev1,entP_tok (s:=[110,111,116]) (t:=kwT [110,111,116]) (.inl rfl) rfl]
     have a2:notP (loK k) (tkAt a 3 ++ Y)= .ok (a',Y):=a2
     rw [bd_ok a2]; rfl
   | @field n p t a ht hn ha=>
     rw [opB_field] at hk
     rw [tkB_field]
     simp only [sizeN,sizeL] at h
     obtain ⟨a',a1,a2⟩:=rtB ha (ih a (by omega)) (req:=7) (by omega) (k:=k) hk (Y:=sgT [46] :: nmT t :: Y) (pre_seven _)
     refine ⟨.mk 42 t 0 0 [a'],ndE rfl rfl hn (LsE.one a1),?_⟩
     have e:tkAt a 7 ++ [sgT [46],nmT t] ++ Y=tkAt a 7 ++ sgT [46] :: nmT t :: Y:=by simp
     rw [e]
     exact a2.trans (post_field (loK_dn k))
   | @index n p t a b ht hn ha hb=>
     rw [opB_index] at hk
     rw [tkB_index]
     simp only [sizeN,sizeL] at h
     obtain ⟨k,rfl⟩:∃ k',k=k' + 1:=⟨k - 1,by omega⟩
     obtain ⟨b',b1,b2⟩:=rt_zero hb (ih b (by omega)) (k:=k) (by omega) (fol_tok (t:=sgT [93]) (by decide) Y)
     obtain ⟨a',a1,a2⟩:=rtB ha (ih a (by omega)) (req:=7) (by omega) (k:=k + 1) (by omega) (Y:=sgT [91] :: (tkB b ++ sgT [93] :: Y)) (pre_seven _)
     refine ⟨.mk 43 [] 0 0 [a',b'],ndE rfl ht hn (LsE.two a1 b1),?_⟩
     have e:tkAt a 7 ++ sgT [91] :: (tkB b ++ [sgT [93]]) ++ Y=tkAt a 7 ++ sgT [91] :: (tkB b ++ sgT [93] :: Y):=by simp
     rw [e]
     exact a2.trans (post_index b2)
   | @int n p t ht h1 h2=>
     rw [tkB_int]
     refine ⟨.mk 44 [] n 0 [],ndE rfl ht rfl LsE.nil,?_⟩
     show primP (loK k) (intTk n ++ Y)= .ok (.mk 44 [] n 0 [],Y)
     unfold intTk
     by_cases hneg:n < 0
     ·rw [if_pos hneg]
      show primP (loK k) (sgT [45] :: itT (-n) :: Y)=_
      unfold primP
      rw [if_pos (.inr (isB_same (s:=[45]) (t:=sgT [45]) (.inr rfl) rfl _))]
      unfold intP
      rw [if_pos (isB_same (s:=[45]) (t:=sgT [45]) (.inr rfl) rfl _)]
      have t1:takeP 3 (itT (-n) :: Y)= .ok (itT (-n),Y):=rfl
      show bd (takeP 3) _ (itT (-n) :: Y)=_
      rw [bd_ok t1]
      have hw:IntKind.i64.wrap (0 - (itT (-n)).n)=n:=by
       show IntKind.i64.wrap (0 - -n)=n
       rw [wrap_i64_id _ (by omega) (by omega)]; omega
      show ret (Nd.mk 44 [] (IntKind.i64.wrap (0 - (itT (-n)).n)) 0 []) Y=_
      rw [hw]; rfl
     ·rw [if_neg hneg]; rfl
   | @quote n p t ht hn=>
     rw [tkB_quote]
     exact ⟨.mk 47 t 0 0 [],ndE rfl rfl hn LsE.nil,rfl⟩
   | @name n p t ht hn=>
     rw [tkB_name]
     exact ⟨.mk 48 t 0 0 [],ndE rfl rfl hn LsE.nil,rfl⟩
   | @call n p t ks ht hn hk'=>
     rw [opB_call] at hk
     rw [tkB_call]
     simp only [sizeN] at h
     obtain ⟨k,rfl⟩:∃ k',k=k' + 1:=⟨k - 1,by omega⟩
     have e:kwT t :: opT :: (tkA t true ks ++ [clT]) ++ Y=kwT t :: opT :: (tkA t true ks ++ clT :: Y):=by simp
     rw [e]
     have hl:∃ m,LsE ks m∧listP (argP (exprP (loK k)) t) (tkA t true ks ++ clT :: Y)= .ok (m,Y):=by
      cases ks with
      | nil=>exact ⟨[],LsE.nil,by rw [tkA]; unfold listP; rw [List.nil_append,if_pos (isB_same (s:=[41]) (t:=clT) (.inr rfl) rfl _)]; rfl⟩
      | cons a r=>
        rw [okA,Bool.and_eq_true] at hk'
        rw [opA] at hk
        simp only [sizeL] at h
        have e2:tkA t true (a :: r) ++ clT :: Y=tkG t a ++ (tkA t false r ++ clT :: Y):=by
         rw [tkA]; simp
        rw [e2]
        have hlen:=tkA_len (fn:=t) r
        obtain ⟨m,e3,e4⟩:=args_rt ih (k:=k) (Y:=Y) r a (tkG t a ++ (tkA t false r ++ clT :: Y)).length [] (by omega) (by omega) hk'.1 hk'.2 (by omega) (by omega) (by simp; omega)
        refine ⟨m,e3,?_⟩
        unfold listP
        rw [if_neg,e4]
        ·rfl
        ·have:isB [41] (tkG t a ++ (tkA t false r ++ clT :: Y))=false:=by
          obtain ⟨c,tt,nn,pp,kk⟩:=a
          have h1:=hk'.1
          rw [okJ.eq_def] at h1
          rw [tkG.eq_def]
          simp only at h1 ⊢
          by_cases q1:t=[114,101,99]
          ·rw [if_pos q1] at h1 ⊢
           match kk,h1 with
           | [x],h1=>rfl
          ·rw [if_neg q1] at h1 ⊢
           by_cases q2:t=[109,97,112]
           ·rw [if_pos q2] at h1 ⊢
            match kk,h1 with
            | [x,y],h1=>
              simp only [Bool.and_eq_true] at h1
              show isB [41] (tkB x ++ sgT [58] :: tkB y ++ _)=false
              rw [List.append_assoc]
              exact first_cl h1.1.2 _
           ·rw [if_neg q2] at h1 ⊢
            exact first_cl h1 _
         rw [this]; decide
     obtain ⟨m,e3,e4⟩:=hl
     exact ⟨.mk 51 t 0 0 m,ndE rfl rfl hn e3,prim_call ht e4⟩
   | @word kk n p t w hw hb ht hn=>
     rw [tkB_word hw]
     refine ⟨.mk kk [] 0 0 [],ndE rfl ht hn LsE.nil,?_⟩
     have hlv:lvN (.mk kk t n p [])=8:=by
      unfold wordK at hw
      repeat' split at hw
      all_goals first
       | (cases hw; done)
       | (rename_i hk; subst hk; rfl)
     rw [hlv]
     exact prim_word hw _ Y
theorem rt_expr {x:Nd} (ho:okB x=true) {k:Nat} (hk:opB x≤k) {Y:List Tk} (hY:Fol 0 Y):∃ x',NdE x x'∧exprP (loK k) (tkB x ++ Y)= .ok (x',Y):=rt_zero ho (rtA_all _ x (Nat.le_refl _)) hk hY
end Go.Proofs.YtmhdkbmnpekpoaaGreatDoor
end
