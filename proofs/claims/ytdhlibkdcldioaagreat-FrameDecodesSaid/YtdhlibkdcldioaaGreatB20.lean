import Derived.Test.YtdhlibkdcldioaaGreatB18
import Derived.Test.YtdhlibkdcldioaaGreatB19
import Derived.Test.YtdhlibkdcldioaaGreatB11
section
set_option linter.unusedSimpArgs false
set_option linter.unusedVariables false
set_option maxRecDepth 8000
namespace Go.Proofs.YtdhlibkdcldioaaGreat
open Gx Go
abbrev LI (O0:List Nat) (H0:Heap) (N b:Nat) (L:Bs) (s:Pl) (H:Heap) (l:List Ent) (ds:List (Dat × List Value)):Prop:=Lv O0 H0 [b] (fun H=>N≤H0.size∧InO H N b L s) H l ds
def RdI (H:Heap) (N b:Nat) (L:Bs) (s:Pl) (t:Ty) (v:Value) (H':Heap):Prop:=
 ∃ cs,v=argOf t cs∧RepP H' (fun x=>x < H.size) (datT t (dT L t s).1) cs∧InO H' N b L (dT L t s).2∧Fr [b] H H'
section
variable {O0:List Nat} {H0 H H':Heap} {N b:Nat} {L:Bs} {s s':Pl} {l:List Ent} {ds:List (Dat × List Value)}
theorem LI.start (hN:N≤H.size) (h:InO H N b L s):LI [b] H N b L s H [] []:=
 Lv.start (by simp; exact h.lt) fun M H' hf hM=>⟨hN,h.fr hf (fun hm=>(hM b hm).2 (by simp)) fun x hx=>Nat.le_trans hN (hM x hx).1⟩
theorem _root_.Gx.Lv.io (W:LI O0 H0 N b L s H l ds):InO H N b L s:=(Lv.st W).2
theorem _root_.Gx.Lv.ge (W:LI O0 H0 N b L s H l ds):N≤H.size:=Nat.le_trans (Lv.st W).1 W.fr.size
theorem _root_.Gx.Lv.callI (W:LI O0 H0 N b L s H l ds) (hf:Fr [b] H H') (hs:InO H' N b L s'):LI O0 H0 N b L s' H' l ds:=
 Lv.call W hf fun M H'' hf' hM=>⟨(Lv.st W).1,hs.fr hf' (fun hm=>(hM b hm).2 (by simp)) fun x hx=>Nat.le_trans (Lv.st W).1 (hM x hx).1⟩
theorem _root_.Gx.Lv.got (W:LI O0 H0 N b L s H l ds) {d:Dat} {cs:List Value} (hf:Fr [b] H H') (hs:InO H' N b L s') (hr:RepP H' (fun x=>x < H.size) d cs):LI O0 H0 N b L s' H' l ((d,cs) :: ds):=
 (W.callI hf hs).add (Lv.built W hr)
theorem _root_.Gx.Lv.doneI (W:LI O0 H0 N b L s H l ds) {d:Dat} {cs:List Value} (h:(d,cs) ∈ ds):RepP H (fun x=>x < H0.size) d cs:=(W.dat _ h).more fun x hx=>.inl (.inl hx)
theorem _root_.Gx.Lv.outI (W:LI O0 H0 N b L s H l ds) {d:Dat} {cs:List Value} (h:RepP H (Lk H0.size [b] l) d cs):RepP H (fun x=>x < H0.size) d cs:=h.more fun x hx=>.inl (.inl hx)
theorem _root_.Gx.Lv.rowI {e m:Nat} {v:Value} {dl:List Dat} {g:Option Nat} (W:LI O0 H0 N b L s H (.row e m v dl g :: l) ds):LI O0 H0 N b L s H l ((.list m dl,[v]) :: ds):=Lv.rowDone W 0 rfl
end
theorem _root_.Gx.Lv.finI {H H':Heap} {N b:Nat} {L:Bs} {s q:Pl} {t:Ty} {e m:Nat} {v:Value} {go:Option Nat} {ds:List (den t)} (W:LI [b] H N b L q H' [.row e m v (ds.map (datT t)) go] []) (hD:dT L (.list t) s=(ds,q)) (hm:m=wid t:=by rfl):RdI H N b L s (.list t) v H':=by
 subst hm
 refine ⟨[v],rfl,?_,by rw [hD]; exact W.io,W.fr⟩
 rw [hD]
 exact W.rowI.doneI (by simp [datT])
theorem repO_next {α:Type} {f:Pl→α × Pl} {n i p:Nat} {q:Pl} {x:α} (hi:i < n) (h:f (some p)=(x,q)):repO f (n - i) (some p)=(x :: (repO f (n - (i + 1)) q).1,(repO f (n - (i + 1)) q).2):=by
 rw [show n - i=(n - (i + 1)) + 1 by omega,repO_succ,h]
theorem fin_ok {H:Heap} {N b:Nat} {L:Bs} {s:Pl} (h:InO H N b L s):HCalls Tryz.prog 36 #[pF b] H fun v H'=>v= .int .i64 (dT L .num s).1∧InO H' N b L (dT L .num s).2∧Fr [b] H H':=by
 refine calls_of_vc (args:=[_]) Tryz.func36 c36ok (Nat.le_of_ble_eq_true rfl) ?_
 have hz:=zag_in (uintO_lt L s)
 have hx:IntKind.i64.wrap (zag (uintO L s).1)=zag (uintO L s).1:=wrap_i64_id _ hz.1 hz.2
 simp (implicitDefEqProofs:=false) only [go_sem,c36,pF]
 refine (iint_o h).mono ?_
 rintro v H2 ⟨rfl,h2,hf2⟩
 simp (implicitDefEqProofs:=false) only [go_sem,hx]
 exact ⟨rfl,h2,hf2⟩
theorem ibool_o {H:Heap} {N b:Nat} {L:Bs} {s:Pl} (h:InO H N b L s):HCalls Tryz.prog 108 #[.pointer (some ⟨b,0,none⟩)] H fun v H'=>v= .bool (boolO L s).1∧InO H' N b L (boolO L s).2∧Fr [b] H H':=by
 refine calls_of_vc (args:=[_]) Tryz.func108 c108ok (Nat.le_of_ble_eq_true rfl) ?_
 cases s with
 | none=>
   obtain ⟨p,l,a,c,hb,h2,h3,h4,h5,h6,h7⟩:=h
   have hc:=hb.cell
   simp (implicitDefEqProofs:=false) only [go_sem,c108,hc]
   exact ⟨rfl,⟨p,l,a,c,hb,h2,h3,h4,h5,h6,h7⟩,Fr.refl _ _⟩
 | some p=>
   obtain ⟨l,a,c,hb,h2,h3,h4,h5,h6,h7⟩:=h
   have hc:=hb.cell
   simp (implicitDefEqProofs:=false) only [go_sem,c108,hc]
   refine Sto_one hb (by simp) rfl fun H1 hb1 hf1 hs1=>?_
   have hc1:=hb1.cell
   have h21:=bsR_fr0 h2 hf1 (fun b1 o e hn=>by have:=(h3 b1 o e hn).1; simpa using this)
   rcases Nat.lt_or_ge p L.length with hlt | hge
   ·have hd:L.drop p=L[p] :: L.drop (p + 1):=List.drop_eq_getElem_cons hlt
    obtain ⟨b',o,rfl,hcl⟩:∃ b o,a=some ⟨b,o,none⟩∧∀ j (hj:j < L.length),cellB H1 b (o + j)=some (bv L[j]):=by
     rcases h21 with h | h
     ·rw [h] at hlt; simp at hlt
     ·exact h
    have hcj:=hcl p hlt
    have z0:¬ (L.length:Int)≤(p:Int):=by omega
    have z1:(0:Int)≤(p:Int):=by omega
    have z2:(p:Int) < (L.length:Int):=by omega
    generalize L[p]=x at hcj hd
    by_cases h1:1 < x.toNat
    ·have hB:boolO L (some p)=(false,none):=by simp only [boolO,hd]; rw [if_pos h1]
     have h1':(1:Int) < (x.toNat:Int):=by omega
     rw [hB]
     simp (implicitDefEqProofs:=false) only [go_sem,hc1,hcj,bv,z0,z1,z2,h1']
     refine Sto_one hb1 (by simp) rfl fun H3 hb3 hf3 hs3=>?_
     simp (implicitDefEqProofs:=false) only [go_sem]
     exact ⟨⟨p,p,InB.upd h21 h3 h6 h7 hb3 hf3 h4 h4⟩,hf1.trans hf3⟩
    ·have h1':¬ (1:Int) < (x.toNat:Int):=by omega
     have hw:IntKind.i64.wrap ((p:Int) + 1)=((p + 1:Nat):Int):=by rw [wrap_i64_id _ (by omega) (by omega)]; omega
     have hw2:IntKind.i64.wrap (((p + 1:Nat):Int) - 1)=(p:Int):=by rw [wrap_i64_id _ (by omega) (by omega)]; omega
     have hB:boolO L (some p)=(x.toNat == 1,some (p + 1)):=by simp only [boolO,hd]; rw [if_neg h1]
     rw [hB]
     simp (implicitDefEqProofs:=false) only [go_sem,hc1,hcj,bv,z0,z1,z2,h1',hw]
     refine Sto_one hb1 (by simp) rfl fun H3 hb3 hf3 hs3=>?_
     have hc3:=hb3.cell
     have hcj3:=cellB_fr hcj hf3 (by have:=(h3 b' o rfl (fun e=>by rw [e] at hlt; simp at hlt)).1; simpa using this)
     simp (implicitDefEqProofs:=false) only [go_sem,hc3,hcj3,bv,z1,z2,hw2]
     refine ⟨?_,⟨p,InB.upd h21 h3 h6 h7 hb3 hf3 (by omega) h4⟩,hf1.trans hf3⟩
     have e:(x.toNat == 1)=decide ((x.toNat:Int)=1):=by
      by_cases q:x.toNat=1
      ·rw [q]; rfl
      ·rw [beq_eq_false_iff_ne.2 q,decide_eq_false (by omega)]
     rw [e]
   ·have hd:L.drop p=[]:=List.drop_eq_nil_of_le hge
    have z0:(L.length:Int)≤(p:Int):=by omega
    have hB:boolO L (some p)=(false,none):=by simp only [boolO,hd]
    rw [hB]
    simp (implicitDefEqProofs:=false) only [go_sem,hc1,z0]
    refine Sto_one hb1 (by simp) rfl fun H3 hb3 hf3 hs3=>?_
    simp (implicitDefEqProofs:=false) only [go_sem]
    exact ⟨⟨p,p,InB.upd h21 h3 h6 h7 hb3 hf3 h4 h4⟩,hf1.trans hf3⟩
theorem fbytes_r {H:Heap} {N b:Nat} {L:Bs} {s:Pl} (h:InO H N b L s):HCalls Tryz.prog 104 #[pF b] H (RdI H N b L s .bytes):=by
 refine (ibytes_o h).mono ?_
 rintro v H' ⟨a,c,g',rfl,ho,hg,h1,hf⟩
 exact ⟨_,rfl,RepP.bytes ho fun k hk=>by have:=hg k hk; omega,h1,hf⟩
end Go.Proofs.YtdhlibkdcldioaaGreat
end
section
set_option linter.unusedSimpArgs false
set_option linter.unusedVariables false
set_option maxRecDepth 8000
namespace Go.Proofs.YtdhlibkdcldioaaGreat
open Gx Go
set_option maxHeartbeats 4000000 in
theorem takeRound_ok {H:Heap} {N b:Nat} {Z:Bs} {s:Pl} (hN:N≤H.size) (h:InO H N b Z s):HCalls Tryz.prog 37 #[pF b] H (RdI H N b Z s tRound):=by
 have L:=LI.start hN h
 obtain ⟨q0,hq0⟩:∃ q0,q0=s:=⟨_,rfl⟩
 rw [← hq0] at L
 obtain ⟨d0,q1,e0⟩:∃ d s,dT Z .num q0=(d,s):=⟨_,_,rfl⟩
 obtain ⟨d1,q2,e1⟩:∃ d s,dT Z .num q1=(d,s):=⟨_,_,rfl⟩
 obtain ⟨d2,q3,e2⟩:∃ d s,dT Z .num q2=(d,s):=⟨_,_,rfl⟩
 have hDe:dT Z tRound q0=((d0,d1,d2),q3):=by simp only [dT_pair,e0,e1,e2]
 refine calls_of_vc (args:=[_]) Tryz.func37 c37ok (Nat.le_of_ble_eq_true rfl) ?_
 simp (implicitDefEqProofs:=false) only [go_sem,c37,pF]
 refine Lv.newP L fun b0 H0 L=>?_
 simp (implicitDefEqProofs:=false) only [go_sem]
 refine (fin_ok L.io).mono ?_
 rintro v X0 ⟨rfl,hs0,hf0⟩
 rw [e0] at hs0 ⊢
 have L:=L.callI hf0 hs0
 simp (implicitDefEqProofs:=false) only [go_sem]
 refine Lv.newP L fun bx H3 L=>?_
 simp (implicitDefEqProofs:=false) only [go_sem]
 refine Lv.stoAll L 0 rfl rfl (by simp [Value.oneCell']) fun H4 L=>?_
 simp only [List.set_cons_zero,List.set_cons_succ,List.set_nil,List.eraseIdx_cons_zero,List.eraseIdx_cons_succ] at L
 simp (implicitDefEqProofs:=false) only [go_sem]
 refine (fin_ok L.io).mono ?_
 rintro v X1 ⟨rfl,hs1,hf1⟩
 rw [e1] at hs1 ⊢
 have L:=L.callI hf1 hs1
 simp (implicitDefEqProofs:=false) only [go_sem]
 refine Lv.stoOne L 0 rfl (by simp) rfl fun Y1 L=>?_
 simp only [List.set_cons_zero,List.set_cons_succ,List.set_nil,List.eraseIdx_cons_zero,List.eraseIdx_cons_succ] at L
 simp (implicitDefEqProofs:=false) only [go_sem]
 refine (fin_ok L.io).mono ?_
 rintro v X2 ⟨rfl,hs2,hf2⟩
 rw [e2] at hs2 ⊢
 have L:=L.callI hf2 hs2
 simp (implicitDefEqProofs:=false) only [go_sem]
 refine Lv.stoOne L 0 rfl (by simp) rfl fun Y2 L=>?_
 simp only [List.set_cons_zero,List.set_cons_succ,List.set_nil,List.eraseIdx_cons_zero,List.eraseIdx_cons_succ] at L
 simp (implicitDefEqProofs:=false) only [go_sem]
 have c0:=L.cell 0 rfl
 simp (implicitDefEqProofs:=false) only [go_sem,c0]
 refine Lv.stoAll L 1 rfl rfl (by simp [Value.oneCell']) fun H9 L=>?_
 simp only [List.set_cons_zero,List.set_cons_succ,List.set_nil,List.eraseIdx_cons_zero,List.eraseIdx_cons_succ] at L
 have c1:=L.cell 1 rfl
 simp (implicitDefEqProofs:=false) only [go_sem,c1]
 refine ⟨[.int .i64 d0,.int .i64 d1,.int .i64 d2],rfl,?_,by rw [← hq0,hDe]; exact L.io,L.fr⟩
 rw [← hq0,hDe]
 exact L.outI (RepP.pair (RepP.v _) (RepP.pair (RepP.v _) (RepP.v _)))
set_option maxHeartbeats 4000000 in
theorem takeReads_ok {H:Heap} {N b:Nat} {Z:Bs} {s:Pl} (hN:N≤H.size) (hL:Z.length < 2^36) (h:InO H N b Z s):HCalls Tryz.prog 38 #[pF b] H (RdI H N b Z s (.list tRead)):=by
 have L:=LI.start hN h
 refine calls_of_vc (args:=[_]) Tryz.func38 c38ok (Nat.le_of_ble_eq_true rfl) ?_
 have hnL:=countO_le Z s
 simp (implicitDefEqProofs:=false) only [go_sem,c38,pF]
 refine Lv.newS L fun b1 H1 L=>?_
 have L:LI [b] H N b Z s H1 [.row 92 3 (.slice (some ⟨b1,0,none⟩) 0 0) [] (some b1)] []:=Lv.rowOwn L (css:=[]) (m:=3) (dl:=[]) rfl (by simp) RepsP.nil rfl (by decide)
 simp (implicitDefEqProofs:=false) only [go_sem]
 refine (icount_o L.io).mono ?_
 rintro v H2 ⟨rfl,hs2,hf2⟩
 have L:=L.callI hf2 hs2
 have hD:dT Z (.list tRead) s=repO (dT Z tRead) (countO Z s).1 (countO Z s).2:=rfl
 generalize (countO Z s).1=n at *
 generalize (countO Z s).2=s1 at *
 simp (implicitDefEqProofs:=false) only [go_sem]
 refine vc_loop (fun (x:Nat × List (den tRead) × Pl × Value × Option Nat) H'=>x.1≤n∧x.2.1.length=x.1∧LI [b] H N b Z x.2.2.1 H' [.row 92 3 x.2.2.2.1 (x.2.1.map (datT tRead)) x.2.2.2.2] []∧repO (dT Z tRead) n s1=(x.2.1 ++ (repO (dT Z tRead) (n - x.1) x.2.2.1).1,(repO (dT Z tRead) (n - x.1) x.2.2.1).2))
  (fun x=>[(0,.pointer (some ⟨b,0,none⟩)),(3,x.2.2.2.1),(4,.int .i64 n),(5,.int .i64 x.1)]) (fun x=>n - x.1) (0,[],s1,.slice (some ⟨b1,0,none⟩) 0 0,some b1) ?_ ?_ ?_
 ·exact ⟨Nat.zero_le _,rfl,L,by simp⟩
 ·simp (implicitDefEqProofs:=false) only [go_sem]
 ·rintro ⟨i,ds,q,vo,go⟩ H' ⟨hi,hdl,L,hrep⟩
  simp only at hi hdl L hrep
  have hbad:=L.io.bad
  rcases Nat.lt_or_ge i n with hlt | hge
  case' inr=>
   have hge':¬ (i:Int) < (n:Int):=by omega
   obtain rfl:i=n:=by omega
   simp (implicitDefEqProofs:=false) only [go_sem,hge',hbad]
   exact L.finI (by rw [hD,hrep,Nat.sub_self]; simp [repO])
  have hlt':(i:Int) < (n:Int):=by omega
  cases q with
  | none=>
    simp (implicitDefEqProofs:=false) only [go_sem,hlt',hbad]
    exact L.finI (by rw [hD,hrep,repO_none]; simp)
  | some p=>
  have hw1:=succ_i64 i n hlt (by omega)
  obtain ⟨q0,hq0⟩:∃ q0,q0=some p:=⟨_,rfl⟩
  rw [← hq0] at L hrep
  have hbad:cellB H' b 3=some (.bool false):=hbad
  simp (implicitDefEqProofs:=false) only [go_sem,hlt',hbad]
  obtain ⟨d0,q1,e0⟩:∃ d s,dT Z .num q0=(d,s):=⟨_,_,rfl⟩
  obtain ⟨d1,q2,e1⟩:∃ d s,dT Z .num q1=(d,s):=⟨_,_,rfl⟩
  obtain ⟨d2,q3,e2⟩:∃ d s,dT Z .bytes q2=(d,s):=⟨_,_,rfl⟩
  have hDe:dT Z tRead q0=((d0,d1,d2),q3):=by simp only [dT_pair,e0,e1,e2]
  refine (fin_ok L.io).mono ?_
  rintro v X0 ⟨rfl,hs0,hf0⟩
  rw [e0] at hs0 ⊢
  have L:=L.callI hf0 hs0
  simp (implicitDefEqProofs:=false) only [go_sem]
  refine Lv.newP L fun bx H3 L=>?_
  simp (implicitDefEqProofs:=false) only [go_sem]
  refine Lv.stoAll L 0 rfl rfl (by simp [Value.oneCell']) fun H4 L=>?_
  simp only [List.set_cons_zero,List.set_cons_succ,List.set_nil,List.eraseIdx_cons_zero,List.eraseIdx_cons_succ] at L
  simp (implicitDefEqProofs:=false) only [go_sem]
  refine (fin_ok L.io).mono ?_
  rintro v X1 ⟨rfl,hs1,hf1⟩
  rw [e1] at hs1 ⊢
  have L:=L.callI hf1 hs1
  simp (implicitDefEqProofs:=false) only [go_sem]
  refine Lv.stoOne L 0 rfl (by simp) rfl fun Y1 L=>?_
  simp only [List.set_cons_zero,List.set_cons_succ,List.set_nil,List.eraseIdx_cons_zero,List.eraseIdx_cons_succ] at L
  simp (implicitDefEqProofs:=false) only [go_sem]
  refine (fbytes_r L.io).mono ?_
  rintro v X2 ⟨cs,rfl,hr2,hs2,hf2⟩
  rw [e2] at hs2 hr2
  obtain ⟨a2,cc2,rfl,_⟩:=rep_bytes.1 hr2.rep
  have L:=L.got hf2 hs2 hr2
  simp (implicitDefEqProofs:=false) only [go_sem]
  refine Lv.stoOne L 0 rfl (by simp) rfl fun Y2 L=>?_
  simp only [List.set_cons_zero,List.set_cons_succ,List.set_nil,List.eraseIdx_cons_zero,List.eraseIdx_cons_succ] at L
  simp (implicitDefEqProofs:=false) only [go_sem]
  have c0:=L.cell 0 rfl
  simp (implicitDefEqProofs:=false) only [go_sem,c0]
  refine Lv.newS L fun b9 H9 L=>?_
  have L2:=Lv.drop L (List.sublist_cons_self _ _) fun p hp=>hp
  simp (implicitDefEqProofs:=false) only [go_sem]
  refine Lv.app (d:=datT tRead (d0,d1,d2)) L EReadID 1 rfl Tryz.underlying30 rfl (by simp [Value.oneCell']) (RepP.pair (RepP.v _) (RepP.pair (RepP.v _) (L2.dat (datT .bytes d2,[.slice a2 d2.length cc2]) (by simp)))) rfl (by simp only [List.length_map]; unfold maxLen; omega) (by simp only [List.length_map]; omega) fun a' c' g' H10 L=>?_
  simp only [List.set_cons_zero,List.set_cons_succ,List.set_nil,List.eraseIdx_cons_zero,List.eraseIdx_cons_succ] at L
  simp (implicitDefEqProofs:=false) only [go_sem]
  have L:=Lv.drop L (ds':=[]) (List.sublist_cons_self _ _) fun p hp=>by simp at hp
  have hnx:=repO_next (f:=dT Z tRead) hlt (hq0 ▸ hDe)
  rw [← hq0] at hnx
  refine loopK_intro (i + 1,ds ++ [(d0,d1,d2)],q3,.slice a' ((ds.map (datT tRead)).length + 1) c',g') (by show n - (i + 1) < n - i; omega) ?_ ⟨hlt,by simp [hdl],?_,?_⟩
  ·simp (implicitDefEqProofs:=false) only [go_sem,hw1]
  ·simpa using L
  ·rw [hrep,hnx]; simp
set_option maxHeartbeats 4000000 in
theorem takeAcks_ok {H:Heap} {N b:Nat} {Z:Bs} {s:Pl} (hN:N≤H.size) (hL:Z.length < 2^36) (h:InO H N b Z s):HCalls Tryz.prog 41 #[pF b] H (RdI H N b Z s (.list tAck)):=by
 have L:=LI.start hN h
 refine calls_of_vc (args:=[_]) Tryz.func41 c41ok (Nat.le_of_ble_eq_true rfl) ?_
 have hnL:=countO_le Z s
 simp (implicitDefEqProofs:=false) only [go_sem,c41,pF]
 refine Lv.newS L fun b1 H1 L=>?_
 have L:LI [b] H N b Z s H1 [.row 103 2 (.slice (some ⟨b1,0,none⟩) 0 0) [] (some b1)] []:=Lv.rowOwn L (css:=[]) (m:=2) (dl:=[]) rfl (by simp) RepsP.nil rfl (by decide)
 simp (implicitDefEqProofs:=false) only [go_sem]
 refine (icount_o L.io).mono ?_
 rintro v H2 ⟨rfl,hs2,hf2⟩
 have L:=L.callI hf2 hs2
 have hD:dT Z (.list tAck) s=repO (dT Z tAck) (countO Z s).1 (countO Z s).2:=rfl
 generalize (countO Z s).1=n at *
 generalize (countO Z s).2=s1 at *
 simp (implicitDefEqProofs:=false) only [go_sem]
 refine vc_loop (fun (x:Nat × List (den tAck) × Pl × Value × Option Nat) H'=>x.1≤n∧x.2.1.length=x.1∧LI [b] H N b Z x.2.2.1 H' [.row 103 2 x.2.2.2.1 (x.2.1.map (datT tAck)) x.2.2.2.2] []∧repO (dT Z tAck) n s1=(x.2.1 ++ (repO (dT Z tAck) (n - x.1) x.2.2.1).1,(repO (dT Z tAck) (n - x.1) x.2.2.1).2))
  (fun x=>[(0,.pointer (some ⟨b,0,none⟩)),(3,x.2.2.2.1),(4,.int .i64 n),(5,.int .i64 x.1)]) (fun x=>n - x.1) (0,[],s1,.slice (some ⟨b1,0,none⟩) 0 0,some b1) ?_ ?_ ?_
 ·exact ⟨Nat.zero_le _,rfl,L,by simp⟩
 ·simp (implicitDefEqProofs:=false) only [go_sem]
 ·rintro ⟨i,ds,q,vo,go⟩ H' ⟨hi,hdl,L,hrep⟩
  simp only at hi hdl L hrep
  have hbad:=L.io.bad
  rcases Nat.lt_or_ge i n with hlt | hge
  case' inr=>
   have hge':¬ (i:Int) < (n:Int):=by omega
   obtain rfl:i=n:=by omega
   simp (implicitDefEqProofs:=false) only [go_sem,hge',hbad]
   exact L.finI (by rw [hD,hrep,Nat.sub_self]; simp [repO])
  have hlt':(i:Int) < (n:Int):=by omega
  cases q with
  | none=>
    simp (implicitDefEqProofs:=false) only [go_sem,hlt',hbad]
    exact L.finI (by rw [hD,hrep,repO_none]; simp)
  | some p=>
  have hw1:=succ_i64 i n hlt (by omega)
  obtain ⟨q0,hq0⟩:∃ q0,q0=some p:=⟨_,rfl⟩
  rw [← hq0] at L hrep
  have hbad:cellB H' b 3=some (.bool false):=hbad
  simp (implicitDefEqProofs:=false) only [go_sem,hlt',hbad]
  obtain ⟨d0,q1,e0⟩:∃ d s,dT Z .num q0=(d,s):=⟨_,_,rfl⟩
  obtain ⟨d1,q2,e1⟩:∃ d s,dT Z .bytes q1=(d,s):=⟨_,_,rfl⟩
  have hDe:dT Z tAck q0=((d0,d1),q2):=by simp only [dT_pair,e0,e1]
  refine (fin_ok L.io).mono ?_
  rintro v X0 ⟨rfl,hs0,hf0⟩
  rw [e0] at hs0 ⊢
  have L:=L.callI hf0 hs0
  simp (implicitDefEqProofs:=false) only [go_sem]
  refine Lv.newP L fun bx H3 L=>?_
  simp (implicitDefEqProofs:=false) only [go_sem]
  refine Lv.stoAll L 0 rfl rfl (by simp [Value.oneCell']) fun H4 L=>?_
  simp only [List.set_cons_zero,List.set_cons_succ,List.set_nil,List.eraseIdx_cons_zero,List.eraseIdx_cons_succ] at L
  simp (implicitDefEqProofs:=false) only [go_sem]
  refine (fbytes_r L.io).mono ?_
  rintro v X1 ⟨cs,rfl,hr1,hs1,hf1⟩
  rw [e1] at hs1 hr1
  obtain ⟨a1,cc1,rfl,_⟩:=rep_bytes.1 hr1.rep
  have L:=L.got hf1 hs1 hr1
  simp (implicitDefEqProofs:=false) only [go_sem]
  refine Lv.stoOne L 0 rfl (by simp) rfl fun Y1 L=>?_
  simp only [List.set_cons_zero,List.set_cons_succ,List.set_nil,List.eraseIdx_cons_zero,List.eraseIdx_cons_succ] at L
  simp (implicitDefEqProofs:=false) only [go_sem]
  have c0:=L.cell 0 rfl
  simp (implicitDefEqProofs:=false) only [go_sem,c0]
  refine Lv.newS L fun b9 H9 L=>?_
  have L2:=Lv.drop L (List.sublist_cons_self _ _) fun p hp=>hp
  simp (implicitDefEqProofs:=false) only [go_sem]
  refine Lv.app (d:=datT tAck (d0,d1)) L EAck 1 rfl Tryz.underlying33 rfl (by simp [Value.oneCell']) (RepP.pair (RepP.v _) (L2.dat (datT .bytes d1,[.slice a1 d1.length cc1]) (by simp))) rfl (by simp only [List.length_map]; unfold maxLen; omega) (by simp only [List.length_map]; omega) fun a' c' g' H10 L=>?_
  simp only [List.set_cons_zero,List.set_cons_succ,List.set_nil,List.eraseIdx_cons_zero,List.eraseIdx_cons_succ] at L
  simp (implicitDefEqProofs:=false) only [go_sem]
  have L:=Lv.drop L (ds':=[]) (List.sublist_cons_self _ _) fun p hp=>by simp at hp
  have hnx:=repO_next (f:=dT Z tAck) hlt (hq0 ▸ hDe)
  rw [← hq0] at hnx
  refine loopK_intro (i + 1,ds ++ [(d0,d1)],q2,.slice a' ((ds.map (datT tAck)).length + 1) c',g') (by show n - (i + 1) < n - i; omega) ?_ ⟨hlt,by simp [hdl],?_,?_⟩
  ·simp (implicitDefEqProofs:=false) only [go_sem,hw1]
  ·simpa using L
  ·rw [hrep,hnx]; simp
set_option maxHeartbeats 4000000 in
theorem takeDigests_ok {H:Heap} {N b:Nat} {Z:Bs} {s:Pl} (hN:N≤H.size) (hL:Z.length < 2^36) (h:InO H N b Z s):HCalls Tryz.prog 43 #[pF b] H (RdI H N b Z s (.list tDigest)):=by
 have L:=LI.start hN h
 refine calls_of_vc (args:=[_]) Tryz.func43 c43ok (Nat.le_of_ble_eq_true rfl) ?_
 have hnL:=countO_le Z s
 simp (implicitDefEqProofs:=false) only [go_sem,c43,pF]
 refine Lv.newS L fun b1 H1 L=>?_
 have L:LI [b] H N b Z s H1 [.row 68 3 (.slice (some ⟨b1,0,none⟩) 0 0) [] (some b1)] []:=Lv.rowOwn L (css:=[]) (m:=3) (dl:=[]) rfl (by simp) RepsP.nil rfl (by decide)
 simp (implicitDefEqProofs:=false) only [go_sem]
 refine (icount_o L.io).mono ?_
 rintro v H2 ⟨rfl,hs2,hf2⟩
 have L:=L.callI hf2 hs2
 have hD:dT Z (.list tDigest) s=repO (dT Z tDigest) (countO Z s).1 (countO Z s).2:=rfl
 generalize (countO Z s).1=n at *
 generalize (countO Z s).2=s1 at *
 simp (implicitDefEqProofs:=false) only [go_sem]
 refine vc_loop (fun (x:Nat × List (den tDigest) × Pl × Value × Option Nat) H'=>x.1≤n∧x.2.1.length=x.1∧LI [b] H N b Z x.2.2.1 H' [.row 68 3 x.2.2.2.1 (x.2.1.map (datT tDigest)) x.2.2.2.2] []∧repO (dT Z tDigest) n s1=(x.2.1 ++ (repO (dT Z tDigest) (n - x.1) x.2.2.1).1,(repO (dT Z tDigest) (n - x.1) x.2.2.1).2))
  (fun x=>[(0,.pointer (some ⟨b,0,none⟩)),(3,x.2.2.2.1),(4,.int .i64 n),(5,.int .i64 x.1)]) (fun x=>n - x.1) (0,[],s1,.slice (some ⟨b1,0,none⟩) 0 0,some b1) ?_ ?_ ?_
 ·exact ⟨Nat.zero_le _,rfl,L,by simp⟩
 ·simp (implicitDefEqProofs:=false) only [go_sem]
 ·rintro ⟨i,ds,q,vo,go⟩ H' ⟨hi,hdl,L,hrep⟩
  simp only at hi hdl L hrep
  have hbad:=L.io.bad
  rcases Nat.lt_or_ge i n with hlt | hge
  case' inr=>
   have hge':¬ (i:Int) < (n:Int):=by omega
   obtain rfl:i=n:=by omega
   simp (implicitDefEqProofs:=false) only [go_sem,hge',hbad]
   exact L.finI (by rw [hD,hrep,Nat.sub_self]; simp [repO])
  have hlt':(i:Int) < (n:Int):=by omega
  cases q with
  | none=>
    simp (implicitDefEqProofs:=false) only [go_sem,hlt',hbad]
    exact L.finI (by rw [hD,hrep,repO_none]; simp)
  | some p=>
  have hw1:=succ_i64 i n hlt (by omega)
  obtain ⟨q0,hq0⟩:∃ q0,q0=some p:=⟨_,rfl⟩
  rw [← hq0] at L hrep
  have hbad:cellB H' b 3=some (.bool false):=hbad
  simp (implicitDefEqProofs:=false) only [go_sem,hlt',hbad]
  obtain ⟨d0,q1,e0⟩:∃ d s,dT Z .bytes q0=(d,s):=⟨_,_,rfl⟩
  obtain ⟨d1,q2,e1⟩:∃ d s,dT Z .bytes q1=(d,s):=⟨_,_,rfl⟩
  obtain ⟨d2,q3,e2⟩:∃ d s,dT Z .num q2=(d,s):=⟨_,_,rfl⟩
  have hDe:dT Z tDigest q0=((d0,d1,d2),q3):=by simp only [dT_pair,e0,e1,e2]
  refine (fbytes_r L.io).mono ?_
  rintro v X0 ⟨cs,rfl,hr0,hs0,hf0⟩
  rw [e0] at hs0 hr0
  obtain ⟨a0,cc0,rfl,_⟩:=rep_bytes.1 hr0.rep
  have L:=L.got hf0 hs0 hr0
  simp (implicitDefEqProofs:=false) only [go_sem]
  refine Lv.newP L fun bx H3 L=>?_
  simp (implicitDefEqProofs:=false) only [go_sem]
  refine Lv.stoAll L 0 rfl rfl (by simp [Value.oneCell']) fun H4 L=>?_
  simp only [List.set_cons_zero,List.set_cons_succ,List.set_nil,List.eraseIdx_cons_zero,List.eraseIdx_cons_succ] at L
  simp (implicitDefEqProofs:=false) only [go_sem]
  refine (fbytes_r L.io).mono ?_
  rintro v X1 ⟨cs,rfl,hr1,hs1,hf1⟩
  rw [e1] at hs1 hr1
  obtain ⟨a1,cc1,rfl,_⟩:=rep_bytes.1 hr1.rep
  have L:=L.got hf1 hs1 hr1
  simp (implicitDefEqProofs:=false) only [go_sem]
  refine Lv.stoOne L 0 rfl (by simp) rfl fun Y1 L=>?_
  simp only [List.set_cons_zero,List.set_cons_succ,List.set_nil,List.eraseIdx_cons_zero,List.eraseIdx_cons_succ] at L
  simp (implicitDefEqProofs:=false) only [go_sem]
  refine (fin_ok L.io).mono ?_
  rintro v X2 ⟨rfl,hs2,hf2⟩
  rw [e2] at hs2 ⊢
  have L:=L.callI hf2 hs2
  simp (implicitDefEqProofs:=false) only [go_sem]
  refine Lv.stoOne L 0 rfl (by simp) rfl fun Y2 L=>?_
  simp only [List.set_cons_zero,List.set_cons_succ,List.set_nil,List.eraseIdx_cons_zero,List.eraseIdx_cons_succ] at L
  simp (implicitDefEqProofs:=false) only [go_sem]
  have c0:=L.cell 0 rfl
  simp (implicitDefEqProofs:=false) only [go_sem,c0]
  refine Lv.newS L fun b9 H9 L=>?_
  have L2:=Lv.drop L (List.sublist_cons_self _ _) fun p hp=>hp
  simp (implicitDefEqProofs:=false) only [go_sem]
  refine Lv.app (d:=datT tDigest (d0,d1,d2)) L EDigest 1 rfl Tryz.underlying35 rfl (by simp [Value.oneCell']) (RepP.pair (L2.dat (datT .bytes d0,[.slice a0 d0.length cc0]) (by simp)) (RepP.pair (L2.dat (datT .bytes d1,[.slice a1 d1.length cc1]) (by simp)) (RepP.v _))) rfl (by simp only [List.length_map]; unfold maxLen; omega) (by simp only [List.length_map]; omega) fun a' c' g' H10 L=>?_
  simp only [List.set_cons_zero,List.set_cons_succ,List.set_nil,List.eraseIdx_cons_zero,List.eraseIdx_cons_succ] at L
  simp (implicitDefEqProofs:=false) only [go_sem]
  have L:=Lv.drop L (ds':=[]) (List.sublist_cons_self _ _) fun p hp=>by simp at hp
  have hnx:=repO_next (f:=dT Z tDigest) hlt (hq0 ▸ hDe)
  rw [← hq0] at hnx
  refine loopK_intro (i + 1,ds ++ [(d0,d1,d2)],q3,.slice a' ((ds.map (datT tDigest)).length + 1) c',g') (by show n - (i + 1) < n - i; omega) ?_ ⟨hlt,by simp [hdl],?_,?_⟩
  ·simp (implicitDefEqProofs:=false) only [go_sem,hw1]
  ·simpa using L
  ·rw [hrep,hnx]; simp
set_option maxHeartbeats 4000000 in
theorem takeCommands_ok {H:Heap} {N b:Nat} {Z:Bs} {s:Pl} (hN:N≤H.size) (hL:Z.length < 2^36) (h:InO H N b Z s):HCalls Tryz.prog 40 #[pF b] H (RdI H N b Z s (.list tCmd)):=by
 have L:=LI.start hN h
 refine calls_of_vc (args:=[_]) Tryz.func40 c40ok (Nat.le_of_ble_eq_true rfl) ?_
 have hnL:=countO_le Z s
 simp (implicitDefEqProofs:=false) only [go_sem,c40,pF]
 refine Lv.newS L fun b1 H1 L=>?_
 have L:LI [b] H N b Z s H1 [.row 99 6 (.slice (some ⟨b1,0,none⟩) 0 0) [] (some b1)] []:=Lv.rowOwn L (css:=[]) (m:=6) (dl:=[]) rfl (by simp) RepsP.nil rfl (by decide)
 simp (implicitDefEqProofs:=false) only [go_sem]
 refine (icount_o L.io).mono ?_
 rintro v H2 ⟨rfl,hs2,hf2⟩
 have L:=L.callI hf2 hs2
 have hD:dT Z (.list tCmd) s=repO (dT Z tCmd) (countO Z s).1 (countO Z s).2:=rfl
 generalize (countO Z s).1=n at *
 generalize (countO Z s).2=s1 at *
 simp (implicitDefEqProofs:=false) only [go_sem]
 refine vc_loop (fun (x:Nat × List (den tCmd) × Pl × Value × Option Nat) H'=>x.1≤n∧x.2.1.length=x.1∧LI [b] H N b Z x.2.2.1 H' [.row 99 6 x.2.2.2.1 (x.2.1.map (datT tCmd)) x.2.2.2.2] []∧repO (dT Z tCmd) n s1=(x.2.1 ++ (repO (dT Z tCmd) (n - x.1) x.2.2.1).1,(repO (dT Z tCmd) (n - x.1) x.2.2.1).2))
  (fun x=>[(0,.pointer (some ⟨b,0,none⟩)),(3,x.2.2.2.1),(4,.int .i64 n),(5,.int .i64 x.1)]) (fun x=>n - x.1) (0,[],s1,.slice (some ⟨b1,0,none⟩) 0 0,some b1) ?_ ?_ ?_
 ·exact ⟨Nat.zero_le _,rfl,L,by simp⟩
 ·simp (implicitDefEqProofs:=false) only [go_sem]
 ·rintro ⟨i,ds,q,vo,go⟩ H' ⟨hi,hdl,L,hrep⟩
  simp only at hi hdl L hrep
  have hbad:=L.io.bad
  rcases Nat.lt_or_ge i n with hlt | hge
  case' inr=>
   have hge':¬ (i:Int) < (n:Int):=by omega
   obtain rfl:i=n:=by omega
   simp (implicitDefEqProofs:=false) only [go_sem,hge',hbad]
   exact L.finI (by rw [hD,hrep,Nat.sub_self]; simp [repO])
  have hlt':(i:Int) < (n:Int):=by omega
  cases q with
  | none=>
    simp (implicitDefEqProofs:=false) only [go_sem,hlt',hbad]
    exact L.finI (by rw [hD,hrep,repO_none]; simp)
  | some p=>
  have hw1:=succ_i64 i n hlt (by omega)
  obtain ⟨q0,hq0⟩:∃ q0,q0=some p:=⟨_,rfl⟩
  rw [← hq0] at L hrep
  have hbad:cellB H' b 3=some (.bool false):=hbad
  simp (implicitDefEqProofs:=false) only [go_sem,hlt',hbad]
  obtain ⟨d0,q1,e0⟩:∃ d s,dT Z .num q0=(d,s):=⟨_,_,rfl⟩
  obtain ⟨d1,q2,e1⟩:∃ d s,dT Z .num q1=(d,s):=⟨_,_,rfl⟩
  obtain ⟨d2,q3,e2⟩:∃ d s,dT Z .num q2=(d,s):=⟨_,_,rfl⟩
  obtain ⟨d3,q4,e3⟩:∃ d s,dT Z (.list tWrite) q3=(d,s):=⟨_,_,rfl⟩
  obtain ⟨d4,q5,e4⟩:∃ d s,dT Z .num q4=(d,s):=⟨_,_,rfl⟩
  obtain ⟨d5,q6,e5⟩:∃ d s,dT Z .bytes q5=(d,s):=⟨_,_,rfl⟩
  have hDe:dT Z tCmd q0=((d0,d1,d2,d3,d4,d5),q6):=by simp only [dT_pair,e0,e1,e2,e3,e4,e5]
  refine (fin_ok L.io).mono ?_
  rintro v X0 ⟨rfl,hs0,hf0⟩
  rw [e0] at hs0 ⊢
  have L:=L.callI hf0 hs0
  simp (implicitDefEqProofs:=false) only [go_sem]
  refine Lv.newP L fun bx H3 L=>?_
  simp (implicitDefEqProofs:=false) only [go_sem]
  refine Lv.stoAll L 0 rfl rfl (by simp [Value.oneCell']) fun H4 L=>?_
  simp only [List.set_cons_zero,List.set_cons_succ,List.set_nil,List.eraseIdx_cons_zero,List.eraseIdx_cons_succ] at L
  simp (implicitDefEqProofs:=false) only [go_sem]
  refine (fin_ok L.io).mono ?_
  rintro v X1 ⟨rfl,hs1,hf1⟩
  rw [e1] at hs1 ⊢
  have L:=L.callI hf1 hs1
  simp (implicitDefEqProofs:=false) only [go_sem]
  refine Lv.stoOne L 0 rfl (by simp) rfl fun Y1 L=>?_
  simp only [List.set_cons_zero,List.set_cons_succ,List.set_nil,List.eraseIdx_cons_zero,List.eraseIdx_cons_succ] at L
  simp (implicitDefEqProofs:=false) only [go_sem]
  refine (fin_ok L.io).mono ?_
  rintro v X2 ⟨rfl,hs2,hf2⟩
  rw [e2] at hs2 ⊢
  have L:=L.callI hf2 hs2
  simp (implicitDefEqProofs:=false) only [go_sem]
  refine Lv.stoOne L 0 rfl (by simp) rfl fun Y2 L=>?_
  simp only [List.set_cons_zero,List.set_cons_succ,List.set_nil,List.eraseIdx_cons_zero,List.eraseIdx_cons_succ] at L
  simp (implicitDefEqProofs:=false) only [go_sem]
  refine (icount_o L.io).mono ?_
  rintro v K3 ⟨rfl,hsk,hfk⟩
  have L:=L.callI hfk hsk
  have hkL:=countO_le Z q3
  have hDi:dT Z (.list tWrite) q3=repO (dT Z tWrite) (countO Z q3).1 (countO Z q3).2:=rfl
  generalize (countO Z q3).1=k at *
  generalize (countO Z q3).2=r1 at *
  simp (implicitDefEqProofs:=false) only [go_sem]
  have L:=Lv.row0 L 113 2
  refine vc_loop (fun (y:Nat × List (den tWrite) × Pl × Value × Option Nat) H'=>y.1≤k∧y.2.1.length=y.1∧LI [b] H N b Z y.2.2.1 H' [.row 113 2 y.2.2.2.1 (y.2.1.map (datT tWrite)) y.2.2.2.2,.blk bx 99 [.int .i64 d0,.int .i64 d1,.int .i64 d2,y.2.2.2.1,.int .i64 0,.slice none 0 0],.row 99 6 vo (ds.map (datT tCmd)) go] []∧repO (dT Z tWrite) k r1=(y.2.1 ++ (repO (dT Z tWrite) (k - y.1) y.2.2.1).1,(repO (dT Z tWrite) (k - y.1) y.2.2.1).2))
   (fun y=>[(0,.pointer (some ⟨b,0,none⟩)),(3,vo),(4,.int .i64 n),(5,.int .i64 i),(6,.pointer (some ⟨bx,0,none⟩)),(7,.int .i64 k),(8,.int .i64 y.1)]) (fun y=>k - y.1) (0,[],r1,.slice none 0 0,none) ?_ ?_ ?_
  ·exact ⟨Nat.zero_le _,rfl,L,by simp⟩
  ·simp (implicitDefEqProofs:=false) only [go_sem]
  rintro ⟨j,es,r,vi,gi⟩ Hj ⟨hj,hel,L,hrepi⟩
  simp only at hj hel L hrepi
  have hbadj:=L.io.bad
  have hcase:(∃ r',r=some r'∧j < k)∨(dT Z (.list tWrite) q3=(es,r)∧(¬ (j:Int) < (k:Int)∨((j:Int) < (k:Int)∧r=none))):=by
   rcases Nat.lt_or_ge j k with q | q
   ·cases r with
    | some r'=>exact .inl ⟨r',rfl,q⟩
    | none=>exact .inr ⟨by rw [hDi,hrepi,repO_none]; simp,.inr ⟨by omega,rfl⟩⟩
   ·obtain rfl:j=k:=by omega
    exact .inr ⟨by rw [hDi,hrepi,Nat.sub_self]; simp [repO],.inl (by omega)⟩
  rcases hcase with ⟨r',hr',hltj⟩ | ⟨hdi,hex⟩
  ·have hltj':(j:Int) < (k:Int):=by omega
   have hwj:=succ_i64 j k hltj (by omega)
   have hbadj:cellB Hj b 3=some (.bool false):=by rw [hbadj,hr']; rfl
   obtain ⟨dd0,r2,f0⟩:∃ d s,dT Z .text r=(d,s):=⟨_,_,rfl⟩
   obtain ⟨dd1,r3,f1⟩:∃ d s,dT Z .bytes r2=(d,s):=⟨_,_,rfl⟩
   have hDj:dT Z tWrite r=((dd0,dd1),r3):=by simp only [dT_pair,f0,f1]
   have f0':bytesO Z r=(dd0,r2):=f0
   simp (implicitDefEqProofs:=false) only [go_sem,hltj',hbadj]
   refine (itext_o L.io).mono ?_
   rintro v J1 ⟨rfl,hsj,hfj⟩
   rw [f0'] at hsj ⊢
   have L:=L.callI hfj hsj
   simp (implicitDefEqProofs:=false) only [go_sem]
   refine Lv.newP L fun bw J2 L=>?_
   simp (implicitDefEqProofs:=false) only [go_sem]
   refine Lv.stoAll L 0 rfl rfl (by simp [Value.oneCell']) fun J3 L=>?_
   simp only [List.set_cons_zero,List.set_cons_succ,List.set_nil,List.eraseIdx_cons_zero,List.eraseIdx_cons_succ] at L
   simp (implicitDefEqProofs:=false) only [go_sem]
   refine (fbytes_r L.io).mono ?_
   rintro v J4 ⟨cs,rfl,hrj,hsj,hfj⟩
   rw [f1] at hsj hrj
   obtain ⟨aj,cj,rfl,_⟩:=rep_bytes.1 hrj.rep
   have L:=L.got hfj hsj hrj
   simp (implicitDefEqProofs:=false) only [go_sem]
   refine Lv.stoOne L 0 rfl (by simp) rfl fun J5 L=>?_
   simp only [List.set_cons_zero,List.set_cons_succ,List.set_nil,List.eraseIdx_cons_zero,List.eraseIdx_cons_succ] at L
   have c0:=L.cell 0 rfl
   have c2:=L.cell 2 rfl
   simp (implicitDefEqProofs:=false) only [go_sem,c0,c2]
   refine Lv.newS L fun b8 J6 L=>?_
   have L2:=Lv.drop L (List.sublist_cons_self _ _) fun p hp=>hp
   simp (implicitDefEqProofs:=false) only [go_sem]
   refine Lv.app (d:=datT tWrite (dd0,dd1)) L EWrite 1 rfl Tryz.underlying97 rfl (by simp [Value.oneCell']) (RepP.pair (RepP.v _) (L2.dat (datT .bytes dd1,[.slice aj dd1.length cj]) (by simp))) rfl (by simp only [List.length_map]; unfold maxLen; omega) (by simp only [List.length_map]; omega) fun a' c' g' J7 L=>?_
   simp only [List.set_cons_zero,List.set_cons_succ,List.set_nil,List.eraseIdx_cons_zero,List.eraseIdx_cons_succ] at L
   simp (implicitDefEqProofs:=false) only [go_sem]
   refine Lv.stoOne L 2 rfl (by simp) rfl fun J8 L=>?_
   simp only [List.set_cons_zero,List.set_cons_succ,List.set_nil,List.eraseIdx_cons_zero,List.eraseIdx_cons_succ] at L
   have L:=Lv.drop L (ds':=[]) (List.sublist_cons_self _ _) fun p hp=>by simp at hp
   have hnj:=repO_next (f:=dT Z tWrite) hltj (hr' ▸ hDj)
   rw [← hr'] at hnj
   simp (implicitDefEqProofs:=false) only [go_sem]
   refine loopK_intro (j + 1,es ++ [(dd0,dd1)],r3,.slice a' ((es.map (datT tWrite)).length + 1) c',g') (by show k - (j + 1) < k - j; omega) ?_ ⟨hltj,by simp [hel],?_,?_⟩
   ·simp (implicitDefEqProofs:=false) only [go_sem,hwj]
   ·simpa using L
   ·rw [hrepi,hnj]; simp
  rw [hdi] at e3
  obtain ⟨rfl,rfl⟩:=Prod.mk.inj e3.symm
  obtain ⟨v3,hv3⟩:∃ v,v=vi:=⟨_,rfl⟩
  have ho3:=hv3 ▸ LsO.one (Lv.rowGet L 0 rfl)
  have L:=Lv.rowI L
  rw [← hv3] at L
  rcases hex with hex | ⟨hex,hrn⟩
  case' inl=>simp (implicitDefEqProofs:=false) only [go_sem,hex,hbadj]
  case' inr=>
   have hbadj:cellB Hj b 3=some (.bool true):=by rw [hbadj,hrn]; rfl
   simp (implicitDefEqProofs:=false) only [go_sem,hex,hbadj]
  all_goals
   refine (fin_ok L.io).mono ?_
   rintro v X4 ⟨rfl,hs4,hf4⟩
   rw [e4] at hs4 ⊢
   have L:=L.callI hf4 hs4
   simp (implicitDefEqProofs:=false) only [go_sem]
   refine Lv.stoOne L 0 rfl (by simp) rfl fun Y4 L=>?_
   simp only [List.set_cons_zero,List.set_cons_succ,List.set_nil,List.eraseIdx_cons_zero,List.eraseIdx_cons_succ] at L
   simp (implicitDefEqProofs:=false) only [go_sem]
   refine (fbytes_r L.io).mono ?_
   rintro v X5 ⟨cs,rfl,hr5,hs5,hf5⟩
   rw [e5] at hs5 hr5
   obtain ⟨a5,cc5,rfl,_⟩:=rep_bytes.1 hr5.rep
   have L:=L.got hf5 hs5 hr5
   simp (implicitDefEqProofs:=false) only [go_sem]
   refine Lv.stoOne L 0 rfl (by simp) rfl fun Y5 L=>?_
   simp only [List.set_cons_zero,List.set_cons_succ,List.set_nil,List.eraseIdx_cons_zero,List.eraseIdx_cons_succ] at L
   simp (implicitDefEqProofs:=false) only [go_sem]
   have c0:=L.cell 0 rfl
   simp (implicitDefEqProofs:=false) only [go_sem,c0]
   refine Lv.newS L fun b9 H9 L=>?_
   have L2:=Lv.drop L (List.sublist_cons_self _ _) fun p hp=>hp
   simp (implicitDefEqProofs:=false) only [go_sem]
   refine Lv.app (d:=datT tCmd (d0,d1,d2,d3,d4,d5)) L ECommand 1 rfl Tryz.underlying32 rfl (by simp only [List.mem_cons,List.not_mem_nil,or_false,forall_eq_or_imp,forall_eq]; exact ⟨rfl,rfl,rfl,ho3,rfl,rfl⟩) (RepP.pair (RepP.v _) (RepP.pair (RepP.v _) (RepP.pair (RepP.v _) (RepP.pair (L2.dat (.list 2 (d3.map (datT tWrite)),[v3]) (by simp)) (RepP.pair (RepP.v _) (L2.dat (datT .bytes d5,[.slice a5 d5.length cc5]) (by simp))))))) rfl (by simp only [List.length_map]; unfold maxLen; omega) (by simp only [List.length_map]; omega) fun a' c' g' H10 L=>?_
   simp only [List.set_cons_zero,List.set_cons_succ,List.set_nil,List.eraseIdx_cons_zero,List.eraseIdx_cons_succ] at L
   simp (implicitDefEqProofs:=false) only [go_sem]
   have L:=Lv.drop L (ds':=[]) (List.sublist_cons_self _ _) fun p hp=>by simp at hp
   have hnx:=repO_next (f:=dT Z tCmd) hlt (hq0 ▸ hDe)
   rw [← hq0] at hnx
   refine loopK_intro (i + 1,ds ++ [(d0,d1,d2,d3,d4,d5)],q6,.slice a' ((ds.map (datT tCmd)).length + 1) c',g') (by show n - (i + 1) < n - i; omega) ?_ ⟨hlt,by simp [hdl],?_,?_⟩
   ·simp (implicitDefEqProofs:=false) only [go_sem,hw1]
   ·simpa using L
   ·rw [hrep,hnx]; simp
set_option maxHeartbeats 4000000 in
theorem takeItems_ok {H:Heap} {N b:Nat} {Z:Bs} {s:Pl} (hN:N≤H.size) (hL:Z.length < 2^36) (h:InO H N b Z s):HCalls Tryz.prog 45 #[pF b] H (RdI H N b Z s (.list tItem)):=by
 have L:=LI.start hN h
 refine calls_of_vc (args:=[_]) Tryz.func45 c45ok (Nat.le_of_ble_eq_true rfl) ?_
 have hnL:=countO_le Z s
 simp (implicitDefEqProofs:=false) only [go_sem,c45,pF]
 refine Lv.newS L fun b1 H1 L=>?_
 have L:LI [b] H N b Z s H1 [.row 71 4 (.slice (some ⟨b1,0,none⟩) 0 0) [] (some b1)] []:=Lv.rowOwn L (css:=[]) (m:=4) (dl:=[]) rfl (by simp) RepsP.nil rfl (by decide)
 simp (implicitDefEqProofs:=false) only [go_sem]
 refine (icount_o L.io).mono ?_
 rintro v H2 ⟨rfl,hs2,hf2⟩
 have L:=L.callI hf2 hs2
 have hD:dT Z (.list tItem) s=repO (dT Z tItem) (countO Z s).1 (countO Z s).2:=rfl
 generalize (countO Z s).1=n at *
 generalize (countO Z s).2=s1 at *
 simp (implicitDefEqProofs:=false) only [go_sem]
 refine vc_loop (fun (x:Nat × List (den tItem) × Pl × Value × Option Nat) H'=>x.1≤n∧x.2.1.length=x.1∧LI [b] H N b Z x.2.2.1 H' [.row 71 4 x.2.2.2.1 (x.2.1.map (datT tItem)) x.2.2.2.2] []∧repO (dT Z tItem) n s1=(x.2.1 ++ (repO (dT Z tItem) (n - x.1) x.2.2.1).1,(repO (dT Z tItem) (n - x.1) x.2.2.1).2))
  (fun x=>[(0,.pointer (some ⟨b,0,none⟩)),(3,x.2.2.2.1),(4,.int .i64 n),(5,.int .i64 x.1)]) (fun x=>n - x.1) (0,[],s1,.slice (some ⟨b1,0,none⟩) 0 0,some b1) ?_ ?_ ?_
 ·exact ⟨Nat.zero_le _,rfl,L,by simp⟩
 ·simp (implicitDefEqProofs:=false) only [go_sem]
 ·rintro ⟨i,ds,q,vo,go⟩ H' ⟨hi,hdl,L,hrep⟩
  simp only at hi hdl L hrep
  have hbad:=L.io.bad
  rcases Nat.lt_or_ge i n with hlt | hge
  case' inr=>
   have hge':¬ (i:Int) < (n:Int):=by omega
   obtain rfl:i=n:=by omega
   simp (implicitDefEqProofs:=false) only [go_sem,hge',hbad]
   exact L.finI (by rw [hD,hrep,Nat.sub_self]; simp [repO])
  have hlt':(i:Int) < (n:Int):=by omega
  cases q with
  | none=>
    simp (implicitDefEqProofs:=false) only [go_sem,hlt',hbad]
    exact L.finI (by rw [hD,hrep,repO_none]; simp)
  | some p=>
  have hw1:=succ_i64 i n hlt (by omega)
  obtain ⟨q0,hq0⟩:∃ q0,q0=some p:=⟨_,rfl⟩
  rw [← hq0] at L hrep
  have hbad:cellB H' b 3=some (.bool false):=hbad
  simp (implicitDefEqProofs:=false) only [go_sem,hlt',hbad]
  obtain ⟨d0,q1,e0⟩:∃ d s,dT Z .text q0=(d,s):=⟨_,_,rfl⟩
  obtain ⟨d1,q2,e1⟩:∃ d s,dT Z .bool q1=(d,s):=⟨_,_,rfl⟩
  obtain ⟨d2,q3,e2⟩:∃ d s,dT Z .bytes q2=(d,s):=⟨_,_,rfl⟩
  obtain ⟨d3,q4,e3⟩:∃ d s,dT Z (.list .bytes) q3=(d,s):=⟨_,_,rfl⟩
  have hDe:dT Z tItem q0=((d0,d1,d2,d3),q4):=by simp only [dT_pair,e0,e1,e2,e3]
  have e0':bytesO Z q0=(d0,q1):=e0
  refine (itext_o L.io).mono ?_
  rintro v X0 ⟨rfl,hs0,hf0⟩
  rw [e0'] at hs0 ⊢
  have L:=L.callI hf0 hs0
  simp (implicitDefEqProofs:=false) only [go_sem]
  refine Lv.newP L fun bx H3 L=>?_
  simp (implicitDefEqProofs:=false) only [go_sem]
  refine Lv.stoAll L 0 rfl rfl (by simp [Value.oneCell']) fun H4 L=>?_
  simp only [List.set_cons_zero,List.set_cons_succ,List.set_nil,List.eraseIdx_cons_zero,List.eraseIdx_cons_succ] at L
  simp (implicitDefEqProofs:=false) only [go_sem]
  have e1':boolO Z q1=(d1,q2):=e1
  refine (ibool_o L.io).mono ?_
  rintro v X1 ⟨rfl,hs1,hf1⟩
  rw [e1'] at hs1 ⊢
  have L:=L.callI hf1 hs1
  simp (implicitDefEqProofs:=false) only [go_sem]
  refine Lv.stoOne L 0 rfl (by simp) rfl fun Y1 L=>?_
  simp only [List.set_cons_zero,List.set_cons_succ,List.set_nil,List.eraseIdx_cons_zero,List.eraseIdx_cons_succ] at L
  simp (implicitDefEqProofs:=false) only [go_sem]
  refine (fbytes_r L.io).mono ?_
  rintro v X2 ⟨cs,rfl,hr2,hs2,hf2⟩
  rw [e2] at hs2 hr2
  obtain ⟨a2,cc2,rfl,_⟩:=rep_bytes.1 hr2.rep
  have L:=L.got hf2 hs2 hr2
  simp (implicitDefEqProofs:=false) only [go_sem]
  refine Lv.stoOne L 0 rfl (by simp) rfl fun Y2 L=>?_
  simp only [List.set_cons_zero,List.set_cons_succ,List.set_nil,List.eraseIdx_cons_zero,List.eraseIdx_cons_succ] at L
  simp (implicitDefEqProofs:=false) only [go_sem]
  refine (icount_o L.io).mono ?_
  rintro v K3 ⟨rfl,hsk,hfk⟩
  have L:=L.callI hfk hsk
  have hkL:=countO_le Z q3
  have hDi:dT Z (.list .bytes) q3=repO (dT Z .bytes) (countO Z q3).1 (countO Z q3).2:=rfl
  generalize (countO Z q3).1=k at *
  generalize (countO Z q3).2=r1 at *
  simp (implicitDefEqProofs:=false) only [go_sem]
  have L:=Lv.row0 L 22 1
  refine vc_loop (fun (y:Nat × List (den .bytes) × Pl × Value × Option Nat) H'=>y.1≤k∧y.2.1.length=y.1∧LI [b] H N b Z y.2.2.1 H' [.row 22 1 y.2.2.2.1 (y.2.1.map (datT .bytes)) y.2.2.2.2,.blk bx 71 [.string ⟨⟨d0⟩⟩,.bool d1,.slice a2 d2.length cc2,y.2.2.2.1],.row 71 4 vo (ds.map (datT tItem)) go] [(datT .bytes d2,[.slice a2 d2.length cc2])]∧repO (dT Z .bytes) k r1=(y.2.1 ++ (repO (dT Z .bytes) (k - y.1) y.2.2.1).1,(repO (dT Z .bytes) (k - y.1) y.2.2.1).2))
   (fun y=>[(0,.pointer (some ⟨b,0,none⟩)),(3,vo),(4,.int .i64 n),(5,.int .i64 i),(6,.pointer (some ⟨bx,0,none⟩)),(7,.int .i64 k),(8,.int .i64 y.1)]) (fun y=>k - y.1) (0,[],r1,.slice none 0 0,none) ?_ ?_ ?_
  ·exact ⟨Nat.zero_le _,rfl,L,by simp⟩
  ·simp (implicitDefEqProofs:=false) only [go_sem]
  rintro ⟨j,es,r,vi,gi⟩ Hj ⟨hj,hel,L,hrepi⟩
  simp only at hj hel L hrepi
  have hbadj:=L.io.bad
  have hcase:(∃ r',r=some r'∧j < k)∨(dT Z (.list .bytes) q3=(es,r)∧(¬ (j:Int) < (k:Int)∨((j:Int) < (k:Int)∧r=none))):=by
   rcases Nat.lt_or_ge j k with q | q
   ·cases r with
    | some r'=>exact .inl ⟨r',rfl,q⟩
    | none=>exact .inr ⟨by rw [hDi,hrepi,repO_none]; simp,.inr ⟨by omega,rfl⟩⟩
   ·obtain rfl:j=k:=by omega
    exact .inr ⟨by rw [hDi,hrepi,Nat.sub_self]; simp [repO],.inl (by omega)⟩
  rcases hcase with ⟨r',hr',hltj⟩ | ⟨hdi,hex⟩
  ·have hltj':(j:Int) < (k:Int):=by omega
   have hwj:=succ_i64 j k hltj (by omega)
   have hbadj:cellB Hj b 3=some (.bool false):=by rw [hbadj,hr']; rfl
   obtain ⟨dd,r2,hDj⟩:∃ d s,dT Z .bytes r=(d,s):=⟨_,_,rfl⟩
   have c1:=L.cell 1 rfl
   simp (implicitDefEqProofs:=false) only [go_sem,hltj',hbadj,c1]
   refine (fbytes_r L.io).mono ?_
   rintro v J1 ⟨cs,rfl,hrj,hsj,hfj⟩
   rw [hDj] at hsj hrj
   obtain ⟨aj,cj,rfl,_⟩:=rep_bytes.1 hrj.rep
   have L:=L.got hfj hsj hrj
   have c1:=L.cell 1 rfl
   simp (implicitDefEqProofs:=false) only [go_sem,c1]
   refine Lv.newS L fun b8 J2 L=>?_
   have L2:=Lv.drop L (List.sublist_cons_self _ _) fun p hp=>hp
   have c2:=L.cell 2 rfl
   simp (implicitDefEqProofs:=false) only [go_sem,c2]
   refine Lv.app (d:=datT .bytes dd) L EBts 0 rfl Tryz.underlying69 rfl (by simp [Value.oneCell']) (L2.dat (datT .bytes dd,[.slice aj dd.length cj]) (by simp)) rfl (by simp only [List.length_map]; unfold maxLen; omega) (by simp only [List.length_map]; omega) fun a' c' g' J3 L=>?_
   simp only [List.set_cons_zero,List.set_cons_succ,List.set_nil,List.eraseIdx_cons_zero,List.eraseIdx_cons_succ] at L
   simp (implicitDefEqProofs:=false) only [go_sem]
   refine Lv.stoOne L 1 rfl (by simp) rfl fun J4 L=>?_
   simp only [List.set_cons_zero,List.set_cons_succ,List.set_nil,List.eraseIdx_cons_zero,List.eraseIdx_cons_succ] at L
   have L:=Lv.drop L (ds':=[(datT .bytes d2,[.slice a2 d2.length cc2])]) (List.Sublist.refl _) fun p hp=>by simp at hp ⊢; simp [hp]
   have hnj:=repO_next (f:=dT Z .bytes) hltj (hr' ▸ hDj)
   rw [← hr'] at hnj
   simp (implicitDefEqProofs:=false) only [go_sem]
   refine loopK_intro (j + 1,es ++ [dd],r2,.slice a' ((es.map (datT .bytes)).length + 1) c',g') (by show k - (j + 1) < k - j; omega) ?_ ⟨hltj,by simp [hel],?_,?_⟩
   ·simp (implicitDefEqProofs:=false) only [go_sem,hwj]
   ·simpa using L
   ·rw [hrepi,hnj]; simp
  rw [hdi] at e3
  obtain ⟨rfl,rfl⟩:=Prod.mk.inj e3.symm
  obtain ⟨v3,hv3⟩:∃ v,v=vi:=⟨_,rfl⟩
  have ho3:=hv3 ▸ LsO.one (Lv.rowGet L 0 rfl)
  have L:=Lv.rowI L
  rw [← hv3] at L
  rcases hex with hex | ⟨hex,hrn⟩
  case' inl=>simp (implicitDefEqProofs:=false) only [go_sem,hex,hbadj]
  case' inr=>
   have hbadj:cellB Hj b 3=some (.bool true):=by rw [hbadj,hrn]; rfl
   simp (implicitDefEqProofs:=false) only [go_sem,hex,hbadj]
  all_goals
   have c0:=L.cell 0 rfl
   simp (implicitDefEqProofs:=false) only [go_sem,c0]
   refine Lv.newS L fun b9 H9 L=>?_
   have L2:=Lv.drop L (List.sublist_cons_self _ _) fun p hp=>hp
   simp (implicitDefEqProofs:=false) only [go_sem]
   refine Lv.app (d:=datT tItem (d0,d1,d2,d3)) L EItem 1 rfl Tryz.underlying37 rfl (by simp only [List.mem_cons,List.not_mem_nil,or_false,forall_eq_or_imp,forall_eq]; exact ⟨rfl,rfl,rfl,ho3⟩) (RepP.pair (RepP.v _) (RepP.pair (RepP.v _) (RepP.pair (L2.dat (datT .bytes d2,[.slice a2 d2.length cc2]) (by simp)) (L2.dat (.list 1 (d3.map (datT .bytes)),[v3]) (by simp))))) rfl (by simp only [List.length_map]; unfold maxLen; omega) (by simp only [List.length_map]; omega) fun a' c' g' H10 L=>?_
   simp only [List.set_cons_zero,List.set_cons_succ,List.set_nil,List.eraseIdx_cons_zero,List.eraseIdx_cons_succ] at L
   simp (implicitDefEqProofs:=false) only [go_sem]
   have L:=Lv.drop L (ds':=[]) (List.sublist_cons_self _ _) fun p hp=>by simp at hp
   have hnx:=repO_next (f:=dT Z tItem) hlt (hq0 ▸ hDe)
   rw [← hq0] at hnx
   refine loopK_intro (i + 1,ds ++ [(d0,d1,d2,d3)],q4,.slice a' ((ds.map (datT tItem)).length + 1) c',g') (by show n - (i + 1) < n - i; omega) ?_ ⟨hlt,by simp [hdl],?_,?_⟩
   ·simp (implicitDefEqProofs:=false) only [go_sem,hw1]
   ·simpa using L
   ·rw [hrep,hnx]; simp
set_option maxHeartbeats 4000000 in
theorem takeObjects_ok {H:Heap} {N b:Nat} {Z:Bs} {s:Pl} (hN:N≤H.size) (hL:Z.length < 2^36) (h:InO H N b Z s):HCalls Tryz.prog 44 #[pF b] H (RdI H N b Z s (.list .text)):=by
 have L:=LI.start hN h
 refine calls_of_vc (args:=[_]) Tryz.func44 c44ok (Nat.le_of_ble_eq_true rfl) ?_
 have hnL:=countO_le Z s
 simp (implicitDefEqProofs:=false) only [go_sem,c44,pF]
 refine Lv.newS L fun b1 H1 L=>?_
 have L:LI [b] H N b Z s H1 [.row 9 1 (.slice (some ⟨b1,0,none⟩) 0 0) [] (some b1)] []:=Lv.rowOwn L (css:=[]) (m:=1) (dl:=[]) rfl (by simp) RepsP.nil rfl (by decide)
 simp (implicitDefEqProofs:=false) only [go_sem]
 refine (icount_o L.io).mono ?_
 rintro v H2 ⟨rfl,hs2,hf2⟩
 have L:=L.callI hf2 hs2
 have hD:dT Z (.list .text) s=repO (dT Z .text) (countO Z s).1 (countO Z s).2:=rfl
 generalize (countO Z s).1=n at *
 generalize (countO Z s).2=s1 at *
 simp (implicitDefEqProofs:=false) only [go_sem]
 refine vc_loop (fun (x:Nat × List (den .text) × Pl × Value × Option Nat) H'=>x.1≤n∧x.2.1.length=x.1∧LI [b] H N b Z x.2.2.1 H' [.row 9 1 x.2.2.2.1 (x.2.1.map (datT .text)) x.2.2.2.2] []∧repO (dT Z .text) n s1=(x.2.1 ++ (repO (dT Z .text) (n - x.1) x.2.2.1).1,(repO (dT Z .text) (n - x.1) x.2.2.1).2))
  (fun x=>[(0,.pointer (some ⟨b,0,none⟩)),(3,x.2.2.2.1),(4,.int .i64 n),(5,.int .i64 x.1)]) (fun x=>n - x.1) (0,[],s1,.slice (some ⟨b1,0,none⟩) 0 0,some b1) ?_ ?_ ?_
 ·exact ⟨Nat.zero_le _,rfl,L,by simp⟩
 ·simp (implicitDefEqProofs:=false) only [go_sem]
 ·rintro ⟨i,ds,q,vo,go⟩ H' ⟨hi,hdl,L,hrep⟩
  simp only at hi hdl L hrep
  have hbad:=L.io.bad
  rcases Nat.lt_or_ge i n with hlt | hge
  case' inr=>
   have hge':¬ (i:Int) < (n:Int):=by omega
   obtain rfl:i=n:=by omega
   simp (implicitDefEqProofs:=false) only [go_sem,hge',hbad]
   exact L.finI (by rw [hD,hrep,Nat.sub_self]; simp [repO])
  have hlt':(i:Int) < (n:Int):=by omega
  cases q with
  | none=>
    simp (implicitDefEqProofs:=false) only [go_sem,hlt',hbad]
    exact L.finI (by rw [hD,hrep,repO_none]; simp)
  | some p=>
  have hw1:=succ_i64 i n hlt (by omega)
  obtain ⟨q0,hq0⟩:∃ q0,q0=some p:=⟨_,rfl⟩
  rw [← hq0] at L hrep
  have hbad:cellB H' b 3=some (.bool false):=hbad
  simp (implicitDefEqProofs:=false) only [go_sem,hlt',hbad]
  obtain ⟨d,q1,hDe⟩:∃ d s,dT Z .text q0=(d,s):=⟨_,_,rfl⟩
  have e0':bytesO Z q0=(d,q1):=hDe
  refine (itext_o L.io).mono ?_
  rintro v X0 ⟨rfl,hs0,hf0⟩
  rw [e0'] at hs0 ⊢
  have L:=L.callI hf0 hs0
  simp (implicitDefEqProofs:=false) only [go_sem]
  refine Lv.newS L fun b9 H9 L=>?_
  have L2:=Lv.drop L (List.sublist_cons_self _ _) fun p hp=>hp
  simp (implicitDefEqProofs:=false) only [go_sem]
  refine Lv.app (d:=datT .text d) L EStr 0 rfl Tryz.underlying36 rfl (by simp [Value.oneCell']) (RepP.v _) rfl (by simp only [List.length_map]; unfold maxLen; omega) (by simp only [List.length_map]; omega) fun a' c' g' H10 L=>?_
  simp only [List.set_cons_zero,List.set_cons_succ,List.set_nil,List.eraseIdx_cons_zero,List.eraseIdx_cons_succ] at L
  simp (implicitDefEqProofs:=false) only [go_sem]
  have L:=Lv.drop L (ds':=[]) (List.Sublist.refl _) fun p hp=>by simp at hp
  have hnx:=repO_next (f:=dT Z .text) hlt (hq0 ▸ hDe)
  rw [← hq0] at hnx
  refine loopK_intro (i + 1,ds ++ [d],q1,.slice a' ((ds.map (datT .text)).length + 1) c',g') (by show n - (i + 1) < n - i; omega) ?_ ⟨hlt,by simp [hdl],?_,?_⟩
  ·simp (implicitDefEqProofs:=false) only [go_sem,hw1]
  ·simpa using L
  ·rw [hrep,hnx]; simp
set_option maxHeartbeats 4000000 in
theorem takeCertificate_ok {H:Heap} {N b:Nat} {Z:Bs} {s:Pl} (hN:N≤H.size) (hL:Z.length < 2^36) (h:InO H N b Z s):HCalls Tryz.prog 107 #[pF b] H (RdI H N b Z s tCert):=by
 have L:=LI.start hN h
 obtain ⟨q0,hq0⟩:∃ q0,q0=s:=⟨_,rfl⟩
 rw [← hq0] at L
 obtain ⟨d0,q1,e0⟩:∃ d s,dT Z tRound q0=(d,s):=⟨_,_,rfl⟩
 obtain ⟨d1,q2,e1⟩:∃ d s,dT Z (.list tRead) q1=(d,s):=⟨_,_,rfl⟩
 obtain ⟨d2,q3,e2⟩:∃ d s,dT Z (.list tCmd) q2=(d,s):=⟨_,_,rfl⟩
 obtain ⟨d3,q4,e3⟩:∃ d s,dT Z (.list tCmd) q3=(d,s):=⟨_,_,rfl⟩
 obtain ⟨d4,q5,e4⟩:∃ d s,dT Z .num q4=(d,s):=⟨_,_,rfl⟩
 obtain ⟨d5,q6,e5⟩:∃ d s,dT Z .bytes q5=(d,s):=⟨_,_,rfl⟩
 obtain ⟨d6,q7,e6⟩:∃ d s,dT Z (.list tAck) q6=(d,s):=⟨_,_,rfl⟩
 have hDe:dT Z tCert q0=((d0,d1,d2,d3,d4,d5,d6),q7):=by simp only [dT_pair,e0,e1,e2,e3,e4,e5,e6]
 refine calls_of_vc (args:=[_]) Tryz.func107 c107ok (Nat.le_of_ble_eq_true rfl) ?_
 simp (implicitDefEqProofs:=false) only [go_sem,c107,pF]
 refine Lv.newP L fun b0 H0 L=>?_
 simp (implicitDefEqProofs:=false) only [go_sem]
 refine Lv.newP L fun bx H3 L=>?_
 simp (implicitDefEqProofs:=false) only [go_sem]
 refine Lv.stoAll L 0 rfl rfl (by simp [Value.oneCell']) fun H4 L=>?_
 simp only [List.set_cons_zero,List.set_cons_succ,List.set_nil,List.eraseIdx_cons_zero,List.eraseIdx_cons_succ] at L
 simp (implicitDefEqProofs:=false) only [go_sem]
 refine (takeRound_ok L.ge L.io).mono ?_
 rintro v X0 ⟨cs,rfl,hr0,hs0,hf0⟩
 rw [e0] at hs0 hr0
 obtain ⟨y0_0,y0_1,y0_2,rfl⟩:=len3 (rep_wid hr0.rep)
 have ho0:=rep_one hr0.rep
 have L:=L.got hf0 hs0 hr0
 simp (implicitDefEqProofs:=false) only [go_sem]
 refine Lv.stoMany L 0 rfl (by simp) ho0 fun Y0 L=>?_
 simp only [setL] at L
 simp only [List.set_cons_zero,List.set_cons_succ,List.set_nil,List.eraseIdx_cons_zero,List.eraseIdx_cons_succ] at L
 simp (implicitDefEqProofs:=false) only [go_sem]
 refine (takeReads_ok L.ge hL L.io).mono ?_
 rintro v X1 ⟨cs,rfl,hr1,hs1,hf1⟩
 rw [e1] at hs1 hr1
 obtain ⟨a1,cc1,rfl,_⟩:=rep_list hr1.rep
 have L:=L.got hf1 hs1 hr1
 simp (implicitDefEqProofs:=false) only [go_sem]
 refine Lv.stoOne L 0 rfl (by simp) rfl fun Y1 L=>?_
 simp only [List.set_cons_zero,List.set_cons_succ,List.set_nil,List.eraseIdx_cons_zero,List.eraseIdx_cons_succ] at L
 simp (implicitDefEqProofs:=false) only [go_sem]
 refine (takeCommands_ok L.ge hL L.io).mono ?_
 rintro v X2 ⟨cs,rfl,hr2,hs2,hf2⟩
 rw [e2] at hs2 hr2
 obtain ⟨a2,cc2,rfl,_⟩:=rep_list hr2.rep
 have L:=L.got hf2 hs2 hr2
 simp (implicitDefEqProofs:=false) only [go_sem]
 refine Lv.stoOne L 0 rfl (by simp) rfl fun Y2 L=>?_
 simp only [List.set_cons_zero,List.set_cons_succ,List.set_nil,List.eraseIdx_cons_zero,List.eraseIdx_cons_succ] at L
 simp (implicitDefEqProofs:=false) only [go_sem]
 refine (takeCommands_ok L.ge hL L.io).mono ?_
 rintro v X3 ⟨cs,rfl,hr3,hs3,hf3⟩
 rw [e3] at hs3 hr3
 obtain ⟨a3,cc3,rfl,_⟩:=rep_list hr3.rep
 have L:=L.got hf3 hs3 hr3
 simp (implicitDefEqProofs:=false) only [go_sem]
 refine Lv.stoOne L 0 rfl (by simp) rfl fun Y3 L=>?_
 simp only [List.set_cons_zero,List.set_cons_succ,List.set_nil,List.eraseIdx_cons_zero,List.eraseIdx_cons_succ] at L
 simp (implicitDefEqProofs:=false) only [go_sem]
 refine (fin_ok L.io).mono ?_
 rintro v X4 ⟨rfl,hs4,hf4⟩
 rw [e4] at hs4 ⊢
 have L:=L.callI hf4 hs4
 simp (implicitDefEqProofs:=false) only [go_sem]
 refine Lv.stoOne L 0 rfl (by simp) rfl fun Y4 L=>?_
 simp only [List.set_cons_zero,List.set_cons_succ,List.set_nil,List.eraseIdx_cons_zero,List.eraseIdx_cons_succ] at L
 simp (implicitDefEqProofs:=false) only [go_sem]
 refine (fbytes_r L.io).mono ?_
 rintro v X5 ⟨cs,rfl,hr5,hs5,hf5⟩
 rw [e5] at hs5 hr5
 obtain ⟨a5,cc5,rfl,_⟩:=rep_bytes.1 hr5.rep
 have L:=L.got hf5 hs5 hr5
 simp (implicitDefEqProofs:=false) only [go_sem]
 refine Lv.stoOne L 0 rfl (by simp) rfl fun Y5 L=>?_
 simp only [List.set_cons_zero,List.set_cons_succ,List.set_nil,List.eraseIdx_cons_zero,List.eraseIdx_cons_succ] at L
 simp (implicitDefEqProofs:=false) only [go_sem]
 refine (takeAcks_ok L.ge hL L.io).mono ?_
 rintro v X6 ⟨cs,rfl,hr6,hs6,hf6⟩
 rw [e6] at hs6 hr6
 obtain ⟨a6,cc6,rfl,_⟩:=rep_list hr6.rep
 have L:=L.got hf6 hs6 hr6
 simp (implicitDefEqProofs:=false) only [go_sem]
 refine Lv.stoOne L 0 rfl (by simp) rfl fun Y6 L=>?_
 simp only [List.set_cons_zero,List.set_cons_succ,List.set_nil,List.eraseIdx_cons_zero,List.eraseIdx_cons_succ] at L
 simp (implicitDefEqProofs:=false) only [go_sem]
 have c0:=L.cell 0 rfl
 simp (implicitDefEqProofs:=false) only [go_sem,c0]
 refine Lv.stoAll L 1 rfl rfl (by have ho:=ho0; simp only [List.mem_cons,List.not_mem_nil,or_false,forall_eq_or_imp,forall_eq] at ho ⊢; exact ⟨ho.1,ho.2.1,ho.2.2,rfl,rfl,rfl,rfl,rfl,rfl⟩) fun H9 L=>?_
 simp only [List.set_cons_zero,List.set_cons_succ,List.set_nil,List.eraseIdx_cons_zero,List.eraseIdx_cons_succ] at L
 have c1:=L.cell 1 rfl
 simp (implicitDefEqProofs:=false) only [go_sem,c1]
 refine ⟨[y0_0,y0_1,y0_2,.slice a1 d1.length cc1,.slice a2 d2.length cc2,.slice a3 d3.length cc3,.int .i64 d4,.slice a5 d5.length cc5,.slice a6 d6.length cc6],rfl,?_,by rw [← hq0,hDe]; exact L.io,L.fr⟩
 rw [← hq0,hDe]
 exact L.outI (RepP.pair (L.dat (datT tRound d0,[y0_0,y0_1,y0_2]) (by simp)) (RepP.pair (L.dat (datT (.list tRead) d1,[.slice a1 d1.length cc1]) (by simp)) (RepP.pair (L.dat (datT (.list tCmd) d2,[.slice a2 d2.length cc2]) (by simp)) (RepP.pair (L.dat (datT (.list tCmd) d3,[.slice a3 d3.length cc3]) (by simp)) (RepP.pair (RepP.v _) (RepP.pair (L.dat (datT .bytes d5,[.slice a5 d5.length cc5]) (by simp)) (L.dat (datT (.list tAck) d6,[.slice a6 d6.length cc6]) (by simp))))))))
set_option maxHeartbeats 4000000 in
theorem takeSteps_ok {H:Heap} {N b:Nat} {Z:Bs} {s:Pl} (hN:N≤H.size) (hL:Z.length < 2^36) (h:InO H N b Z s):HCalls Tryz.prog 105 #[pF b] H (RdI H N b Z s (.list tCert)):=by
 have L:=LI.start hN h
 refine calls_of_vc (args:=[_]) Tryz.func105 c105ok (Nat.le_of_ble_eq_true rfl) ?_
 have hnL:=countO_le Z s
 simp (implicitDefEqProofs:=false) only [go_sem,c105,pF]
 refine Lv.newS L fun b1 H1 L=>?_
 have L:LI [b] H N b Z s H1 [.row 64 9 (.slice (some ⟨b1,0,none⟩) 0 0) [] (some b1)] []:=Lv.rowOwn L (css:=[]) (m:=9) (dl:=[]) rfl (by simp) RepsP.nil rfl (by decide)
 simp (implicitDefEqProofs:=false) only [go_sem]
 refine (icount_o L.io).mono ?_
 rintro v H2 ⟨rfl,hs2,hf2⟩
 have L:=L.callI hf2 hs2
 have hD:dT Z (.list tCert) s=repO (dT Z tCert) (countO Z s).1 (countO Z s).2:=rfl
 generalize (countO Z s).1=n at *
 generalize (countO Z s).2=s1 at *
 simp (implicitDefEqProofs:=false) only [go_sem]
 refine vc_loop (fun (x:Nat × List (den tCert) × Pl × Value × Option Nat) H'=>x.1≤n∧x.2.1.length=x.1∧LI [b] H N b Z x.2.2.1 H' [.row 64 9 x.2.2.2.1 (x.2.1.map (datT tCert)) x.2.2.2.2] []∧repO (dT Z tCert) n s1=(x.2.1 ++ (repO (dT Z tCert) (n - x.1) x.2.2.1).1,(repO (dT Z tCert) (n - x.1) x.2.2.1).2))
  (fun x=>[(0,.pointer (some ⟨b,0,none⟩)),(3,x.2.2.2.1),(4,.int .i64 n),(5,.int .i64 x.1)]) (fun x=>n - x.1) (0,[],s1,.slice (some ⟨b1,0,none⟩) 0 0,some b1) ?_ ?_ ?_
 ·exact ⟨Nat.zero_le _,rfl,L,by simp⟩
 ·simp (implicitDefEqProofs:=false) only [go_sem]
 ·rintro ⟨i,ds,q,vo,go⟩ H' ⟨hi,hdl,L,hrep⟩
  simp only at hi hdl L hrep
  have hbad:=L.io.bad
  rcases Nat.lt_or_ge i n with hlt | hge
  case' inr=>
   have hge':¬ (i:Int) < (n:Int):=by omega
   obtain rfl:i=n:=by omega
   simp (implicitDefEqProofs:=false) only [go_sem,hge',hbad]
   exact L.finI (by rw [hD,hrep,Nat.sub_self]; simp [repO])
  have hlt':(i:Int) < (n:Int):=by omega
  cases q with
  | none=>
    simp (implicitDefEqProofs:=false) only [go_sem,hlt',hbad]
    exact L.finI (by rw [hD,hrep,repO_none]; simp)
  | some p=>
  have hw1:=succ_i64 i n hlt (by omega)
  obtain ⟨q0,hq0⟩:∃ q0,q0=some p:=⟨_,rfl⟩
  rw [← hq0] at L hrep
  have hbad:cellB H' b 3=some (.bool false):=hbad
  simp (implicitDefEqProofs:=false) only [go_sem,hlt',hbad]
  obtain ⟨d,q1,hDe⟩:∃ d s,dT Z tCert q0=(d,s):=⟨_,_,rfl⟩
  refine (takeCertificate_ok L.ge hL L.io).mono ?_
  rintro v X0 ⟨cs,rfl,hr0,hs0,hf0⟩
  rw [hDe] at hs0 hr0
  obtain ⟨y0,y1,y2,y3,y4,y5,y6,y7,y8,rfl⟩:=len9 (rep_wid hr0.rep)
  have ho0:=rep_one hr0.rep
  have L:=L.got hf0 hs0 hr0
  simp (implicitDefEqProofs:=false) only [go_sem]
  refine Lv.newS L fun b9 H9 L=>?_
  have L2:=Lv.drop L (List.sublist_cons_self _ _) fun p hp=>hp
  simp (implicitDefEqProofs:=false) only [go_sem]
  refine Lv.app (d:=datT tCert d) L ECertificate 0 rfl Tryz.underlying58 rfl ho0 (L2.dat (datT tCert d,[y0,y1,y2,y3,y4,y5,y6,y7,y8]) (by simp)) rfl (by simp only [List.length_map]; unfold maxLen; omega) (by simp only [List.length_map]; omega) fun a' c' g' H10 L=>?_
  simp only [List.set_cons_zero,List.set_cons_succ,List.set_nil,List.eraseIdx_cons_zero,List.eraseIdx_cons_succ] at L
  simp (implicitDefEqProofs:=false) only [go_sem]
  have L:=Lv.drop L (ds':=[]) (List.Sublist.refl _) fun p hp=>by simp at hp
  have hnx:=repO_next (f:=dT Z tCert) hlt (hq0 ▸ hDe)
  rw [← hq0] at hnx
  refine loopK_intro (i + 1,ds ++ [d],q1,.slice a' ((ds.map (datT tCert)).length + 1) c',g') (by show n - (i + 1) < n - i; omega) ?_ ⟨hlt,by simp [hdl],?_,?_⟩
  ·simp (implicitDefEqProofs:=false) only [go_sem,hw1]
  ·simpa using L
  ·rw [hrep,hnx]; simp
set_option maxHeartbeats 4000000 in
theorem takeBases_ok {H:Heap} {N b:Nat} {Z:Bs} {s:Pl} (hN:N≤H.size) (hL:Z.length < 2^36) (h:InO H N b Z s):HCalls Tryz.prog 39 #[pF b] H (RdI H N b Z s (.list tBase)):=by
 have L:=LI.start hN h
 refine calls_of_vc (args:=[_]) Tryz.func39 c39ok (Nat.le_of_ble_eq_true rfl) ?_
 have hnL:=countO_le Z s
 simp (implicitDefEqProofs:=false) only [go_sem,c39,pF]
 refine Lv.newS L fun b1 H1 L=>?_
 have L:LI [b] H N b Z s H1 [.row 60 2 (.slice (some ⟨b1,0,none⟩) 0 0) [] (some b1)] []:=Lv.rowOwn L (css:=[]) (m:=2) (dl:=[]) rfl (by simp) RepsP.nil rfl (by decide)
 simp (implicitDefEqProofs:=false) only [go_sem]
 refine (icount_o L.io).mono ?_
 rintro v H2 ⟨rfl,hs2,hf2⟩
 have L:=L.callI hf2 hs2
 have hD:dT Z (.list tBase) s=repO (dT Z tBase) (countO Z s).1 (countO Z s).2:=rfl
 generalize (countO Z s).1=n at *
 generalize (countO Z s).2=s1 at *
 simp (implicitDefEqProofs:=false) only [go_sem]
 refine vc_loop (fun (x:Nat × List (den tBase) × Pl × Value × Option Nat) H'=>x.1≤n∧x.2.1.length=x.1∧LI [b] H N b Z x.2.2.1 H' [.row 60 2 x.2.2.2.1 (x.2.1.map (datT tBase)) x.2.2.2.2] []∧repO (dT Z tBase) n s1=(x.2.1 ++ (repO (dT Z tBase) (n - x.1) x.2.2.1).1,(repO (dT Z tBase) (n - x.1) x.2.2.1).2))
  (fun x=>[(0,.pointer (some ⟨b,0,none⟩)),(3,x.2.2.2.1),(4,.int .i64 n),(5,.int .i64 x.1)]) (fun x=>n - x.1) (0,[],s1,.slice (some ⟨b1,0,none⟩) 0 0,some b1) ?_ ?_ ?_
 ·exact ⟨Nat.zero_le _,rfl,L,by simp⟩
 ·simp (implicitDefEqProofs:=false) only [go_sem]
 ·rintro ⟨i,ds,q,vo,go⟩ H' ⟨hi,hdl,L,hrep⟩
  simp only at hi hdl L hrep
  have hbad:=L.io.bad
  rcases Nat.lt_or_ge i n with hlt | hge
  case' inr=>
   have hge':¬ (i:Int) < (n:Int):=by omega
   obtain rfl:i=n:=by omega
   simp (implicitDefEqProofs:=false) only [go_sem,hge',hbad]
   exact L.finI (by rw [hD,hrep,Nat.sub_self]; simp [repO])
  have hlt':(i:Int) < (n:Int):=by omega
  cases q with
  | none=>
    simp (implicitDefEqProofs:=false) only [go_sem,hlt',hbad]
    exact L.finI (by rw [hD,hrep,repO_none]; simp)
  | some p=>
  have hw1:=succ_i64 i n hlt (by omega)
  obtain ⟨q0,hq0⟩:∃ q0,q0=some p:=⟨_,rfl⟩
  rw [← hq0] at L hrep
  have hbad:cellB H' b 3=some (.bool false):=hbad
  simp (implicitDefEqProofs:=false) only [go_sem,hlt',hbad]
  obtain ⟨d0,q1,e0⟩:∃ d s,dT Z (.list tCert) q0=(d,s):=⟨_,_,rfl⟩
  obtain ⟨d1,q2,e1⟩:∃ d s,dT Z (.list tCmd) q1=(d,s):=⟨_,_,rfl⟩
  have hDe:dT Z tBase q0=((d0,d1),q2):=by simp only [dT_pair,e0,e1]
  refine (takeSteps_ok L.ge hL L.io).mono ?_
  rintro v X0 ⟨cs,rfl,hr0,hs0,hf0⟩
  rw [e0] at hs0 hr0
  obtain ⟨a0,cc0,rfl,_⟩:=rep_list hr0.rep
  have L:=L.got hf0 hs0 hr0
  simp (implicitDefEqProofs:=false) only [go_sem]
  refine Lv.newP L fun bx H3 L=>?_
  simp (implicitDefEqProofs:=false) only [go_sem]
  refine Lv.stoAll L 0 rfl rfl (by simp [Value.oneCell']) fun H4 L=>?_
  simp only [List.set_cons_zero,List.set_cons_succ,List.set_nil,List.eraseIdx_cons_zero,List.eraseIdx_cons_succ] at L
  simp (implicitDefEqProofs:=false) only [go_sem]
  refine (takeCommands_ok L.ge hL L.io).mono ?_
  rintro v X1 ⟨cs,rfl,hr1,hs1,hf1⟩
  rw [e1] at hs1 hr1
  obtain ⟨a1,cc1,rfl,_⟩:=rep_list hr1.rep
  have L:=L.got hf1 hs1 hr1
  simp (implicitDefEqProofs:=false) only [go_sem]
  refine Lv.stoOne L 0 rfl (by simp) rfl fun Y1 L=>?_
  simp only [List.set_cons_zero,List.set_cons_succ,List.set_nil,List.eraseIdx_cons_zero,List.eraseIdx_cons_succ] at L
  simp (implicitDefEqProofs:=false) only [go_sem]
  have c0:=L.cell 0 rfl
  simp (implicitDefEqProofs:=false) only [go_sem,c0]
  refine Lv.newS L fun b9 H9 L=>?_
  have L2:=Lv.drop L (List.sublist_cons_self _ _) fun p hp=>hp
  simp (implicitDefEqProofs:=false) only [go_sem]
  refine Lv.app (d:=datT tBase (d0,d1)) L EBase 1 rfl Tryz.underlying31 rfl (by simp [Value.oneCell']) (RepP.pair (L2.dat (datT (.list tCert) d0,[.slice a0 d0.length cc0]) (by simp)) (L2.dat (datT (.list tCmd) d1,[.slice a1 d1.length cc1]) (by simp))) rfl (by simp only [List.length_map]; unfold maxLen; omega) (by simp only [List.length_map]; omega) fun a' c' g' H10 L=>?_
  simp only [List.set_cons_zero,List.set_cons_succ,List.set_nil,List.eraseIdx_cons_zero,List.eraseIdx_cons_succ] at L
  simp (implicitDefEqProofs:=false) only [go_sem]
  have L:=Lv.drop L (ds':=[]) (List.sublist_cons_self _ _) fun p hp=>by simp at hp
  have hnx:=repO_next (f:=dT Z tBase) hlt (hq0 ▸ hDe)
  rw [← hq0] at hnx
  refine loopK_intro (i + 1,ds ++ [(d0,d1)],q2,.slice a' ((ds.map (datT tBase)).length + 1) c',g') (by show n - (i + 1) < n - i; omega) ?_ ⟨hlt,by simp [hdl],?_,?_⟩
  ·simp (implicitDefEqProofs:=false) only [go_sem,hw1]
  ·simpa using L
  ·rw [hrep,hnx]; simp
set_option maxHeartbeats 4000000 in
theorem takeProofs_ok {H:Heap} {N b:Nat} {Z:Bs} {s:Pl} (hN:N≤H.size) (hL:Z.length < 2^36) (h:InO H N b Z s):HCalls Tryz.prog 42 #[pF b] H (RdI H N b Z s (.list tProof)):=by
 have L:=LI.start hN h
 refine calls_of_vc (args:=[_]) Tryz.func42 c42ok (Nat.le_of_ble_eq_true rfl) ?_
 have hnL:=countO_le Z s
 simp (implicitDefEqProofs:=false) only [go_sem,c42,pF]
 refine Lv.newS L fun b1 H1 L=>?_
 have L:LI [b] H N b Z s H1 [.row 66 10 (.slice (some ⟨b1,0,none⟩) 0 0) [] (some b1)] []:=Lv.rowOwn L (css:=[]) (m:=10) (dl:=[]) rfl (by simp) RepsP.nil rfl (by decide)
 simp (implicitDefEqProofs:=false) only [go_sem]
 refine (icount_o L.io).mono ?_
 rintro v H2 ⟨rfl,hs2,hf2⟩
 have L:=L.callI hf2 hs2
 have hD:dT Z (.list tProof) s=repO (dT Z tProof) (countO Z s).1 (countO Z s).2:=rfl
 generalize (countO Z s).1=n at *
 generalize (countO Z s).2=s1 at *
 simp (implicitDefEqProofs:=false) only [go_sem]
 refine vc_loop (fun (x:Nat × List (den tProof) × Pl × Value × Option Nat) H'=>x.1≤n∧x.2.1.length=x.1∧LI [b] H N b Z x.2.2.1 H' [.row 66 10 x.2.2.2.1 (x.2.1.map (datT tProof)) x.2.2.2.2] []∧repO (dT Z tProof) n s1=(x.2.1 ++ (repO (dT Z tProof) (n - x.1) x.2.2.1).1,(repO (dT Z tProof) (n - x.1) x.2.2.1).2))
  (fun x=>[(0,.pointer (some ⟨b,0,none⟩)),(3,x.2.2.2.1),(4,.int .i64 n),(5,.int .i64 x.1)]) (fun x=>n - x.1) (0,[],s1,.slice (some ⟨b1,0,none⟩) 0 0,some b1) ?_ ?_ ?_
 ·exact ⟨Nat.zero_le _,rfl,L,by simp⟩
 ·simp (implicitDefEqProofs:=false) only [go_sem]
 ·rintro ⟨i,ds,q,vo,go⟩ H' ⟨hi,hdl,L,hrep⟩
  simp only at hi hdl L hrep
  have hbad:=L.io.bad
  rcases Nat.lt_or_ge i n with hlt | hge
  case' inr=>
   have hge':¬ (i:Int) < (n:Int):=by omega
   obtain rfl:i=n:=by omega
   simp (implicitDefEqProofs:=false) only [go_sem,hge',hbad]
   exact L.finI (by rw [hD,hrep,Nat.sub_self]; simp [repO])
  have hlt':(i:Int) < (n:Int):=by omega
  cases q with
  | none=>
    simp (implicitDefEqProofs:=false) only [go_sem,hlt',hbad]
    exact L.finI (by rw [hD,hrep,repO_none]; simp)
  | some p=>
  have hw1:=succ_i64 i n hlt (by omega)
  obtain ⟨q0,hq0⟩:∃ q0,q0=some p:=⟨_,rfl⟩
  rw [← hq0] at L hrep
  have hbad:cellB H' b 3=some (.bool false):=hbad
  simp (implicitDefEqProofs:=false) only [go_sem,hlt',hbad]
  obtain ⟨d0,q1,e0⟩:∃ d s,dT Z (.list tCert) q0=(d,s):=⟨_,_,rfl⟩
  obtain ⟨d1,q2,e1⟩:∃ d s,dT Z tCert q1=(d,s):=⟨_,_,rfl⟩
  have hDe:dT Z tProof q0=((d0,d1),q2):=by simp only [dT_pair,e0,e1]
  refine (takeSteps_ok L.ge hL L.io).mono ?_
  rintro v X0 ⟨cs,rfl,hr0,hs0,hf0⟩
  rw [e0] at hs0 hr0
  obtain ⟨a0,cc0,rfl,_⟩:=rep_list hr0.rep
  have L:=L.got hf0 hs0 hr0
  simp (implicitDefEqProofs:=false) only [go_sem]
  refine Lv.newP L fun bx H3 L=>?_
  simp (implicitDefEqProofs:=false) only [go_sem]
  refine Lv.stoAll L 0 rfl rfl (by simp [Value.oneCell']) fun H4 L=>?_
  simp only [List.set_cons_zero,List.set_cons_succ,List.set_nil,List.eraseIdx_cons_zero,List.eraseIdx_cons_succ] at L
  simp (implicitDefEqProofs:=false) only [go_sem]
  refine (takeCertificate_ok L.ge hL L.io).mono ?_
  rintro v X1 ⟨cs,rfl,hr1,hs1,hf1⟩
  rw [e1] at hs1 hr1
  obtain ⟨y1_0,y1_1,y1_2,y1_3,y1_4,y1_5,y1_6,y1_7,y1_8,rfl⟩:=len9 (rep_wid hr1.rep)
  have ho1:=rep_one hr1.rep
  have L:=L.got hf1 hs1 hr1
  simp (implicitDefEqProofs:=false) only [go_sem]
  refine Lv.stoMany L 0 rfl (by simp) ho1 fun Y1 L=>?_
  simp only [setL] at L
  simp only [List.set_cons_zero,List.set_cons_succ,List.set_nil,List.eraseIdx_cons_zero,List.eraseIdx_cons_succ] at L
  simp (implicitDefEqProofs:=false) only [go_sem]
  have c0:=L.cell 0 rfl
  simp (implicitDefEqProofs:=false) only [go_sem,c0]
  refine Lv.newS L fun b9 H9 L=>?_
  have L2:=Lv.drop L (List.sublist_cons_self _ _) fun p hp=>hp
  simp (implicitDefEqProofs:=false) only [go_sem]
  refine Lv.app (d:=datT tProof (d0,d1)) L EProof 1 rfl Tryz.underlying34 rfl (by have ho:=ho1; simp only [List.mem_cons,List.not_mem_nil,or_false] at ho ⊢; rintro u (rfl | hu); rfl; exact ho u hu) (RepP.pair (L2.dat (datT (.list tCert) d0,[.slice a0 d0.length cc0]) (by simp)) (L2.dat (datT tCert d1,[y1_0,y1_1,y1_2,y1_3,y1_4,y1_5,y1_6,y1_7,y1_8]) (by simp))) rfl (by simp only [List.length_map]; unfold maxLen; omega) (by simp only [List.length_map]; omega) fun a' c' g' H10 L=>?_
  simp only [List.set_cons_zero,List.set_cons_succ,List.set_nil,List.eraseIdx_cons_zero,List.eraseIdx_cons_succ] at L
  simp (implicitDefEqProofs:=false) only [go_sem]
  have L:=Lv.drop L (ds':=[]) (List.sublist_cons_self _ _) fun p hp=>by simp at hp
  have hnx:=repO_next (f:=dT Z tProof) hlt (hq0 ▸ hDe)
  rw [← hq0] at hnx
  refine loopK_intro (i + 1,ds ++ [(d0,d1)],q2,.slice a' ((ds.map (datT tProof)).length + 1) c',g') (by show n - (i + 1) < n - i; omega) ?_ ⟨hlt,by simp [hdl],?_,?_⟩
  ·simp (implicitDefEqProofs:=false) only [go_sem,hw1]
  ·simpa using L
  ·rw [hrep,hnx]; simp
end Go.Proofs.YtdhlibkdcldioaaGreat
end
section
set_option linter.unusedSimpArgs false
set_option linter.unusedVariables false
set_option maxRecDepth 8000
namespace Go.Proofs.YtdhlibkdcldioaaGreat
open Gx Go
set_option maxHeartbeats 2000000 in
theorem rround_ok:ROk 133 tRound pR:=by
 refine ⟨by kernel_rfl,fun {H b L s0 g} hL h0=>?_⟩
 obtain ⟨d0,s1,e0⟩:∃ d s,dT L .num s0=(d,s):=⟨_,_,rfl⟩
 obtain ⟨d1,s2,e1⟩:∃ d s,dT L .num s1=(d,s):=⟨_,_,rfl⟩
 obtain ⟨d2,s3,e2⟩:∃ d s,dT L .num s2=(d,s):=⟨_,_,rfl⟩
 have hD:dT L tRound s0=((d0,d1,d2),s3):=by simp only [dT_pair,e0,e1,e2]
 have hbH:=h0.lt
 refine pcalls_of_vc (args:=[_]) Tryz.func133 c133ok (Nat.le_of_ble_eq_true rfl) ?_
 simp (implicitDefEqProofs:=false) only [go_sem,c133,pR]
 refine NewP_intro fun A1 hA hfA hsA=>?_
 simp (implicitDefEqProofs:=false) only [go_sem]
 refine NewP_intro fun B1 hB hfB hsB=>?_
 simp (implicitDefEqProofs:=false) only [go_sem]
 refine NewP_intro fun C0 hC0 hfC hsC=>?_
 have hbA:H.size≠b:=by omega
 have hbB:A1.size≠b:=by omega
 have hbC:B1.size≠b:=by omega
 have hA0:=(hA.ext hfB).ext hfC
 have hB0:=hB.ext hfC
 have hr0:RdO C0 b L s0 g:=((h0.ext hfA).ext hfB).ext hfC
 have hF0:Fr [b] H C0:=((hfA.trans hfB).trans hfC).mono (by simp)
 have hq0:=hA0.cell
 have hz0:H.size + 3≤C0.size:=by omega
 simp (implicitDefEqProofs:=false) only [go_sem,hq0]
 refine (rnum_ok hr0).mono ?_
 rintro v X0 ⟨rfl,r0,f0⟩
 rw [e0] at r0 ⊢
 have hsz0:=f0.size
 have hAx0:=hA0.fr f0 (by simpa using hbA)
 have hBx0:=hB0.fr f0 (by simpa using hbB)
 have hCx0:=hC0.fr f0 (by simpa using hbC)
 simp (implicitDefEqProofs:=false) only [go_sem]
 refine Sto_one hCx0 (by simp) rfl fun C1 hC1 fs1 hs1=>?_
 simp only [List.set_cons_zero,List.set_cons_succ,setL,Nat.add_zero,Nat.zero_add,Nat.reduceAdd] at hC1
 have hA1:=hAx0.fr fs1 (by simp; omega)
 have hB1:=hBx0.fr fs1 (by simp; omega)
 have hr1:=r0.fr fs1 (by simp; omega) (fun k hk=>by have:=h0.ltg hk; simp; omega)
 have hF1:Fr [b] H C1:=(hF0.trans f0).trans' fs1 (by simp; omega)
 have hz1:H.size + 3≤C1.size:=by omega
 have hq1:=hA1.cell
 simp (implicitDefEqProofs:=false) only [go_sem,hq1]
 refine (rnum_ok hr1).mono ?_
 rintro v X1 ⟨rfl,r1,f1⟩
 rw [e1] at r1 ⊢
 have hsz1:=f1.size
 have hAx1:=hA1.fr f1 (by simpa using hbA)
 have hBx1:=hB1.fr f1 (by simpa using hbB)
 have hCx1:=hC1.fr f1 (by simpa using hbC)
 simp (implicitDefEqProofs:=false) only [go_sem]
 refine Sto_one hCx1 (by simp) rfl fun C2 hC2 fs2 hs2=>?_
 simp only [List.set_cons_zero,List.set_cons_succ,setL,Nat.add_zero,Nat.zero_add,Nat.reduceAdd] at hC2
 have hA2:=hAx1.fr fs2 (by simp; omega)
 have hB2:=hBx1.fr fs2 (by simp; omega)
 have hr2:=r1.fr fs2 (by simp; omega) (fun k hk=>by have:=h0.ltg hk; simp; omega)
 have hF2:Fr [b] H C2:=(hF1.trans f1).trans' fs2 (by simp; omega)
 have hz2:H.size + 3≤C2.size:=by omega
 have hq2:=hA2.cell
 simp (implicitDefEqProofs:=false) only [go_sem,hq2]
 refine (rnum_ok hr2).mono ?_
 rintro v X2 ⟨rfl,r2,f2⟩
 rw [e2] at r2 ⊢
 have hsz2:=f2.size
 have hAx2:=hA2.fr f2 (by simpa using hbA)
 have hBx2:=hB2.fr f2 (by simpa using hbB)
 have hCx2:=hC2.fr f2 (by simpa using hbC)
 simp (implicitDefEqProofs:=false) only [go_sem]
 refine Sto_one hCx2 (by simp) rfl fun C3 hC3 fs3 hs3=>?_
 simp only [List.set_cons_zero,List.set_cons_succ,setL,Nat.add_zero,Nat.zero_add,Nat.reduceAdd] at hC3
 have hA3:=hAx2.fr fs3 (by simp; omega)
 have hB3:=hBx2.fr fs3 (by simp; omega)
 have hr3:=r2.fr fs3 (by simp; omega) (fun k hk=>by have:=h0.ltg hk; simp; omega)
 have hF3:Fr [b] H C3:=(hF2.trans f2).trans' fs3 (by simp; omega)
 have hz3:H.size + 3≤C3.size:=by omega
 have hq3:=hA3.cell
 have hw:=hC3.cell
 simp (implicitDefEqProofs:=false) only [go_sem,hw]
 refine Sto_all hB3 rfl ?_ fun Z hZ fz hsz=>?_
 ·intro v hv
  simp only [List.mem_cons,List.not_mem_nil,or_false] at hv
  rcases hv with rfl | rfl | rfl
  all_goals first | rfl
 have hcz:=hZ.cell
 simp (implicitDefEqProofs:=false) only [go_sem,hcz]
 refine ⟨_,rfl,?_,?_,hF3.trans' fz (by simp; omega)⟩
 ·rw [hD]
  exact RepP.pair (RepP.v _) (RepP.pair (RepP.v _) (RepP.v _))
 ·rw [hD]
  exact hr3.fr fz (by simp; omega) (fun k hk=>by have:=h0.ltg hk; simp; omega)
set_option maxHeartbeats 2000000 in
theorem rread_ok:ROk 135 tRead pR:=by
 refine ⟨by kernel_rfl,fun {H b L s0 g} hL h0=>?_⟩
 obtain ⟨d0,s1,e0⟩:∃ d s,dT L .num s0=(d,s):=⟨_,_,rfl⟩
 obtain ⟨d1,s2,e1⟩:∃ d s,dT L .num s1=(d,s):=⟨_,_,rfl⟩
 obtain ⟨d2,s3,e2⟩:∃ d s,dT L .bytes s2=(d,s):=⟨_,_,rfl⟩
 have hD:dT L tRead s0=((d0,d1,d2),s3):=by simp only [dT_pair,e0,e1,e2]
 have hbH:=h0.lt
 refine pcalls_of_vc (args:=[_]) Tryz.func135 c135ok (Nat.le_of_ble_eq_true rfl) ?_
 simp (implicitDefEqProofs:=false) only [go_sem,c135,pR]
 refine NewP_intro fun A1 hA hfA hsA=>?_
 simp (implicitDefEqProofs:=false) only [go_sem]
 refine NewP_intro fun B1 hB hfB hsB=>?_
 simp (implicitDefEqProofs:=false) only [go_sem]
 refine NewP_intro fun C0 hC0 hfC hsC=>?_
 have hbA:H.size≠b:=by omega
 have hbB:A1.size≠b:=by omega
 have hbC:B1.size≠b:=by omega
 have hA0:=(hA.ext hfB).ext hfC
 have hB0:=hB.ext hfC
 have hr0:RdO C0 b L s0 g:=((h0.ext hfA).ext hfB).ext hfC
 have hF0:Fr [b] H C0:=((hfA.trans hfB).trans hfC).mono (by simp)
 have hq0:=hA0.cell
 have hz0:H.size + 3≤C0.size:=by omega
 simp (implicitDefEqProofs:=false) only [go_sem,hq0]
 refine (rnum_ok hr0).mono ?_
 rintro v X0 ⟨rfl,r0,f0⟩
 rw [e0] at r0 ⊢
 have hsz0:=f0.size
 have hAx0:=hA0.fr f0 (by simpa using hbA)
 have hBx0:=hB0.fr f0 (by simpa using hbB)
 have hCx0:=hC0.fr f0 (by simpa using hbC)
 simp (implicitDefEqProofs:=false) only [go_sem]
 refine Sto_one hCx0 (by simp) rfl fun C1 hC1 fs1 hs1=>?_
 simp only [List.set_cons_zero,List.set_cons_succ,setL,Nat.add_zero,Nat.zero_add,Nat.reduceAdd] at hC1
 have hA1:=hAx0.fr fs1 (by simp; omega)
 have hB1:=hBx0.fr fs1 (by simp; omega)
 have hr1:=r0.fr fs1 (by simp; omega) (fun k hk=>by have:=h0.ltg hk; simp; omega)
 have hF1:Fr [b] H C1:=(hF0.trans f0).trans' fs1 (by simp; omega)
 have hz1:H.size + 3≤C1.size:=by omega
 have hq1:=hA1.cell
 simp (implicitDefEqProofs:=false) only [go_sem,hq1]
 refine (rnum_ok hr1).mono ?_
 rintro v X1 ⟨rfl,r1,f1⟩
 rw [e1] at r1 ⊢
 have hsz1:=f1.size
 have hAx1:=hA1.fr f1 (by simpa using hbA)
 have hBx1:=hB1.fr f1 (by simpa using hbB)
 have hCx1:=hC1.fr f1 (by simpa using hbC)
 simp (implicitDefEqProofs:=false) only [go_sem]
 refine Sto_one hCx1 (by simp) rfl fun C2 hC2 fs2 hs2=>?_
 simp only [List.set_cons_zero,List.set_cons_succ,setL,Nat.add_zero,Nat.zero_add,Nat.reduceAdd] at hC2
 have hA2:=hAx1.fr fs2 (by simp; omega)
 have hB2:=hBx1.fr fs2 (by simp; omega)
 have hr2:=r1.fr fs2 (by simp; omega) (fun k hk=>by have:=h0.ltg hk; simp; omega)
 have hF2:Fr [b] H C2:=(hF1.trans f1).trans' fs2 (by simp; omega)
 have hz2:H.size + 3≤C2.size:=by omega
 have hq2:=hA2.cell
 simp (implicitDefEqProofs:=false) only [go_sem,hq2]
 refine (rbytes_o hr2).mono ?_
 rintro v X2 ⟨a2,c2,g2,rfl,ho2,hg2,r2,f2⟩
 have e2':bytesO L s2=(d2,s3):=e2
 rw [e2'] at r2 ho2 ⊢
 have p2:RepP X2 (fun x=>x < C2.size) (datT .bytes d2) [.slice a2 d2.length c2]:=RepP.bytes ho2 fun k hk=>by have:=hg2 k hk; omega
 have hsz2:=f2.size
 have hAx2:=hA2.fr f2 (by simpa using hbA)
 have hBx2:=hB2.fr f2 (by simpa using hbB)
 have hCx2:=hC2.fr f2 (by simpa using hbC)
 simp (implicitDefEqProofs:=false) only [go_sem]
 refine Sto_one hCx2 (by simp) rfl fun C3 hC3 fs3 hs3=>?_
 simp only [List.set_cons_zero,List.set_cons_succ,setL,Nat.add_zero,Nat.zero_add,Nat.reduceAdd] at hC3
 have hA3:=hAx2.fr fs3 (by simp; omega)
 have hB3:=hBx2.fr fs3 (by simp; omega)
 have hr3:=r2.fr fs3 (by simp; omega) (fun k hk=>by have:=h0.ltg hk; simp; omega)
 have hF3:Fr [b] H C3:=(hF2.trans f2).trans' fs3 (by simp; omega)
 have hz3:H.size + 3≤C3.size:=by omega
 replace p2:RepP C3 (fun x=>x < H.size + 3) _ _:=RepP.on (m:=H.size + 3) p2 fs3 (by simp; omega) (by omega)
 have hq3:=hA3.cell
 have hw:=hC3.cell
 simp (implicitDefEqProofs:=false) only [go_sem,hw]
 refine Sto_all hB3 rfl ?_ fun Z hZ fz hsz=>?_
 ·intro v hv
  simp only [List.mem_cons,List.not_mem_nil,or_false] at hv
  rcases hv with rfl | rfl | rfl
  all_goals first | rfl
 have hcz:=hZ.cell
 simp (implicitDefEqProofs:=false) only [go_sem,hcz]
 replace p2:=RepP.on p2 fz (by simp; omega) (show H.size≤H.size + 3 by omega)
 refine ⟨_,rfl,?_,?_,hF3.trans' fz (by simp; omega)⟩
 ·rw [hD]
  exact RepP.pair (RepP.v _) (RepP.pair (RepP.v _) (p2))
 ·rw [hD]
  exact hr3.fr fz (by simp; omega) (fun k hk=>by have:=h0.ltg hk; simp; omega)
set_option maxHeartbeats 2000000 in
theorem rwrite_ok:ROk 160 tWrite pR:=by
 refine ⟨by kernel_rfl,fun {H b L s0 g} hL h0=>?_⟩
 obtain ⟨d0,s1,e0⟩:∃ d s,dT L .text s0=(d,s):=⟨_,_,rfl⟩
 obtain ⟨d1,s2,e1⟩:∃ d s,dT L .bytes s1=(d,s):=⟨_,_,rfl⟩
 have hD:dT L tWrite s0=((d0,d1),s2):=by simp only [dT_pair,e0,e1]
 have hbH:=h0.lt
 refine pcalls_of_vc (args:=[_]) Tryz.func160 c160ok (Nat.le_of_ble_eq_true rfl) ?_
 simp (implicitDefEqProofs:=false) only [go_sem,c160,pR]
 refine NewP_intro fun A1 hA hfA hsA=>?_
 simp (implicitDefEqProofs:=false) only [go_sem]
 refine NewP_intro fun B1 hB hfB hsB=>?_
 simp (implicitDefEqProofs:=false) only [go_sem]
 refine NewP_intro fun C0 hC0 hfC hsC=>?_
 have hbA:H.size≠b:=by omega
 have hbB:A1.size≠b:=by omega
 have hbC:B1.size≠b:=by omega
 have hA0:=(hA.ext hfB).ext hfC
 have hB0:=hB.ext hfC
 have hr0:RdO C0 b L s0 g:=((h0.ext hfA).ext hfB).ext hfC
 have hF0:Fr [b] H C0:=((hfA.trans hfB).trans hfC).mono (by simp)
 have hq0:=hA0.cell
 have hz0:H.size + 3≤C0.size:=by omega
 simp (implicitDefEqProofs:=false) only [go_sem,hq0]
 refine (rtext_o hr0).mono ?_
 rintro v X0 ⟨rfl,r0,f0⟩
 have e0':bytesO L s0=(d0,s1):=e0
 rw [e0'] at r0 ⊢
 have hsz0:=f0.size
 have hAx0:=hA0.fr f0 (by simpa using hbA)
 have hBx0:=hB0.fr f0 (by simpa using hbB)
 have hCx0:=hC0.fr f0 (by simpa using hbC)
 simp (implicitDefEqProofs:=false) only [go_sem]
 refine Sto_one hCx0 (by simp) rfl fun C1 hC1 fs1 hs1=>?_
 simp only [List.set_cons_zero,List.set_cons_succ,setL,Nat.add_zero,Nat.zero_add,Nat.reduceAdd] at hC1
 have hA1:=hAx0.fr fs1 (by simp; omega)
 have hB1:=hBx0.fr fs1 (by simp; omega)
 have hr1:=r0.fr fs1 (by simp; omega) (fun k hk=>by have:=h0.ltg hk; simp; omega)
 have hF1:Fr [b] H C1:=(hF0.trans f0).trans' fs1 (by simp; omega)
 have hz1:H.size + 3≤C1.size:=by omega
 have hq1:=hA1.cell
 simp (implicitDefEqProofs:=false) only [go_sem,hq1]
 refine (rbytes_o hr1).mono ?_
 rintro v X1 ⟨a1,c1,g1,rfl,ho1,hg1,r1,f1⟩
 have e1':bytesO L s1=(d1,s2):=e1
 rw [e1'] at r1 ho1 ⊢
 have p1:RepP X1 (fun x=>x < C1.size) (datT .bytes d1) [.slice a1 d1.length c1]:=RepP.bytes ho1 fun k hk=>by have:=hg1 k hk; omega
 have hsz1:=f1.size
 have hAx1:=hA1.fr f1 (by simpa using hbA)
 have hBx1:=hB1.fr f1 (by simpa using hbB)
 have hCx1:=hC1.fr f1 (by simpa using hbC)
 simp (implicitDefEqProofs:=false) only [go_sem]
 refine Sto_one hCx1 (by simp) rfl fun C2 hC2 fs2 hs2=>?_
 simp only [List.set_cons_zero,List.set_cons_succ,setL,Nat.add_zero,Nat.zero_add,Nat.reduceAdd] at hC2
 have hA2:=hAx1.fr fs2 (by simp; omega)
 have hB2:=hBx1.fr fs2 (by simp; omega)
 have hr2:=r1.fr fs2 (by simp; omega) (fun k hk=>by have:=h0.ltg hk; simp; omega)
 have hF2:Fr [b] H C2:=(hF1.trans f1).trans' fs2 (by simp; omega)
 have hz2:H.size + 3≤C2.size:=by omega
 replace p1:RepP C2 (fun x=>x < H.size + 3) _ _:=RepP.on (m:=H.size + 3) p1 fs2 (by simp; omega) (by omega)
 have hq2:=hA2.cell
 have hw:=hC2.cell
 simp (implicitDefEqProofs:=false) only [go_sem,hw]
 refine Sto_all hB2 rfl ?_ fun Z hZ fz hsz=>?_
 ·intro v hv
  simp only [List.mem_cons,List.not_mem_nil,or_false] at hv
  rcases hv with rfl | rfl
  all_goals first | rfl
 have hcz:=hZ.cell
 simp (implicitDefEqProofs:=false) only [go_sem,hcz]
 replace p1:=RepP.on p1 fz (by simp; omega) (show H.size≤H.size + 3 by omega)
 refine ⟨_,rfl,?_,?_,hF2.trans' fz (by simp; omega)⟩
 ·rw [hD]
  exact RepP.pair (RepP.v _) (p1)
 ·rw [hD]
  exact hr2.fr fz (by simp; omega) (fun k hk=>by have:=h0.ltg hk; simp; omega)
set_option maxHeartbeats 2000000 in
theorem rcommand_ok:ROk 139 tCmd pR:=by
 refine ⟨by kernel_rfl,fun {H b L s0 g} hL h0=>?_⟩
 obtain ⟨d0,s1,e0⟩:∃ d s,dT L .num s0=(d,s):=⟨_,_,rfl⟩
 obtain ⟨d1,s2,e1⟩:∃ d s,dT L .num s1=(d,s):=⟨_,_,rfl⟩
 obtain ⟨d2,s3,e2⟩:∃ d s,dT L .num s2=(d,s):=⟨_,_,rfl⟩
 obtain ⟨d3,s4,e3⟩:∃ d s,dT L (.list tWrite) s3=(d,s):=⟨_,_,rfl⟩
 obtain ⟨d4,s5,e4⟩:∃ d s,dT L .num s4=(d,s):=⟨_,_,rfl⟩
 obtain ⟨d5,s6,e5⟩:∃ d s,dT L .bytes s5=(d,s):=⟨_,_,rfl⟩
 have hD:dT L tCmd s0=((d0,d1,d2,d3,d4,d5),s6):=by simp only [dT_pair,e0,e1,e2,e3,e4,e5]
 have hbH:=h0.lt
 refine pcalls_of_vc (args:=[_]) Tryz.func139 c139ok (Nat.le_of_ble_eq_true rfl) ?_
 simp (implicitDefEqProofs:=false) only [go_sem,c139,pR]
 refine NewP_intro fun A1 hA hfA hsA=>?_
 simp (implicitDefEqProofs:=false) only [go_sem]
 refine NewP_intro fun B1 hB hfB hsB=>?_
 simp (implicitDefEqProofs:=false) only [go_sem]
 refine NewP_intro fun C0 hC0 hfC hsC=>?_
 have hbA:H.size≠b:=by omega
 have hbB:A1.size≠b:=by omega
 have hbC:B1.size≠b:=by omega
 have hA0:=(hA.ext hfB).ext hfC
 have hB0:=hB.ext hfC
 have hr0:RdO C0 b L s0 g:=((h0.ext hfA).ext hfB).ext hfC
 have hF0:Fr [b] H C0:=((hfA.trans hfB).trans hfC).mono (by simp)
 have hq0:=hA0.cell
 have hz0:H.size + 3≤C0.size:=by omega
 simp (implicitDefEqProofs:=false) only [go_sem,hq0]
 refine (rnum_ok hr0).mono ?_
 rintro v X0 ⟨rfl,r0,f0⟩
 rw [e0] at r0 ⊢
 have hsz0:=f0.size
 have hAx0:=hA0.fr f0 (by simpa using hbA)
 have hBx0:=hB0.fr f0 (by simpa using hbB)
 have hCx0:=hC0.fr f0 (by simpa using hbC)
 simp (implicitDefEqProofs:=false) only [go_sem]
 refine Sto_one hCx0 (by simp) rfl fun C1 hC1 fs1 hs1=>?_
 simp only [List.set_cons_zero,List.set_cons_succ,setL,Nat.add_zero,Nat.zero_add,Nat.reduceAdd] at hC1
 have hA1:=hAx0.fr fs1 (by simp; omega)
 have hB1:=hBx0.fr fs1 (by simp; omega)
 have hr1:=r0.fr fs1 (by simp; omega) (fun k hk=>by have:=h0.ltg hk; simp; omega)
 have hF1:Fr [b] H C1:=(hF0.trans f0).trans' fs1 (by simp; omega)
 have hz1:H.size + 3≤C1.size:=by omega
 have hq1:=hA1.cell
 simp (implicitDefEqProofs:=false) only [go_sem,hq1]
 refine (rnum_ok hr1).mono ?_
 rintro v X1 ⟨rfl,r1,f1⟩
 rw [e1] at r1 ⊢
 have hsz1:=f1.size
 have hAx1:=hA1.fr f1 (by simpa using hbA)
 have hBx1:=hB1.fr f1 (by simpa using hbB)
 have hCx1:=hC1.fr f1 (by simpa using hbC)
 simp (implicitDefEqProofs:=false) only [go_sem]
 refine Sto_one hCx1 (by simp) rfl fun C2 hC2 fs2 hs2=>?_
 simp only [List.set_cons_zero,List.set_cons_succ,setL,Nat.add_zero,Nat.zero_add,Nat.reduceAdd] at hC2
 have hA2:=hAx1.fr fs2 (by simp; omega)
 have hB2:=hBx1.fr fs2 (by simp; omega)
 have hr2:=r1.fr fs2 (by simp; omega) (fun k hk=>by have:=h0.ltg hk; simp; omega)
 have hF2:Fr [b] H C2:=(hF1.trans f1).trans' fs2 (by simp; omega)
 have hz2:H.size + 3≤C2.size:=by omega
 have hq2:=hA2.cell
 simp (implicitDefEqProofs:=false) only [go_sem,hq2]
 refine (rnum_ok hr2).mono ?_
 rintro v X2 ⟨rfl,r2,f2⟩
 rw [e2] at r2 ⊢
 have hsz2:=f2.size
 have hAx2:=hA2.fr f2 (by simpa using hbA)
 have hBx2:=hB2.fr f2 (by simpa using hbB)
 have hCx2:=hC2.fr f2 (by simpa using hbC)
 simp (implicitDefEqProofs:=false) only [go_sem]
 refine Sto_one hCx2 (by simp) rfl fun C3 hC3 fs3 hs3=>?_
 simp only [List.set_cons_zero,List.set_cons_succ,setL,Nat.add_zero,Nat.zero_add,Nat.reduceAdd] at hC3
 have hA3:=hAx2.fr fs3 (by simp; omega)
 have hB3:=hBx2.fr fs3 (by simp; omega)
 have hr3:=r2.fr fs3 (by simp; omega) (fun k hk=>by have:=h0.ltg hk; simp; omega)
 have hF3:Fr [b] H C3:=(hF2.trans f2).trans' fs3 (by simp; omega)
 have hz3:H.size + 3≤C3.size:=by omega
 have hq3:=hA3.cell
 simp (implicitDefEqProofs:=false) only [go_sem,hq3]
 refine PCalls.mono (elemsWrite_ok rfl (fun _=>rfl) rwrite_ok hL hr3) ?_ ?_
 rotate_left
 ·rintro c X ⟨rfl,hn,fx⟩
  refine ⟨rfl,?_,hF3.trans fx⟩
  rw [e3] at hn
  simp only at hn
  subst hn
  have q5:s5=none:=by rw [← dT_none L .num,e4]
  subst q5
  have q6:s6=none:=by rw [← dT_none L .bytes,e5]
  subst q6
  rw [hD]
 rintro v X3 ⟨cs,rfl,p3,r3,f3⟩
 rw [e3] at r3 p3
 simp only at r3 p3
 have hsz3:=f3.size
 obtain ⟨a3,c3,rfl,hl3,hm3⟩:=rep_list p3.rep
 have hAx3:=hA3.fr f3 (by simpa using hbA)
 have hBx3:=hB3.fr f3 (by simpa using hbB)
 have hCx3:=hC3.fr f3 (by simpa using hbC)
 simp (implicitDefEqProofs:=false) only [go_sem]
 refine Sto_one hCx3 (by simp) rfl fun C4 hC4 fs4 hs4=>?_
 simp only [List.set_cons_zero,List.set_cons_succ,setL,Nat.add_zero,Nat.zero_add,Nat.reduceAdd] at hC4
 have hA4:=hAx3.fr fs4 (by simp; omega)
 have hB4:=hBx3.fr fs4 (by simp; omega)
 have hr4:=r3.fr fs4 (by simp; omega) (fun k hk=>by have:=h0.ltg hk; simp; omega)
 have hF4:Fr [b] H C4:=(hF3.trans f3).trans' fs4 (by simp; omega)
 have hz4:H.size + 3≤C4.size:=by omega
 replace p3:RepP C4 (fun x=>x < H.size + 3) _ _:=RepP.on (m:=H.size + 3) p3 fs4 (by simp; omega) (by omega)
 have hq4:=hA4.cell
 simp (implicitDefEqProofs:=false) only [go_sem,hq4]
 refine (rnum_ok hr4).mono ?_
 rintro v X4 ⟨rfl,r4,f4⟩
 rw [e4] at r4 ⊢
 have hsz4:=f4.size
 have hAx4:=hA4.fr f4 (by simpa using hbA)
 have hBx4:=hB4.fr f4 (by simpa using hbB)
 have hCx4:=hC4.fr f4 (by simpa using hbC)
 simp (implicitDefEqProofs:=false) only [go_sem]
 refine Sto_one hCx4 (by simp) rfl fun C5 hC5 fs5 hs5=>?_
 simp only [List.set_cons_zero,List.set_cons_succ,setL,Nat.add_zero,Nat.zero_add,Nat.reduceAdd] at hC5
 have hA5:=hAx4.fr fs5 (by simp; omega)
 have hB5:=hBx4.fr fs5 (by simp; omega)
 have hr5:=r4.fr fs5 (by simp; omega) (fun k hk=>by have:=h0.ltg hk; simp; omega)
 have hF5:Fr [b] H C5:=(hF4.trans f4).trans' fs5 (by simp; omega)
 have hz5:H.size + 3≤C5.size:=by omega
 replace p3:=RepP.on (RepP.on p3 f4 (by simp; omega) (Nat.le_refl _)) fs5 (by simp; omega) (Nat.le_refl _)
 have hq5:=hA5.cell
 simp (implicitDefEqProofs:=false) only [go_sem,hq5]
 refine (rbytes_o hr5).mono ?_
 rintro v X5 ⟨a5,c5,g5,rfl,ho5,hg5,r5,f5⟩
 have e5':bytesO L s5=(d5,s6):=e5
 rw [e5'] at r5 ho5 ⊢
 have p5:RepP X5 (fun x=>x < C5.size) (datT .bytes d5) [.slice a5 d5.length c5]:=RepP.bytes ho5 fun k hk=>by have:=hg5 k hk; omega
 have hsz5:=f5.size
 have hAx5:=hA5.fr f5 (by simpa using hbA)
 have hBx5:=hB5.fr f5 (by simpa using hbB)
 have hCx5:=hC5.fr f5 (by simpa using hbC)
 simp (implicitDefEqProofs:=false) only [go_sem]
 refine Sto_one hCx5 (by simp) rfl fun C6 hC6 fs6 hs6=>?_
 simp only [List.set_cons_zero,List.set_cons_succ,setL,Nat.add_zero,Nat.zero_add,Nat.reduceAdd] at hC6
 have hA6:=hAx5.fr fs6 (by simp; omega)
 have hB6:=hBx5.fr fs6 (by simp; omega)
 have hr6:=r5.fr fs6 (by simp; omega) (fun k hk=>by have:=h0.ltg hk; simp; omega)
 have hF6:Fr [b] H C6:=(hF5.trans f5).trans' fs6 (by simp; omega)
 have hz6:H.size + 3≤C6.size:=by omega
 replace p3:=RepP.on (RepP.on p3 f5 (by simp; omega) (Nat.le_refl _)) fs6 (by simp; omega) (Nat.le_refl _)
 replace p5:RepP C6 (fun x=>x < H.size + 3) _ _:=RepP.on (m:=H.size + 3) p5 fs6 (by simp; omega) (by omega)
 have hq6:=hA6.cell
 have hw:=hC6.cell
 simp (implicitDefEqProofs:=false) only [go_sem,hw]
 refine Sto_all hB6 rfl ?_ fun Z hZ fz hsz=>?_
 ·intro v hv
  simp only [List.mem_cons,List.not_mem_nil,or_false] at hv
  rcases hv with rfl | rfl | rfl | rfl | rfl | rfl
  all_goals first | rfl
 have hcz:=hZ.cell
 simp (implicitDefEqProofs:=false) only [go_sem,hcz]
 replace p3:=RepP.on p3 fz (by simp; omega) (show H.size≤H.size + 3 by omega)
 replace p5:=RepP.on p5 fz (by simp; omega) (show H.size≤H.size + 3 by omega)
 refine ⟨_,rfl,?_,?_,hF6.trans' fz (by simp; omega)⟩
 ·rw [hD]
  exact RepP.pair (RepP.v _) (RepP.pair (RepP.v _) (RepP.pair (RepP.v _) (RepP.pair (p3) (RepP.pair (RepP.v _) (p5)))))
 ·rw [hD]
  exact hr6.fr fz (by simp; omega) (fun k hk=>by have:=h0.ltg hk; simp; omega)
set_option maxHeartbeats 2000000 in
theorem rack_ok:ROk 141 tAck pR:=by
 refine ⟨by kernel_rfl,fun {H b L s0 g} hL h0=>?_⟩
 obtain ⟨d0,s1,e0⟩:∃ d s,dT L .num s0=(d,s):=⟨_,_,rfl⟩
 obtain ⟨d1,s2,e1⟩:∃ d s,dT L .bytes s1=(d,s):=⟨_,_,rfl⟩
 have hD:dT L tAck s0=((d0,d1),s2):=by simp only [dT_pair,e0,e1]
 have hbH:=h0.lt
 refine pcalls_of_vc (args:=[_]) Tryz.func141 c141ok (Nat.le_of_ble_eq_true rfl) ?_
 simp (implicitDefEqProofs:=false) only [go_sem,c141,pR]
 refine NewP_intro fun A1 hA hfA hsA=>?_
 simp (implicitDefEqProofs:=false) only [go_sem]
 refine NewP_intro fun B1 hB hfB hsB=>?_
 simp (implicitDefEqProofs:=false) only [go_sem]
 refine NewP_intro fun C0 hC0 hfC hsC=>?_
 have hbA:H.size≠b:=by omega
 have hbB:A1.size≠b:=by omega
 have hbC:B1.size≠b:=by omega
 have hA0:=(hA.ext hfB).ext hfC
 have hB0:=hB.ext hfC
 have hr0:RdO C0 b L s0 g:=((h0.ext hfA).ext hfB).ext hfC
 have hF0:Fr [b] H C0:=((hfA.trans hfB).trans hfC).mono (by simp)
 have hq0:=hA0.cell
 have hz0:H.size + 3≤C0.size:=by omega
 simp (implicitDefEqProofs:=false) only [go_sem,hq0]
 refine (rnum_ok hr0).mono ?_
 rintro v X0 ⟨rfl,r0,f0⟩
 rw [e0] at r0 ⊢
 have hsz0:=f0.size
 have hAx0:=hA0.fr f0 (by simpa using hbA)
 have hBx0:=hB0.fr f0 (by simpa using hbB)
 have hCx0:=hC0.fr f0 (by simpa using hbC)
 simp (implicitDefEqProofs:=false) only [go_sem]
 refine Sto_one hCx0 (by simp) rfl fun C1 hC1 fs1 hs1=>?_
 simp only [List.set_cons_zero,List.set_cons_succ,setL,Nat.add_zero,Nat.zero_add,Nat.reduceAdd] at hC1
 have hA1:=hAx0.fr fs1 (by simp; omega)
 have hB1:=hBx0.fr fs1 (by simp; omega)
 have hr1:=r0.fr fs1 (by simp; omega) (fun k hk=>by have:=h0.ltg hk; simp; omega)
 have hF1:Fr [b] H C1:=(hF0.trans f0).trans' fs1 (by simp; omega)
 have hz1:H.size + 3≤C1.size:=by omega
 have hq1:=hA1.cell
 simp (implicitDefEqProofs:=false) only [go_sem,hq1]
 refine (rbytes_o hr1).mono ?_
 rintro v X1 ⟨a1,c1,g1,rfl,ho1,hg1,r1,f1⟩
 have e1':bytesO L s1=(d1,s2):=e1
 rw [e1'] at r1 ho1 ⊢
 have p1:RepP X1 (fun x=>x < C1.size) (datT .bytes d1) [.slice a1 d1.length c1]:=RepP.bytes ho1 fun k hk=>by have:=hg1 k hk; omega
 have hsz1:=f1.size
 have hAx1:=hA1.fr f1 (by simpa using hbA)
 have hBx1:=hB1.fr f1 (by simpa using hbB)
 have hCx1:=hC1.fr f1 (by simpa using hbC)
 simp (implicitDefEqProofs:=false) only [go_sem]
 refine Sto_one hCx1 (by simp) rfl fun C2 hC2 fs2 hs2=>?_
 simp only [List.set_cons_zero,List.set_cons_succ,setL,Nat.add_zero,Nat.zero_add,Nat.reduceAdd] at hC2
 have hA2:=hAx1.fr fs2 (by simp; omega)
 have hB2:=hBx1.fr fs2 (by simp; omega)
 have hr2:=r1.fr fs2 (by simp; omega) (fun k hk=>by have:=h0.ltg hk; simp; omega)
 have hF2:Fr [b] H C2:=(hF1.trans f1).trans' fs2 (by simp; omega)
 have hz2:H.size + 3≤C2.size:=by omega
 replace p1:RepP C2 (fun x=>x < H.size + 3) _ _:=RepP.on (m:=H.size + 3) p1 fs2 (by simp; omega) (by omega)
 have hq2:=hA2.cell
 have hw:=hC2.cell
 simp (implicitDefEqProofs:=false) only [go_sem,hw]
 refine Sto_all hB2 rfl ?_ fun Z hZ fz hsz=>?_
 ·intro v hv
  simp only [List.mem_cons,List.not_mem_nil,or_false] at hv
  rcases hv with rfl | rfl
  all_goals first | rfl
 have hcz:=hZ.cell
 simp (implicitDefEqProofs:=false) only [go_sem,hcz]
 replace p1:=RepP.on p1 fz (by simp; omega) (show H.size≤H.size + 3 by omega)
 refine ⟨_,rfl,?_,?_,hF2.trans' fz (by simp; omega)⟩
 ·rw [hD]
  exact RepP.pair (RepP.v _) (p1)
 ·rw [hD]
  exact hr2.fr fz (by simp; omega) (fun k hk=>by have:=h0.ltg hk; simp; omega)
set_option maxHeartbeats 2000000 in
theorem rcertificate_ok:ROk 158 tCert pR:=by
 refine ⟨by kernel_rfl,fun {H b L s0 g} hL h0=>?_⟩
 obtain ⟨d0,s1,e0⟩:∃ d s,dT L tRound s0=(d,s):=⟨_,_,rfl⟩
 obtain ⟨d1,s2,e1⟩:∃ d s,dT L (.list tRead) s1=(d,s):=⟨_,_,rfl⟩
 obtain ⟨d2,s3,e2⟩:∃ d s,dT L (.list tCmd) s2=(d,s):=⟨_,_,rfl⟩
 obtain ⟨d3,s4,e3⟩:∃ d s,dT L (.list tCmd) s3=(d,s):=⟨_,_,rfl⟩
 obtain ⟨d4,s5,e4⟩:∃ d s,dT L .num s4=(d,s):=⟨_,_,rfl⟩
 obtain ⟨d5,s6,e5⟩:∃ d s,dT L .bytes s5=(d,s):=⟨_,_,rfl⟩
 obtain ⟨d6,s7,e6⟩:∃ d s,dT L (.list tAck) s6=(d,s):=⟨_,_,rfl⟩
 have hD:dT L tCert s0=((d0,d1,d2,d3,d4,d5,d6),s7):=by simp only [dT_pair,e0,e1,e2,e3,e4,e5,e6]
 have hbH:=h0.lt
 refine pcalls_of_vc (args:=[_]) Tryz.func158 c158ok (Nat.le_of_ble_eq_true rfl) ?_
 simp (implicitDefEqProofs:=false) only [go_sem,c158,pR]
 refine NewP_intro fun A1 hA hfA hsA=>?_
 simp (implicitDefEqProofs:=false) only [go_sem]
 refine NewP_intro fun B1 hB hfB hsB=>?_
 simp (implicitDefEqProofs:=false) only [go_sem]
 refine NewP_intro fun C0 hC0 hfC hsC=>?_
 have hbA:H.size≠b:=by omega
 have hbB:A1.size≠b:=by omega
 have hbC:B1.size≠b:=by omega
 have hA0:=(hA.ext hfB).ext hfC
 have hB0:=hB.ext hfC
 have hr0:RdO C0 b L s0 g:=((h0.ext hfA).ext hfB).ext hfC
 have hF0:Fr [b] H C0:=((hfA.trans hfB).trans hfC).mono (by simp)
 have hq0:=hA0.cell
 have hz0:H.size + 3≤C0.size:=by omega
 simp (implicitDefEqProofs:=false) only [go_sem,hq0]
 refine PCalls.mono (rround_ok.2 hL hr0) ?_ ?_
 rotate_left
 ·rintro c X ⟨rfl,hn,fx⟩
  refine ⟨rfl,?_,hF0.trans fx⟩
  rw [e0] at hn
  simp only at hn
  subst hn
  have q2:s2=none:=by rw [← dT_none L (.list tRead),e1]
  subst q2
  have q3:s3=none:=by rw [← dT_none L (.list tCmd),e2]
  subst q3
  have q4:s4=none:=by rw [← dT_none L (.list tCmd),e3]
  subst q4
  have q5:s5=none:=by rw [← dT_none L .num,e4]
  subst q5
  have q6:s6=none:=by rw [← dT_none L .bytes,e5]
  subst q6
  have q7:s7=none:=by rw [← dT_none L (.list tAck),e6]
  subst q7
  rw [hD]
 rintro v X0 ⟨cs,rfl,p0,r0,f0⟩
 rw [e0] at r0 p0
 simp only at r0 p0
 have hsz0:=f0.size
 obtain ⟨y0_0,y0_1,y0_2,rfl⟩:=len3 (rep_wid p0.rep)
 have hAx0:=hA0.fr f0 (by simpa using hbA)
 have hBx0:=hB0.fr f0 (by simpa using hbB)
 have hCx0:=hC0.fr f0 (by simpa using hbC)
 simp (implicitDefEqProofs:=false) only [go_sem]
 refine Sto_blk _ _ _ 0 0 hCx0 (by simp) (rep_one p0.rep) fun C1 hC1 fs1 hs1=>?_
 simp only [List.set_cons_zero,List.set_cons_succ,setL,Nat.add_zero,Nat.zero_add,Nat.reduceAdd] at hC1
 have hA1:=hAx0.fr fs1 (by simp; omega)
 have hB1:=hBx0.fr fs1 (by simp; omega)
 have hr1:=r0.fr fs1 (by simp; omega) (fun k hk=>by have:=h0.ltg hk; simp; omega)
 have hF1:Fr [b] H C1:=(hF0.trans f0).trans' fs1 (by simp; omega)
 have hz1:H.size + 3≤C1.size:=by omega
 replace p0:RepP C1 (fun x=>x < H.size + 3) _ _:=RepP.on (m:=H.size + 3) p0 fs1 (by simp; omega) (by omega)
 have hq1:=hA1.cell
 simp (implicitDefEqProofs:=false) only [go_sem,hq1]
 refine PCalls.mono (elemsReadID_ok rfl (fun _=>rfl) rread_ok hL hr1) ?_ ?_
 rotate_left
 ·rintro c X ⟨rfl,hn,fx⟩
  refine ⟨rfl,?_,hF1.trans fx⟩
  rw [e1] at hn
  simp only at hn
  subst hn
  have q3:s3=none:=by rw [← dT_none L (.list tCmd),e2]
  subst q3
  have q4:s4=none:=by rw [← dT_none L (.list tCmd),e3]
  subst q4
  have q5:s5=none:=by rw [← dT_none L .num,e4]
  subst q5
  have q6:s6=none:=by rw [← dT_none L .bytes,e5]
  subst q6
  have q7:s7=none:=by rw [← dT_none L (.list tAck),e6]
  subst q7
  rw [hD]
 rintro v X1 ⟨cs,rfl,p1,r1,f1⟩
 rw [e1] at r1 p1
 simp only at r1 p1
 have hsz1:=f1.size
 obtain ⟨a1,c1,rfl,hl1,hm1⟩:=rep_list p1.rep
 have hAx1:=hA1.fr f1 (by simpa using hbA)
 have hBx1:=hB1.fr f1 (by simpa using hbB)
 have hCx1:=hC1.fr f1 (by simpa using hbC)
 simp (implicitDefEqProofs:=false) only [go_sem]
 refine Sto_one hCx1 (by simp) rfl fun C2 hC2 fs2 hs2=>?_
 simp only [List.set_cons_zero,List.set_cons_succ,setL,Nat.add_zero,Nat.zero_add,Nat.reduceAdd] at hC2
 have hA2:=hAx1.fr fs2 (by simp; omega)
 have hB2:=hBx1.fr fs2 (by simp; omega)
 have hr2:=r1.fr fs2 (by simp; omega) (fun k hk=>by have:=h0.ltg hk; simp; omega)
 have hF2:Fr [b] H C2:=(hF1.trans f1).trans' fs2 (by simp; omega)
 have hz2:H.size + 3≤C2.size:=by omega
 replace p0:=RepP.on (RepP.on p0 f1 (by simp; omega) (Nat.le_refl _)) fs2 (by simp; omega) (Nat.le_refl _)
 replace p1:RepP C2 (fun x=>x < H.size + 3) _ _:=RepP.on (m:=H.size + 3) p1 fs2 (by simp; omega) (by omega)
 have hq2:=hA2.cell
 simp (implicitDefEqProofs:=false) only [go_sem,hq2]
 refine PCalls.mono (elemsCommand_ok rfl (fun _=>rfl) rcommand_ok hL hr2) ?_ ?_
 rotate_left
 ·rintro c X ⟨rfl,hn,fx⟩
  refine ⟨rfl,?_,hF2.trans fx⟩
  rw [e2] at hn
  simp only at hn
  subst hn
  have q4:s4=none:=by rw [← dT_none L (.list tCmd),e3]
  subst q4
  have q5:s5=none:=by rw [← dT_none L .num,e4]
  subst q5
  have q6:s6=none:=by rw [← dT_none L .bytes,e5]
  subst q6
  have q7:s7=none:=by rw [← dT_none L (.list tAck),e6]
  subst q7
  rw [hD]
 rintro v X2 ⟨cs,rfl,p2,r2,f2⟩
 rw [e2] at r2 p2
 simp only at r2 p2
 have hsz2:=f2.size
 obtain ⟨a2,c2,rfl,hl2,hm2⟩:=rep_list p2.rep
 have hAx2:=hA2.fr f2 (by simpa using hbA)
 have hBx2:=hB2.fr f2 (by simpa using hbB)
 have hCx2:=hC2.fr f2 (by simpa using hbC)
 simp (implicitDefEqProofs:=false) only [go_sem]
 refine Sto_one hCx2 (by simp) rfl fun C3 hC3 fs3 hs3=>?_
 simp only [List.set_cons_zero,List.set_cons_succ,setL,Nat.add_zero,Nat.zero_add,Nat.reduceAdd] at hC3
 have hA3:=hAx2.fr fs3 (by simp; omega)
 have hB3:=hBx2.fr fs3 (by simp; omega)
 have hr3:=r2.fr fs3 (by simp; omega) (fun k hk=>by have:=h0.ltg hk; simp; omega)
 have hF3:Fr [b] H C3:=(hF2.trans f2).trans' fs3 (by simp; omega)
 have hz3:H.size + 3≤C3.size:=by omega
 replace p0:=RepP.on (RepP.on p0 f2 (by simp; omega) (Nat.le_refl _)) fs3 (by simp; omega) (Nat.le_refl _)
 replace p1:=RepP.on (RepP.on p1 f2 (by simp; omega) (Nat.le_refl _)) fs3 (by simp; omega) (Nat.le_refl _)
 replace p2:RepP C3 (fun x=>x < H.size + 3) _ _:=RepP.on (m:=H.size + 3) p2 fs3 (by simp; omega) (by omega)
 have hq3:=hA3.cell
 simp (implicitDefEqProofs:=false) only [go_sem,hq3]
 refine PCalls.mono (elemsCommand_ok rfl (fun _=>rfl) rcommand_ok hL hr3) ?_ ?_
 rotate_left
 ·rintro c X ⟨rfl,hn,fx⟩
  refine ⟨rfl,?_,hF3.trans fx⟩
  rw [e3] at hn
  simp only at hn
  subst hn
  have q5:s5=none:=by rw [← dT_none L .num,e4]
  subst q5
  have q6:s6=none:=by rw [← dT_none L .bytes,e5]
  subst q6
  have q7:s7=none:=by rw [← dT_none L (.list tAck),e6]
  subst q7
  rw [hD]
 rintro v X3 ⟨cs,rfl,p3,r3,f3⟩
 rw [e3] at r3 p3
 simp only at r3 p3
 have hsz3:=f3.size
 obtain ⟨a3,c3,rfl,hl3,hm3⟩:=rep_list p3.rep
 have hAx3:=hA3.fr f3 (by simpa using hbA)
 have hBx3:=hB3.fr f3 (by simpa using hbB)
 have hCx3:=hC3.fr f3 (by simpa using hbC)
 simp (implicitDefEqProofs:=false) only [go_sem]
 refine Sto_one hCx3 (by simp) rfl fun C4 hC4 fs4 hs4=>?_
 simp only [List.set_cons_zero,List.set_cons_succ,setL,Nat.add_zero,Nat.zero_add,Nat.reduceAdd] at hC4
 have hA4:=hAx3.fr fs4 (by simp; omega)
 have hB4:=hBx3.fr fs4 (by simp; omega)
 have hr4:=r3.fr fs4 (by simp; omega) (fun k hk=>by have:=h0.ltg hk; simp; omega)
 have hF4:Fr [b] H C4:=(hF3.trans f3).trans' fs4 (by simp; omega)
 have hz4:H.size + 3≤C4.size:=by omega
 replace p0:=RepP.on (RepP.on p0 f3 (by simp; omega) (Nat.le_refl _)) fs4 (by simp; omega) (Nat.le_refl _)
 replace p1:=RepP.on (RepP.on p1 f3 (by simp; omega) (Nat.le_refl _)) fs4 (by simp; omega) (Nat.le_refl _)
 replace p2:=RepP.on (RepP.on p2 f3 (by simp; omega) (Nat.le_refl _)) fs4 (by simp; omega) (Nat.le_refl _)
 replace p3:RepP C4 (fun x=>x < H.size + 3) _ _:=RepP.on (m:=H.size + 3) p3 fs4 (by simp; omega) (by omega)
 have hq4:=hA4.cell
 simp (implicitDefEqProofs:=false) only [go_sem,hq4]
 refine (rnum_ok hr4).mono ?_
 rintro v X4 ⟨rfl,r4,f4⟩
 rw [e4] at r4 ⊢
 have hsz4:=f4.size
 have hAx4:=hA4.fr f4 (by simpa using hbA)
 have hBx4:=hB4.fr f4 (by simpa using hbB)
 have hCx4:=hC4.fr f4 (by simpa using hbC)
 simp (implicitDefEqProofs:=false) only [go_sem]
 refine Sto_one hCx4 (by simp) rfl fun C5 hC5 fs5 hs5=>?_
 simp only [List.set_cons_zero,List.set_cons_succ,setL,Nat.add_zero,Nat.zero_add,Nat.reduceAdd] at hC5
 have hA5:=hAx4.fr fs5 (by simp; omega)
 have hB5:=hBx4.fr fs5 (by simp; omega)
 have hr5:=r4.fr fs5 (by simp; omega) (fun k hk=>by have:=h0.ltg hk; simp; omega)
 have hF5:Fr [b] H C5:=(hF4.trans f4).trans' fs5 (by simp; omega)
 have hz5:H.size + 3≤C5.size:=by omega
 replace p0:=RepP.on (RepP.on p0 f4 (by simp; omega) (Nat.le_refl _)) fs5 (by simp; omega) (Nat.le_refl _)
 replace p1:=RepP.on (RepP.on p1 f4 (by simp; omega) (Nat.le_refl _)) fs5 (by simp; omega) (Nat.le_refl _)
 replace p2:=RepP.on (RepP.on p2 f4 (by simp; omega) (Nat.le_refl _)) fs5 (by simp; omega) (Nat.le_refl _)
 replace p3:=RepP.on (RepP.on p3 f4 (by simp; omega) (Nat.le_refl _)) fs5 (by simp; omega) (Nat.le_refl _)
 have hq5:=hA5.cell
 simp (implicitDefEqProofs:=false) only [go_sem,hq5]
 refine (rbytes_o hr5).mono ?_
 rintro v X5 ⟨a5,c5,g5,rfl,ho5,hg5,r5,f5⟩
 have e5':bytesO L s5=(d5,s6):=e5
 rw [e5'] at r5 ho5 ⊢
 have p5:RepP X5 (fun x=>x < C5.size) (datT .bytes d5) [.slice a5 d5.length c5]:=RepP.bytes ho5 fun k hk=>by have:=hg5 k hk; omega
 have hsz5:=f5.size
 have hAx5:=hA5.fr f5 (by simpa using hbA)
 have hBx5:=hB5.fr f5 (by simpa using hbB)
 have hCx5:=hC5.fr f5 (by simpa using hbC)
 simp (implicitDefEqProofs:=false) only [go_sem]
 refine Sto_one hCx5 (by simp) rfl fun C6 hC6 fs6 hs6=>?_
 simp only [List.set_cons_zero,List.set_cons_succ,setL,Nat.add_zero,Nat.zero_add,Nat.reduceAdd] at hC6
 have hA6:=hAx5.fr fs6 (by simp; omega)
 have hB6:=hBx5.fr fs6 (by simp; omega)
 have hr6:=r5.fr fs6 (by simp; omega) (fun k hk=>by have:=h0.ltg hk; simp; omega)
 have hF6:Fr [b] H C6:=(hF5.trans f5).trans' fs6 (by simp; omega)
 have hz6:H.size + 3≤C6.size:=by omega
 replace p0:=RepP.on (RepP.on p0 f5 (by simp; omega) (Nat.le_refl _)) fs6 (by simp; omega) (Nat.le_refl _)
 replace p1:=RepP.on (RepP.on p1 f5 (by simp; omega) (Nat.le_refl _)) fs6 (by simp; omega) (Nat.le_refl _)
 replace p2:=RepP.on (RepP.on p2 f5 (by simp; omega) (Nat.le_refl _)) fs6 (by simp; omega) (Nat.le_refl _)
 replace p3:=RepP.on (RepP.on p3 f5 (by simp; omega) (Nat.le_refl _)) fs6 (by simp; omega) (Nat.le_refl _)
 replace p5:RepP C6 (fun x=>x < H.size + 3) _ _:=RepP.on (m:=H.size + 3) p5 fs6 (by simp; omega) (by omega)
 have hq6:=hA6.cell
 simp (implicitDefEqProofs:=false) only [go_sem,hq6]
 refine PCalls.mono (elemsAck_ok rfl (fun _=>rfl) rack_ok hL hr6) ?_ ?_
 rotate_left
 ·rintro c X ⟨rfl,hn,fx⟩
  refine ⟨rfl,?_,hF6.trans fx⟩
  rw [e6] at hn
  simp only at hn
  subst hn
  rw [hD]
 rintro v X6 ⟨cs,rfl,p6,r6,f6⟩
 rw [e6] at r6 p6
 simp only at r6 p6
 have hsz6:=f6.size
 obtain ⟨a6,c6,rfl,hl6,hm6⟩:=rep_list p6.rep
 have hAx6:=hA6.fr f6 (by simpa using hbA)
 have hBx6:=hB6.fr f6 (by simpa using hbB)
 have hCx6:=hC6.fr f6 (by simpa using hbC)
 simp (implicitDefEqProofs:=false) only [go_sem]
 refine Sto_one hCx6 (by simp) rfl fun C7 hC7 fs7 hs7=>?_
 simp only [List.set_cons_zero,List.set_cons_succ,setL,Nat.add_zero,Nat.zero_add,Nat.reduceAdd] at hC7
 have hA7:=hAx6.fr fs7 (by simp; omega)
 have hB7:=hBx6.fr fs7 (by simp; omega)
 have hr7:=r6.fr fs7 (by simp; omega) (fun k hk=>by have:=h0.ltg hk; simp; omega)
 have hF7:Fr [b] H C7:=(hF6.trans f6).trans' fs7 (by simp; omega)
 have hz7:H.size + 3≤C7.size:=by omega
 replace p0:=RepP.on (RepP.on p0 f6 (by simp; omega) (Nat.le_refl _)) fs7 (by simp; omega) (Nat.le_refl _)
 replace p1:=RepP.on (RepP.on p1 f6 (by simp; omega) (Nat.le_refl _)) fs7 (by simp; omega) (Nat.le_refl _)
 replace p2:=RepP.on (RepP.on p2 f6 (by simp; omega) (Nat.le_refl _)) fs7 (by simp; omega) (Nat.le_refl _)
 replace p3:=RepP.on (RepP.on p3 f6 (by simp; omega) (Nat.le_refl _)) fs7 (by simp; omega) (Nat.le_refl _)
 replace p5:=RepP.on (RepP.on p5 f6 (by simp; omega) (Nat.le_refl _)) fs7 (by simp; omega) (Nat.le_refl _)
 replace p6:RepP C7 (fun x=>x < H.size + 3) _ _:=RepP.on (m:=H.size + 3) p6 fs7 (by simp; omega) (by omega)
 have hq7:=hA7.cell
 have hw:=hC7.cell
 simp (implicitDefEqProofs:=false) only [go_sem,hw]
 refine Sto_all hB7 rfl ?_ fun Z hZ fz hsz=>?_
 ·intro v hv
  simp only [List.mem_cons,List.not_mem_nil,or_false] at hv
  rcases hv with rfl | rfl | rfl | rfl | rfl | rfl | rfl | rfl | rfl
  all_goals first | rfl | exact rep_one p0.rep _ (by simp)
 have hcz:=hZ.cell
 simp (implicitDefEqProofs:=false) only [go_sem,hcz]
 replace p0:=RepP.on p0 fz (by simp; omega) (show H.size≤H.size + 3 by omega)
 replace p1:=RepP.on p1 fz (by simp; omega) (show H.size≤H.size + 3 by omega)
 replace p2:=RepP.on p2 fz (by simp; omega) (show H.size≤H.size + 3 by omega)
 replace p3:=RepP.on p3 fz (by simp; omega) (show H.size≤H.size + 3 by omega)
 replace p5:=RepP.on p5 fz (by simp; omega) (show H.size≤H.size + 3 by omega)
 replace p6:=RepP.on p6 fz (by simp; omega) (show H.size≤H.size + 3 by omega)
 refine ⟨_,rfl,?_,?_,hF7.trans' fz (by simp; omega)⟩
 ·rw [hD]
  exact RepP.pair (p0) (RepP.pair (p1) (RepP.pair (p2) (RepP.pair (p3) (RepP.pair (RepP.v _) (RepP.pair (p5) (p6))))))
 ·rw [hD]
  exact hr7.fr fz (by simp; omega) (fun k hk=>by have:=h0.ltg hk; simp; omega)
set_option maxHeartbeats 2000000 in
theorem rbase_ok:ROk 137 tBase pR:=by
 refine ⟨by kernel_rfl,fun {H b L s0 g} hL h0=>?_⟩
 obtain ⟨d0,s1,e0⟩:∃ d s,dT L (.list tCert) s0=(d,s):=⟨_,_,rfl⟩
 obtain ⟨d1,s2,e1⟩:∃ d s,dT L (.list tCmd) s1=(d,s):=⟨_,_,rfl⟩
 have hD:dT L tBase s0=((d0,d1),s2):=by simp only [dT_pair,e0,e1]
 have hbH:=h0.lt
 refine pcalls_of_vc (args:=[_]) Tryz.func137 c137ok (Nat.le_of_ble_eq_true rfl) ?_
 simp (implicitDefEqProofs:=false) only [go_sem,c137,pR]
 refine NewP_intro fun A1 hA hfA hsA=>?_
 simp (implicitDefEqProofs:=false) only [go_sem]
 refine NewP_intro fun B1 hB hfB hsB=>?_
 simp (implicitDefEqProofs:=false) only [go_sem]
 refine NewP_intro fun C0 hC0 hfC hsC=>?_
 have hbA:H.size≠b:=by omega
 have hbB:A1.size≠b:=by omega
 have hbC:B1.size≠b:=by omega
 have hA0:=(hA.ext hfB).ext hfC
 have hB0:=hB.ext hfC
 have hr0:RdO C0 b L s0 g:=((h0.ext hfA).ext hfB).ext hfC
 have hF0:Fr [b] H C0:=((hfA.trans hfB).trans hfC).mono (by simp)
 have hq0:=hA0.cell
 have hz0:H.size + 3≤C0.size:=by omega
 simp (implicitDefEqProofs:=false) only [go_sem,hq0]
 refine PCalls.mono (elemsCertificate_ok rfl (fun _=>rfl) rcertificate_ok hL hr0) ?_ ?_
 rotate_left
 ·rintro c X ⟨rfl,hn,fx⟩
  refine ⟨rfl,?_,hF0.trans fx⟩
  rw [e0] at hn
  simp only at hn
  subst hn
  have q2:s2=none:=by rw [← dT_none L (.list tCmd),e1]
  subst q2
  rw [hD]
 rintro v X0 ⟨cs,rfl,p0,r0,f0⟩
 rw [e0] at r0 p0
 simp only at r0 p0
 have hsz0:=f0.size
 obtain ⟨a0,c0,rfl,hl0,hm0⟩:=rep_list p0.rep
 have hAx0:=hA0.fr f0 (by simpa using hbA)
 have hBx0:=hB0.fr f0 (by simpa using hbB)
 have hCx0:=hC0.fr f0 (by simpa using hbC)
 simp (implicitDefEqProofs:=false) only [go_sem]
 refine Sto_one hCx0 (by simp) rfl fun C1 hC1 fs1 hs1=>?_
 simp only [List.set_cons_zero,List.set_cons_succ,setL,Nat.add_zero,Nat.zero_add,Nat.reduceAdd] at hC1
 have hA1:=hAx0.fr fs1 (by simp; omega)
 have hB1:=hBx0.fr fs1 (by simp; omega)
 have hr1:=r0.fr fs1 (by simp; omega) (fun k hk=>by have:=h0.ltg hk; simp; omega)
 have hF1:Fr [b] H C1:=(hF0.trans f0).trans' fs1 (by simp; omega)
 have hz1:H.size + 3≤C1.size:=by omega
 replace p0:RepP C1 (fun x=>x < H.size + 3) _ _:=RepP.on (m:=H.size + 3) p0 fs1 (by simp; omega) (by omega)
 have hq1:=hA1.cell
 simp (implicitDefEqProofs:=false) only [go_sem,hq1]
 refine PCalls.mono (elemsCommand_ok rfl (fun _=>rfl) rcommand_ok hL hr1) ?_ ?_
 rotate_left
 ·rintro c X ⟨rfl,hn,fx⟩
  refine ⟨rfl,?_,hF1.trans fx⟩
  rw [e1] at hn
  simp only at hn
  subst hn
  rw [hD]
 rintro v X1 ⟨cs,rfl,p1,r1,f1⟩
 rw [e1] at r1 p1
 simp only at r1 p1
 have hsz1:=f1.size
 obtain ⟨a1,c1,rfl,hl1,hm1⟩:=rep_list p1.rep
 have hAx1:=hA1.fr f1 (by simpa using hbA)
 have hBx1:=hB1.fr f1 (by simpa using hbB)
 have hCx1:=hC1.fr f1 (by simpa using hbC)
 simp (implicitDefEqProofs:=false) only [go_sem]
 refine Sto_one hCx1 (by simp) rfl fun C2 hC2 fs2 hs2=>?_
 simp only [List.set_cons_zero,List.set_cons_succ,setL,Nat.add_zero,Nat.zero_add,Nat.reduceAdd] at hC2
 have hA2:=hAx1.fr fs2 (by simp; omega)
 have hB2:=hBx1.fr fs2 (by simp; omega)
 have hr2:=r1.fr fs2 (by simp; omega) (fun k hk=>by have:=h0.ltg hk; simp; omega)
 have hF2:Fr [b] H C2:=(hF1.trans f1).trans' fs2 (by simp; omega)
 have hz2:H.size + 3≤C2.size:=by omega
 replace p0:=RepP.on (RepP.on p0 f1 (by simp; omega) (Nat.le_refl _)) fs2 (by simp; omega) (Nat.le_refl _)
 replace p1:RepP C2 (fun x=>x < H.size + 3) _ _:=RepP.on (m:=H.size + 3) p1 fs2 (by simp; omega) (by omega)
 have hq2:=hA2.cell
 have hw:=hC2.cell
 simp (implicitDefEqProofs:=false) only [go_sem,hw]
 refine Sto_all hB2 rfl ?_ fun Z hZ fz hsz=>?_
 ·intro v hv
  simp only [List.mem_cons,List.not_mem_nil,or_false] at hv
  rcases hv with rfl | rfl
  all_goals first | rfl
 have hcz:=hZ.cell
 simp (implicitDefEqProofs:=false) only [go_sem,hcz]
 replace p0:=RepP.on p0 fz (by simp; omega) (show H.size≤H.size + 3 by omega)
 replace p1:=RepP.on p1 fz (by simp; omega) (show H.size≤H.size + 3 by omega)
 refine ⟨_,rfl,?_,?_,hF2.trans' fz (by simp; omega)⟩
 ·rw [hD]
  exact RepP.pair (p0) (p1)
 ·rw [hD]
  exact hr2.fr fz (by simp; omega) (fun k hk=>by have:=h0.ltg hk; simp; omega)
set_option maxHeartbeats 2000000 in
theorem rproof_ok:ROk 143 tProof pR:=by
 refine ⟨by kernel_rfl,fun {H b L s0 g} hL h0=>?_⟩
 obtain ⟨d0,s1,e0⟩:∃ d s,dT L (.list tCert) s0=(d,s):=⟨_,_,rfl⟩
 obtain ⟨d1,s2,e1⟩:∃ d s,dT L tCert s1=(d,s):=⟨_,_,rfl⟩
 have hD:dT L tProof s0=((d0,d1),s2):=by simp only [dT_pair,e0,e1]
 have hbH:=h0.lt
 refine pcalls_of_vc (args:=[_]) Tryz.func143 c143ok (Nat.le_of_ble_eq_true rfl) ?_
 simp (implicitDefEqProofs:=false) only [go_sem,c143,pR]
 refine NewP_intro fun A1 hA hfA hsA=>?_
 simp (implicitDefEqProofs:=false) only [go_sem]
 refine NewP_intro fun B1 hB hfB hsB=>?_
 simp (implicitDefEqProofs:=false) only [go_sem]
 refine NewP_intro fun C0 hC0 hfC hsC=>?_
 have hbA:H.size≠b:=by omega
 have hbB:A1.size≠b:=by omega
 have hbC:B1.size≠b:=by omega
 have hA0:=(hA.ext hfB).ext hfC
 have hB0:=hB.ext hfC
 have hr0:RdO C0 b L s0 g:=((h0.ext hfA).ext hfB).ext hfC
 have hF0:Fr [b] H C0:=((hfA.trans hfB).trans hfC).mono (by simp)
 have hq0:=hA0.cell
 have hz0:H.size + 3≤C0.size:=by omega
 simp (implicitDefEqProofs:=false) only [go_sem,hq0]
 refine PCalls.mono (elemsCertificate_ok rfl (fun _=>rfl) rcertificate_ok hL hr0) ?_ ?_
 rotate_left
 ·rintro c X ⟨rfl,hn,fx⟩
  refine ⟨rfl,?_,hF0.trans fx⟩
  rw [e0] at hn
  simp only at hn
  subst hn
  have q2:s2=none:=by rw [← dT_none L tCert,e1]
  subst q2
  rw [hD]
 rintro v X0 ⟨cs,rfl,p0,r0,f0⟩
 rw [e0] at r0 p0
 simp only at r0 p0
 have hsz0:=f0.size
 obtain ⟨a0,c0,rfl,hl0,hm0⟩:=rep_list p0.rep
 have hAx0:=hA0.fr f0 (by simpa using hbA)
 have hBx0:=hB0.fr f0 (by simpa using hbB)
 have hCx0:=hC0.fr f0 (by simpa using hbC)
 simp (implicitDefEqProofs:=false) only [go_sem]
 refine Sto_one hCx0 (by simp) rfl fun C1 hC1 fs1 hs1=>?_
 simp only [List.set_cons_zero,List.set_cons_succ,setL,Nat.add_zero,Nat.zero_add,Nat.reduceAdd] at hC1
 have hA1:=hAx0.fr fs1 (by simp; omega)
 have hB1:=hBx0.fr fs1 (by simp; omega)
 have hr1:=r0.fr fs1 (by simp; omega) (fun k hk=>by have:=h0.ltg hk; simp; omega)
 have hF1:Fr [b] H C1:=(hF0.trans f0).trans' fs1 (by simp; omega)
 have hz1:H.size + 3≤C1.size:=by omega
 replace p0:RepP C1 (fun x=>x < H.size + 3) _ _:=RepP.on (m:=H.size + 3) p0 fs1 (by simp; omega) (by omega)
 have hq1:=hA1.cell
 simp (implicitDefEqProofs:=false) only [go_sem,hq1]
 refine PCalls.mono (rcertificate_ok.2 hL hr1) ?_ ?_
 rotate_left
 ·rintro c X ⟨rfl,hn,fx⟩
  refine ⟨rfl,?_,hF1.trans fx⟩
  rw [e1] at hn
  simp only at hn
  subst hn
  rw [hD]
 rintro v X1 ⟨cs,rfl,p1,r1,f1⟩
 rw [e1] at r1 p1
 simp only at r1 p1
 have hsz1:=f1.size
 obtain ⟨y1_0,y1_1,y1_2,y1_3,y1_4,y1_5,y1_6,y1_7,y1_8,rfl⟩:=len9 (rep_wid p1.rep)
 have hAx1:=hA1.fr f1 (by simpa using hbA)
 have hBx1:=hB1.fr f1 (by simpa using hbB)
 have hCx1:=hC1.fr f1 (by simpa using hbC)
 simp (implicitDefEqProofs:=false) only [go_sem]
 refine Sto_blk _ _ _ 1 0 hCx1 (by simp) (rep_one p1.rep) fun C2 hC2 fs2 hs2=>?_
 simp only [List.set_cons_zero,List.set_cons_succ,setL,Nat.add_zero,Nat.zero_add,Nat.reduceAdd] at hC2
 have hA2:=hAx1.fr fs2 (by simp; omega)
 have hB2:=hBx1.fr fs2 (by simp; omega)
 have hr2:=r1.fr fs2 (by simp; omega) (fun k hk=>by have:=h0.ltg hk; simp; omega)
 have hF2:Fr [b] H C2:=(hF1.trans f1).trans' fs2 (by simp; omega)
 have hz2:H.size + 3≤C2.size:=by omega
 replace p0:=RepP.on (RepP.on p0 f1 (by simp; omega) (Nat.le_refl _)) fs2 (by simp; omega) (Nat.le_refl _)
 replace p1:RepP C2 (fun x=>x < H.size + 3) _ _:=RepP.on (m:=H.size + 3) p1 fs2 (by simp; omega) (by omega)
 have hq2:=hA2.cell
 have hw:=hC2.cell
 simp (implicitDefEqProofs:=false) only [go_sem,hw]
 refine Sto_all hB2 rfl ?_ fun Z hZ fz hsz=>?_
 ·intro v hv
  simp only [List.mem_cons,List.not_mem_nil,or_false] at hv
  rcases hv with rfl | rfl | rfl | rfl | rfl | rfl | rfl | rfl | rfl | rfl
  all_goals first | rfl | exact rep_one p1.rep _ (by simp)
 have hcz:=hZ.cell
 simp (implicitDefEqProofs:=false) only [go_sem,hcz]
 replace p0:=RepP.on p0 fz (by simp; omega) (show H.size≤H.size + 3 by omega)
 replace p1:=RepP.on p1 fz (by simp; omega) (show H.size≤H.size + 3 by omega)
 refine ⟨_,rfl,?_,?_,hF2.trans' fz (by simp; omega)⟩
 ·rw [hD]
  exact RepP.pair (p0) (p1)
 ·rw [hD]
  exact hr2.fr fz (by simp; omega) (fun k hk=>by have:=h0.ltg hk; simp; omega)
set_option maxHeartbeats 2000000 in
theorem rdigest_ok:ROk 145 tDigest pR:=by
 refine ⟨by kernel_rfl,fun {H b L s0 g} hL h0=>?_⟩
 obtain ⟨d0,s1,e0⟩:∃ d s,dT L .bytes s0=(d,s):=⟨_,_,rfl⟩
 obtain ⟨d1,s2,e1⟩:∃ d s,dT L .bytes s1=(d,s):=⟨_,_,rfl⟩
 obtain ⟨d2,s3,e2⟩:∃ d s,dT L .num s2=(d,s):=⟨_,_,rfl⟩
 have hD:dT L tDigest s0=((d0,d1,d2),s3):=by simp only [dT_pair,e0,e1,e2]
 have hbH:=h0.lt
 refine pcalls_of_vc (args:=[_]) Tryz.func145 c145ok (Nat.le_of_ble_eq_true rfl) ?_
 simp (implicitDefEqProofs:=false) only [go_sem,c145,pR]
 refine NewP_intro fun A1 hA hfA hsA=>?_
 simp (implicitDefEqProofs:=false) only [go_sem]
 refine NewP_intro fun B1 hB hfB hsB=>?_
 simp (implicitDefEqProofs:=false) only [go_sem]
 refine NewP_intro fun C0 hC0 hfC hsC=>?_
 have hbA:H.size≠b:=by omega
 have hbB:A1.size≠b:=by omega
 have hbC:B1.size≠b:=by omega
 have hA0:=(hA.ext hfB).ext hfC
 have hB0:=hB.ext hfC
 have hr0:RdO C0 b L s0 g:=((h0.ext hfA).ext hfB).ext hfC
 have hF0:Fr [b] H C0:=((hfA.trans hfB).trans hfC).mono (by simp)
 have hq0:=hA0.cell
 have hz0:H.size + 3≤C0.size:=by omega
 simp (implicitDefEqProofs:=false) only [go_sem,hq0]
 refine (rbytes_o hr0).mono ?_
 rintro v X0 ⟨a0,c0,g0,rfl,ho0,hg0,r0,f0⟩
 have e0':bytesO L s0=(d0,s1):=e0
 rw [e0'] at r0 ho0 ⊢
 have p0:RepP X0 (fun x=>x < C0.size) (datT .bytes d0) [.slice a0 d0.length c0]:=RepP.bytes ho0 fun k hk=>by have:=hg0 k hk; omega
 have hsz0:=f0.size
 have hAx0:=hA0.fr f0 (by simpa using hbA)
 have hBx0:=hB0.fr f0 (by simpa using hbB)
 have hCx0:=hC0.fr f0 (by simpa using hbC)
 simp (implicitDefEqProofs:=false) only [go_sem]
 refine Sto_one hCx0 (by simp) rfl fun C1 hC1 fs1 hs1=>?_
 simp only [List.set_cons_zero,List.set_cons_succ,setL,Nat.add_zero,Nat.zero_add,Nat.reduceAdd] at hC1
 have hA1:=hAx0.fr fs1 (by simp; omega)
 have hB1:=hBx0.fr fs1 (by simp; omega)
 have hr1:=r0.fr fs1 (by simp; omega) (fun k hk=>by have:=h0.ltg hk; simp; omega)
 have hF1:Fr [b] H C1:=(hF0.trans f0).trans' fs1 (by simp; omega)
 have hz1:H.size + 3≤C1.size:=by omega
 replace p0:RepP C1 (fun x=>x < H.size + 3) _ _:=RepP.on (m:=H.size + 3) p0 fs1 (by simp; omega) (by omega)
 have hq1:=hA1.cell
 simp (implicitDefEqProofs:=false) only [go_sem,hq1]
 refine (rbytes_o hr1).mono ?_
 rintro v X1 ⟨a1,c1,g1,rfl,ho1,hg1,r1,f1⟩
 have e1':bytesO L s1=(d1,s2):=e1
 rw [e1'] at r1 ho1 ⊢
 have p1:RepP X1 (fun x=>x < C1.size) (datT .bytes d1) [.slice a1 d1.length c1]:=RepP.bytes ho1 fun k hk=>by have:=hg1 k hk; omega
 have hsz1:=f1.size
 have hAx1:=hA1.fr f1 (by simpa using hbA)
 have hBx1:=hB1.fr f1 (by simpa using hbB)
 have hCx1:=hC1.fr f1 (by simpa using hbC)
 simp (implicitDefEqProofs:=false) only [go_sem]
 refine Sto_one hCx1 (by simp) rfl fun C2 hC2 fs2 hs2=>?_
 simp only [List.set_cons_zero,List.set_cons_succ,setL,Nat.add_zero,Nat.zero_add,Nat.reduceAdd] at hC2
 have hA2:=hAx1.fr fs2 (by simp; omega)
 have hB2:=hBx1.fr fs2 (by simp; omega)
 have hr2:=r1.fr fs2 (by simp; omega) (fun k hk=>by have:=h0.ltg hk; simp; omega)
 have hF2:Fr [b] H C2:=(hF1.trans f1).trans' fs2 (by simp; omega)
 have hz2:H.size + 3≤C2.size:=by omega
 replace p0:=RepP.on (RepP.on p0 f1 (by simp; omega) (Nat.le_refl _)) fs2 (by simp; omega) (Nat.le_refl _)
 replace p1:RepP C2 (fun x=>x < H.size + 3) _ _:=RepP.on (m:=H.size + 3) p1 fs2 (by simp; omega) (by omega)
 have hq2:=hA2.cell
 simp (implicitDefEqProofs:=false) only [go_sem,hq2]
 refine (rnum_ok hr2).mono ?_
 rintro v X2 ⟨rfl,r2,f2⟩
 rw [e2] at r2 ⊢
 have hsz2:=f2.size
 have hAx2:=hA2.fr f2 (by simpa using hbA)
 have hBx2:=hB2.fr f2 (by simpa using hbB)
 have hCx2:=hC2.fr f2 (by simpa using hbC)
 simp (implicitDefEqProofs:=false) only [go_sem]
 refine Sto_one hCx2 (by simp) rfl fun C3 hC3 fs3 hs3=>?_
 simp only [List.set_cons_zero,List.set_cons_succ,setL,Nat.add_zero,Nat.zero_add,Nat.reduceAdd] at hC3
 have hA3:=hAx2.fr fs3 (by simp; omega)
 have hB3:=hBx2.fr fs3 (by simp; omega)
 have hr3:=r2.fr fs3 (by simp; omega) (fun k hk=>by have:=h0.ltg hk; simp; omega)
 have hF3:Fr [b] H C3:=(hF2.trans f2).trans' fs3 (by simp; omega)
 have hz3:H.size + 3≤C3.size:=by omega
 replace p0:=RepP.on (RepP.on p0 f2 (by simp; omega) (Nat.le_refl _)) fs3 (by simp; omega) (Nat.le_refl _)
 replace p1:=RepP.on (RepP.on p1 f2 (by simp; omega) (Nat.le_refl _)) fs3 (by simp; omega) (Nat.le_refl _)
 have hq3:=hA3.cell
 have hw:=hC3.cell
 simp (implicitDefEqProofs:=false) only [go_sem,hw]
 refine Sto_all hB3 rfl ?_ fun Z hZ fz hsz=>?_
 ·intro v hv
  simp only [List.mem_cons,List.not_mem_nil,or_false] at hv
  rcases hv with rfl | rfl | rfl
  all_goals first | rfl
 have hcz:=hZ.cell
 simp (implicitDefEqProofs:=false) only [go_sem,hcz]
 replace p0:=RepP.on p0 fz (by simp; omega) (show H.size≤H.size + 3 by omega)
 replace p1:=RepP.on p1 fz (by simp; omega) (show H.size≤H.size + 3 by omega)
 refine ⟨_,rfl,?_,?_,hF3.trans' fz (by simp; omega)⟩
 ·rw [hD]
  exact RepP.pair (p0) (RepP.pair (p1) (RepP.v _))
 ·rw [hD]
  exact hr3.fr fz (by simp; omega) (fun k hk=>by have:=h0.ltg hk; simp; omega)
set_option maxHeartbeats 2000000 in
theorem ritem_ok:ROk 149 tItem pR:=by
 refine ⟨by kernel_rfl,fun {H b L s0 g} hL h0=>?_⟩
 obtain ⟨d0,s1,e0⟩:∃ d s,dT L .text s0=(d,s):=⟨_,_,rfl⟩
 obtain ⟨d1,s2,e1⟩:∃ d s,dT L .bool s1=(d,s):=⟨_,_,rfl⟩
 obtain ⟨d2,s3,e2⟩:∃ d s,dT L .bytes s2=(d,s):=⟨_,_,rfl⟩
 obtain ⟨d3,s4,e3⟩:∃ d s,dT L (.list .bytes) s3=(d,s):=⟨_,_,rfl⟩
 have hD:dT L tItem s0=((d0,d1,d2,d3),s4):=by simp only [dT_pair,e0,e1,e2,e3]
 have hbH:=h0.lt
 refine pcalls_of_vc (args:=[_]) Tryz.func149 c149ok (Nat.le_of_ble_eq_true rfl) ?_
 simp (implicitDefEqProofs:=false) only [go_sem,c149,pR]
 refine NewP_intro fun A1 hA hfA hsA=>?_
 simp (implicitDefEqProofs:=false) only [go_sem]
 refine NewP_intro fun B1 hB hfB hsB=>?_
 simp (implicitDefEqProofs:=false) only [go_sem]
 refine NewP_intro fun C0 hC0 hfC hsC=>?_
 have hbA:H.size≠b:=by omega
 have hbB:A1.size≠b:=by omega
 have hbC:B1.size≠b:=by omega
 have hA0:=(hA.ext hfB).ext hfC
 have hB0:=hB.ext hfC
 have hr0:RdO C0 b L s0 g:=((h0.ext hfA).ext hfB).ext hfC
 have hF0:Fr [b] H C0:=((hfA.trans hfB).trans hfC).mono (by simp)
 have hq0:=hA0.cell
 have hz0:H.size + 3≤C0.size:=by omega
 simp (implicitDefEqProofs:=false) only [go_sem,hq0]
 refine (rtext_o hr0).mono ?_
 rintro v X0 ⟨rfl,r0,f0⟩
 have e0':bytesO L s0=(d0,s1):=e0
 rw [e0'] at r0 ⊢
 have hsz0:=f0.size
 have hAx0:=hA0.fr f0 (by simpa using hbA)
 have hBx0:=hB0.fr f0 (by simpa using hbB)
 have hCx0:=hC0.fr f0 (by simpa using hbC)
 simp (implicitDefEqProofs:=false) only [go_sem]
 refine Sto_one hCx0 (by simp) rfl fun C1 hC1 fs1 hs1=>?_
 simp only [List.set_cons_zero,List.set_cons_succ,setL,Nat.add_zero,Nat.zero_add,Nat.reduceAdd] at hC1
 have hA1:=hAx0.fr fs1 (by simp; omega)
 have hB1:=hBx0.fr fs1 (by simp; omega)
 have hr1:=r0.fr fs1 (by simp; omega) (fun k hk=>by have:=h0.ltg hk; simp; omega)
 have hF1:Fr [b] H C1:=(hF0.trans f0).trans' fs1 (by simp; omega)
 have hz1:H.size + 3≤C1.size:=by omega
 have hq1:=hA1.cell
 simp (implicitDefEqProofs:=false) only [go_sem,hq1]
 refine (rbool_o hr1).mono ?_
 rintro v X1 ⟨rfl,r1,f1⟩
 have e1':boolO L s1=(d1,s2):=e1
 rw [e1'] at r1 ⊢
 have hsz1:=f1.size
 have hAx1:=hA1.fr f1 (by simpa using hbA)
 have hBx1:=hB1.fr f1 (by simpa using hbB)
 have hCx1:=hC1.fr f1 (by simpa using hbC)
 simp (implicitDefEqProofs:=false) only [go_sem]
 refine Sto_one hCx1 (by simp) rfl fun C2 hC2 fs2 hs2=>?_
 simp only [List.set_cons_zero,List.set_cons_succ,setL,Nat.add_zero,Nat.zero_add,Nat.reduceAdd] at hC2
 have hA2:=hAx1.fr fs2 (by simp; omega)
 have hB2:=hBx1.fr fs2 (by simp; omega)
 have hr2:=r1.fr fs2 (by simp; omega) (fun k hk=>by have:=h0.ltg hk; simp; omega)
 have hF2:Fr [b] H C2:=(hF1.trans f1).trans' fs2 (by simp; omega)
 have hz2:H.size + 3≤C2.size:=by omega
 have hq2:=hA2.cell
 simp (implicitDefEqProofs:=false) only [go_sem,hq2]
 refine (rbytes_o hr2).mono ?_
 rintro v X2 ⟨a2,c2,g2,rfl,ho2,hg2,r2,f2⟩
 have e2':bytesO L s2=(d2,s3):=e2
 rw [e2'] at r2 ho2 ⊢
 have p2:RepP X2 (fun x=>x < C2.size) (datT .bytes d2) [.slice a2 d2.length c2]:=RepP.bytes ho2 fun k hk=>by have:=hg2 k hk; omega
 have hsz2:=f2.size
 have hAx2:=hA2.fr f2 (by simpa using hbA)
 have hBx2:=hB2.fr f2 (by simpa using hbB)
 have hCx2:=hC2.fr f2 (by simpa using hbC)
 simp (implicitDefEqProofs:=false) only [go_sem]
 refine Sto_one hCx2 (by simp) rfl fun C3 hC3 fs3 hs3=>?_
 simp only [List.set_cons_zero,List.set_cons_succ,setL,Nat.add_zero,Nat.zero_add,Nat.reduceAdd] at hC3
 have hA3:=hAx2.fr fs3 (by simp; omega)
 have hB3:=hBx2.fr fs3 (by simp; omega)
 have hr3:=r2.fr fs3 (by simp; omega) (fun k hk=>by have:=h0.ltg hk; simp; omega)
 have hF3:Fr [b] H C3:=(hF2.trans f2).trans' fs3 (by simp; omega)
 have hz3:H.size + 3≤C3.size:=by omega
 replace p2:RepP C3 (fun x=>x < H.size + 3) _ _:=RepP.on (m:=H.size + 3) p2 fs3 (by simp; omega) (by omega)
 have hq3:=hA3.cell
 simp (implicitDefEqProofs:=false) only [go_sem,hq3]
 refine PCalls.mono (elemsBts_ok rfl (fun _=>rfl) rfl rbytes_ok' hL hr3) ?_ ?_
 rotate_left
 ·rintro c X ⟨rfl,hn,fx⟩
  refine ⟨rfl,?_,hF3.trans fx⟩
  rw [e3] at hn
  simp only at hn
  subst hn
  rw [hD]
 rintro v X3 ⟨cs,rfl,p3,r3,f3⟩
 rw [e3] at r3 p3
 simp only at r3 p3
 have hsz3:=f3.size
 obtain ⟨a3,c3,rfl,hl3,hm3⟩:=rep_list p3.rep
 have hAx3:=hA3.fr f3 (by simpa using hbA)
 have hBx3:=hB3.fr f3 (by simpa using hbB)
 have hCx3:=hC3.fr f3 (by simpa using hbC)
 simp (implicitDefEqProofs:=false) only [go_sem]
 refine Sto_one hCx3 (by simp) rfl fun C4 hC4 fs4 hs4=>?_
 simp only [List.set_cons_zero,List.set_cons_succ,setL,Nat.add_zero,Nat.zero_add,Nat.reduceAdd] at hC4
 have hA4:=hAx3.fr fs4 (by simp; omega)
 have hB4:=hBx3.fr fs4 (by simp; omega)
 have hr4:=r3.fr fs4 (by simp; omega) (fun k hk=>by have:=h0.ltg hk; simp; omega)
 have hF4:Fr [b] H C4:=(hF3.trans f3).trans' fs4 (by simp; omega)
 have hz4:H.size + 3≤C4.size:=by omega
 replace p2:=RepP.on (RepP.on p2 f3 (by simp; omega) (Nat.le_refl _)) fs4 (by simp; omega) (Nat.le_refl _)
 replace p3:RepP C4 (fun x=>x < H.size + 3) _ _:=RepP.on (m:=H.size + 3) p3 fs4 (by simp; omega) (by omega)
 have hq4:=hA4.cell
 have hw:=hC4.cell
 simp (implicitDefEqProofs:=false) only [go_sem,hw]
 refine Sto_all hB4 rfl ?_ fun Z hZ fz hsz=>?_
 ·intro v hv
  simp only [List.mem_cons,List.not_mem_nil,or_false] at hv
  rcases hv with rfl | rfl | rfl | rfl
  all_goals first | rfl
 have hcz:=hZ.cell
 simp (implicitDefEqProofs:=false) only [go_sem,hcz]
 replace p2:=RepP.on p2 fz (by simp; omega) (show H.size≤H.size + 3 by omega)
 replace p3:=RepP.on p3 fz (by simp; omega) (show H.size≤H.size + 3 by omega)
 refine ⟨_,rfl,?_,?_,hF4.trans' fz (by simp; omega)⟩
 ·rw [hD]
  exact RepP.pair (RepP.v _) (RepP.pair (RepP.v _) (RepP.pair (p2) (p3)))
 ·rw [hD]
  exact hr4.fr fz (by simp; omega) (fun k hk=>by have:=h0.ltg hk; simp; omega)
end Go.Proofs.YtdhlibkdcldioaaGreat
end
section
set_option linter.unusedSimpArgs false
set_option linter.unusedVariables false
set_option maxRecDepth 8000
namespace Go.Proofs.YtdhlibkdcldioaaGreat
open Gx Go
def decDen:(t:Ty)→DecidableEq (den t)
 | .num=>inferInstanceAs (DecidableEq Int)
 | .bool=>inferInstanceAs (DecidableEq Bool)
 | .bytes=>inferInstanceAs (DecidableEq (List UInt8))
 | .text=>inferInstanceAs (DecidableEq (List UInt8))
 | .list t=>have:=decDen t; inferInstanceAs (DecidableEq (List (den t)))
 | .pair a b=>have:=decDen a; have:=decDen b; inferInstanceAs (DecidableEq (den a × den b))
instance (t:Ty):DecidableEq (den t):=decDen t
structure Msg where
 kind:Int
 src:Int
 dst:Int
 round:den tRound
 reads:List (den tRead)
 base:List (den tBase)
 state:List (den tCmd)
 acks:List (den tAck)
 proof:List (den tProof)
 digests:List (den tDigest)
 objects:List Bs
 seq:Int
 items:List (den tItem)
def Msg.tup (m:Msg):den tMsg:=(m.kind,m.src,m.dst,m.round,m.reads,m.base,m.state,m.acks,m.proof,m.digests,m.objects,m.seq,m.items)
def Msg.of (d:den tMsg):Msg:=⟨d.1,d.2.1,d.2.2.1,d.2.2.2.1,d.2.2.2.2.1,d.2.2.2.2.2.1,d.2.2.2.2.2.2.1,d.2.2.2.2.2.2.2.1,d.2.2.2.2.2.2.2.2.1,d.2.2.2.2.2.2.2.2.2.1,d.2.2.2.2.2.2.2.2.2.2.1,d.2.2.2.2.2.2.2.2.2.2.2.1,d.2.2.2.2.2.2.2.2.2.2.2.2⟩
theorem of_tup (m:Msg):Msg.of m.tup=m:=rfl
theorem tup_inj {a b:Msg} (h:a.tup=b.tup):a=b:=by rw [← of_tup a,← of_tup b,h]
def Msg.zero:Msg:=⟨0,0,0,(0,0,0),[],[],[],[],[],[],[],0,[]⟩
def payT:Nat→Ty
 | 1=>.pair tRound (.pair (.list tRead) (.pair (.list tBase) (.list tCmd)))
 | 2=>.pair tRound (.pair (.list tCmd) (.pair (.list tBase) (.list tAck)))
 | 3=>.pair (.list tProof) (.list tCmd)
 | 4=>.list tDigest
 | 5=>.list tCmd
 | 6=>.list tCmd
 | 7=>.pair (.list tRead) (.list .text)
 | _=>.pair (.list tProof) (.pair (.list tRead) (.pair .num (.list tItem)))
def payD (m:Msg):(k:Nat)→den (payT k)
 | 0=>(m.proof,m.reads,m.seq,m.items)
 | 1=>(m.round,m.reads,m.base,m.state)
 | 2=>(m.round,m.state,m.base,m.acks)
 | 3=>(m.proof,m.state)
 | 4=>m.digests
 | 5=>m.state
 | 6=>m.state
 | 7=>(m.reads,m.objects)
 | _ + 8=>(m.proof,m.reads,m.seq,m.items)
def mkM (k:Nat) (src dst:Int) (d:den (payT k)):Msg:=
 match k,d with
 | 0,d=>{ Msg.zero with kind:=0,src,dst,proof:=d.1,reads:=d.2.1,seq:=d.2.2.1,items:=d.2.2.2 }
 | 1,d=>{ Msg.zero with kind:=1,src,dst,round:=d.1,reads:=d.2.1,base:=d.2.2.1,state:=d.2.2.2 }
 | 2,d=>{ Msg.zero with kind:=2,src,dst,round:=d.1,state:=d.2.1,base:=d.2.2.1,acks:=d.2.2.2 }
 | 3,d=>{ Msg.zero with kind:=3,src,dst,proof:=d.1,state:=d.2 }
 | 4,d=>{ Msg.zero with kind:=4,src,dst,digests:=d }
 | 5,d=>{ Msg.zero with kind:=5,src,dst,state:=d }
 | 6,d=>{ Msg.zero with kind:=6,src,dst,state:=d }
 | 7,d=>{ Msg.zero with kind:=7,src,dst,reads:=d.1,objects:=d.2 }
 | k + 8,d=>{ Msg.zero with kind:=(k + 8:Nat),src,dst,proof:=d.1,reads:=d.2.1,seq:=d.2.2.1,items:=d.2.2.2 }
theorem payD_mkM {k:Nat} (src dst:Int) (d:den (payT k)):payD (mkM k src dst d) k=d:=by
 match k with
 | 0 | 1 | 2 | 3 | 4 | 5 | 6 | 7 | _ + 8=>rfl
theorem kind_mkM {k:Nat} (src dst:Int) (d:den (payT k)):(mkM k src dst d).kind=k:=by
 match k with
 | 0 | 1 | 2 | 3 | 4 | 5 | 6 | 7 | _ + 8=>rfl
theorem src_mkM {k:Nat} (src dst:Int) (d:den (payT k)):(mkM k src dst d).src=src:=by
 match k with
 | 0 | 1 | 2 | 3 | 4 | 5 | 6 | 7 | _ + 8=>rfl
theorem dst_mkM {k:Nat} (src dst:Int) (d:den (payT k)):(mkM k src dst d).dst=dst:=by
 match k with
 | 0 | 1 | 2 | 3 | 4 | 5 | 6 | 7 | _ + 8=>rfl
def hasB (m:Msg):List Bool:=[decide (m.round≠(0,0,0)),decide (0 < m.reads.length),decide (0 < m.base.length),decide (0 < m.state.length),decide (0 < m.acks.length),decide (0 < m.proof.length),decide (0 < m.digests.length),decide (0 < m.objects.length),decide (m.seq≠0),decide (0 < m.items.length)]
def useB:Int→List Bool
 | 1=>[true,true,true,true,false,false,false,false,false,false]
 | 2=>[true,false,true,true,true,false,false,false,false,false]
 | 3=>[false,false,false,true,false,true,false,false,false,false]
 | 4=>[false,false,false,false,false,false,true,false,false,false]
 | 5=>[false,false,false,true,false,false,false,false,false,false]
 | 6=>[false,false,false,true,false,false,false,false,false,false]
 | 7=>[false,true,false,false,false,false,false,true,false,false]
 | 8=>[false,true,false,false,false,true,false,false,true,true]
 | _=>[false,false,false,false,false,false,false,false,false,false]
def fitB:List Bool→List Bool→Bool
 | h :: hs,u :: us=>(!h || u) && fitB hs us
 | _,_=>true
def countB (m:Msg):Bool:=
 if m.kind=1 then decide (m.base.length=1)
 else if m.kind=2 then decide (m.base.length≤1) && decide (m.acks.length≤1)
 else if m.kind=3 then decide (m.proof.length=1)
 else if m.kind=6 then decide (m.state.length=1)
 else if m.kind=7 then decide (m.reads.length=1)
 else if m.kind=8 then decide (m.proof.length=1) && ((decide (m.reads.length=1) && decide (m.seq=0)) || (decide (m.reads.length=0) && decide (1≤m.seq)))
 else true
def headB (m:Msg):Bool:=decide (1≤m.kind) && decide (m.kind≤8) && decide (0≤m.src) && decide (m.src≤63) && decide (0≤m.dst) && decide (m.dst≤63)
def formB (m:Msg):Bool:=headB m && fitB (hasB m) (useB m.kind) && countB m
theorem form_head {m:Msg} (h:formB m=true):1≤m.kind∧m.kind≤8∧0≤m.src∧m.src≤63∧0≤m.dst∧m.dst≤63:=by
 simp only [formB,headB,Bool.and_eq_true,decide_eq_true_eq] at h
 obtain ⟨⟨⟨⟨⟨⟨⟨h1,h2⟩,h3⟩,h4⟩,h5⟩,h6⟩,_⟩,_⟩:=h
 exact ⟨h1,h2,h3,h4,h5,h6⟩
theorem form_mkM {m:Msg} (h:formB m=true) {k:Nat} (hk:m.kind=k):m=mkM k m.src m.dst (payD m k):=by
 have hh:=form_head h
 have hk':k=1∨k=2∨k=3∨k=4∨k=5∨k=6∨k=7∨k=8:=by omega
 obtain ⟨kind,src,dst,round,reads,base,state,acks,proof,digests,objects,seq,items⟩:=m
 simp only at hk
 subst hk
 simp only [formB,Bool.and_eq_true] at h
 have h2:=h.1.2
 rcases hk' with rfl | rfl | rfl | rfl | rfl | rfl | rfl | rfl <;>
 ·simp [hasB,useB,fitB] at h2
  simp [mkM,payD,Msg.zero,h2]
def encM (m:Msg):Bs:=enc m.kind.toNat ++ (enc (zig m.src) ++ (enc (zig m.dst) ++ encT (payT m.kind.toNat) (payD m m.kind.toNat)))
def okM (m:Msg):Prop:=okT tMsg m.tup
def decM (L:Bs):Option Msg:=
 let k:=uintO L (some 0)
 let f:=dT L .num k.2
 let t:=dT L .num f.2
 if k.1=0∨8 < k.1 then none
 else
  let d:=dT L (payT k.1) t.2
  if d.2=some L.length then some (mkM k.1 f.1 t.1 d.1) else none
def decF (L:Bs):Option Msg:=
 match decM L with
 | some m=>if formB m then some m else none
 | none=>none
theorem okM_pay {m:Msg} (h:okM m):∀ k,okT (payT k) (payD m k):=by
 obtain ⟨h1,h2,h3,h4,h5,h6,h7,h8,h9,h10,h11,h12,h13⟩:=h
 intro k
 match k with
 | 0=>exact ⟨h9,h5,h12,h13⟩
 | 1=>exact ⟨h4,h5,h6,h7⟩
 | 2=>exact ⟨h4,h7,h6,h8⟩
 | 3=>exact ⟨h9,h7⟩
 | 4=>exact h10
 | 5=>exact h7
 | 6=>exact h7
 | 7=>exact ⟨h5,h11⟩
 | _ + 8=>exact ⟨h9,h5,h12,h13⟩
theorem decM_encM {m:Msg} (hf:formB m=true) (ho:okM m) (hl:(encM m).length < 2^63):decM (encM m)=some m:=by
 have hh:=form_head hf
 obtain ⟨k,hk⟩:∃ k:Nat,m.kind=k:=⟨m.kind.toNat,by omega⟩
 have hkn:m.kind.toNat=k:=by omega
 have hE:encM m=enc k ++ (encT .num m.src ++ (encT .num m.dst ++ encT (payT k) (payD m k))):=by rw [encM,hkn]; rfl
 have hw:=okM_pay ho k
 have a0:AtL (encM m) 0 (enc k ++ (encT .num m.src ++ (encT .num m.dst ++ encT (payT k) (payD m k)))):=⟨[],by rw [hE]; simp⟩
 have r0:=uintO_at a0.left (by omega)
 have a1:=a0.right
 have r1:=dT_at hl .num m.src ho.2.1 a1.left
 have a2:=a1.right
 have r2:=dT_at hl .num m.dst ho.2.2.1 a2.left
 have a3:=a2.right
 have r3:=dT_at hl (payT k) (payD m k) hw a3
 unfold decM
 rw [r0]
 simp only
 rw [r1]
 simp only
 rw [r2]
 simp only
 rw [if_neg (by omega),r3]
 simp only
 rw [if_pos (by rw [hE]; simp only [List.length_append]; congr 1; omega),← form_mkM hf hk]
theorem decM_some {L:Bs} {m:Msg} (h:decM L=some m):encM m=L:=by
 unfold decM at h
 simp only at h
 split at h
 ·cases h
 rename_i hk
 split at h
 ·rename_i hd
  simp only [Option.some.injEq] at h
  generalize hu:uintO L (some 0)=u at h hd hk
  obtain ⟨k,s1⟩:=u
  simp only at h hd hk
  generalize hf:dT L .num s1=f at h hd
  obtain ⟨f,s2⟩:=f
  simp only at h hd
  generalize ht:dT L .num s2=t at h hd
  obtain ⟨t,s3⟩:=t
  simp only at h hd
  generalize hp:dT L (payT k) s3=d at h hd
  obtain ⟨d,s4⟩:=d
  simp only at h hd
  subst hd
  cases s3 with
  | none=>have:=dT_none L (payT k); rw [hp] at this; cases this
  | some p3=>
    cases s2 with
    | none=>have:=dT_none L .num; rw [ht] at this; cases this
    | some p2=>
      cases s1 with
      | none=>have:=dT_none L .num; rw [hf] at this; cases this
      | some p1=>
        have q1:=span_uint hu
        have q2:=dT_span L .num hf
        have q3:=dT_span L .num ht
        have q4:=dT_span L (payT k) hp
        have q:=q1.app (q2.app (q3.app q4))
        obtain ⟨p,e,⟨r,hr⟩,hq⟩:=q
        cases e
        have hm:encM m=enc k ++ (encT .num f ++ (encT .num t ++ encT (payT k) d)):=by
         subst h
         unfold encM
         have e1:(mkM k f t d).kind.toNat=k:=by rw [kind_mkM]; rfl
         rw [e1,src_mkM,dst_mkM,payD_mkM]; rfl
        rw [hm]
        simp only [List.drop_zero] at hr
        have:r=[]:=by
         have hl:=congrArg List.length hr
         simp only [List.length_append] at hl hq
         exact List.eq_nil_of_length_eq_zero (by omega)
        rw [this,List.append_nil] at hr
        exact hr.symm
 ·cases h
theorem decF_some {L:Bs} {m:Msg} (h:decF L=some m):encM m=L∧formB m=true:=by
 unfold decF at h
 split at h
 ·rename_i m' hm
  split at h
  ·rename_i hf
   cases h
   exact ⟨decM_some hm,hf⟩
  ·cases h
 ·cases h
theorem decF_encM {m:Msg} (hf:formB m=true) (ho:okM m) (hl:(encM m).length < 2^63):decF (encM m)=some m:=by
 unfold decF
 rw [decM_encM hf ho hl]
 simp only [hf,if_true]
theorem okM_mkM {k:Nat} {f t:Int} {d:den (payT k)} (hk:k≤8) (hf:-2^63≤f∧f < 2^63) (ht:-2^63≤t∧t < 2^63) (hd:okT (payT k) d):okM (mkM k f t d):=by
 have hz:∀ t:Ty,okT (.list t) []:=fun t=>⟨by simp,by simp⟩
 have hn:okT .num 0:=by constructor <;> decide
 have hr:okT tRound (0,0,0):=⟨hn,hn,hn⟩
 have hk1:∀ n:Int,0≤n→n≤8→okT .num n:=fun n h1 h2=>by show -2^63≤n∧n < 2^63; omega
 match k with
 | 0=>exact ⟨hn,hf,ht,hr,hd.2.1,hz _,hz _,hz _,hd.1,hz _,hz _,hd.2.2.1,hd.2.2.2⟩
 | 1=>exact ⟨hk1 1 (by decide) (by decide),hf,ht,hd.1,hd.2.1,hd.2.2.1,hd.2.2.2,hz _,hz _,hz _,hz _,hn,hz _⟩
 | 2=>exact ⟨hk1 2 (by decide) (by decide),hf,ht,hd.1,hz _,hd.2.2.1,hd.2.1,hd.2.2.2,hz _,hz _,hz _,hn,hz _⟩
 | 3=>exact ⟨hk1 3 (by decide) (by decide),hf,ht,hr,hz _,hz _,hd.2,hz _,hd.1,hz _,hz _,hn,hz _⟩
 | 4=>exact ⟨hk1 4 (by decide) (by decide),hf,ht,hr,hz _,hz _,hz _,hz _,hz _,hd,hz _,hn,hz _⟩
 | 5=>exact ⟨hk1 5 (by decide) (by decide),hf,ht,hr,hz _,hz _,hd,hz _,hz _,hz _,hz _,hn,hz _⟩
 | 6=>exact ⟨hk1 6 (by decide) (by decide),hf,ht,hr,hz _,hz _,hd,hz _,hz _,hz _,hz _,hn,hz _⟩
 | 7=>exact ⟨hk1 7 (by decide) (by decide),hf,ht,hr,hd.1,hz _,hz _,hz _,hz _,hz _,hd.2,hn,hz _⟩
 | k + 8=>exact ⟨hk1 ((k + 8:Nat):Int) (by omega) (by omega),hf,ht,hr,hd.2.1,hz _,hz _,hz _,hd.1,hz _,hz _,hd.2.2.1,hd.2.2.2⟩
theorem decM_ok {L:Bs} {m:Msg} (hL:L.length < 2^63) (h:decM L=some m):okM m:=by
 unfold decM at h
 simp only at h
 split at h
 ·cases h
 split at h
 ·cases h
  exact okM_mkM (by omega) (dT_ok hL .num _) (dT_ok hL .num _) (dT_ok hL _ _)
 ·cases h
end Go.Proofs.YtdhlibkdcldioaaGreat
end
section
set_option linter.unusedSimpArgs false
set_option linter.unusedVariables false
set_option maxRecDepth 8000
namespace Go.Proofs.YtdhlibkdcldioaaGreat
open Gx Go
def msgO (L:Bs):Option (Msg × Pl):=
 let k:=uintO L (some 0)
 let f:=dT L .num k.2
 let t:=dT L .num f.2
 if 8 < k.1 then none
 else if k.1=0 then some ({ Msg.zero with src:=f.1,dst:=t.1 },t.2)
 else
  let d:=dT L (payT k.1) t.2
  some (mkM k.1 f.1 t.1 d.1,d.2)
theorem decF_msgO (L:Bs):decF L=match msgO L with
 | some (m,s)=>if s=some L.length∧formB m=true then some m else none
 | none=>none:=by
 unfold decF decM msgO
 simp only
 by_cases h1:(uintO L (some 0)).1=0
 ·rw [if_pos (.inl h1),if_neg (by omega),if_pos h1]
  simp only
  rw [if_neg]
  rintro ⟨_,h⟩
  have:=(form_head h).1
  simp [Msg.zero] at this
 ·by_cases h2:8 < (uintO L (some 0)).1
  ·rw [if_pos (.inr h2),if_pos h2]
  ·rw [if_neg (by omega),if_neg h2,if_neg h1]
   simp only
   by_cases hd:(dT L (payT (uintO L (some 0)).1) (dT L .num (dT L .num (uintO L (some 0)).2).2).2).2=some L.length
   ·rw [if_pos hd]
    simp [hd]
   ·rw [if_neg hd]
    simp [hd]
set_option maxHeartbeats 8000000 in
theorem rmsg_ok {H:Heap} {b:Nat} {L:Bs} {g:Option Nat} (hL:L.length < 2^36) (h0:RdO H b L (some 0) g):PCalls Tryz.prog 99 #[pR b] H
 (fun v H'=>∃ m s' cs,msgO L=some (m,s')∧v= .agg (List.toArray cs)∧RepP H' (fun x=>x < H.size) (datT tMsg m.tup) cs∧RdO H' b L s' g∧Fr [b] H H')
 (fun c H'=>c=dmg∧(msgO L=none∨∃ m,msgO L=some (m,none))∧Fr [b] H H'):=by
 obtain ⟨k,s1,e0⟩:∃ k s,uintO L (some 0)=(k,s):=⟨_,_,rfl⟩
 obtain ⟨d1,s2,e1⟩:∃ d s,dT L .num s1=(d,s):=⟨_,_,rfl⟩
 obtain ⟨d2,s3,e2⟩:∃ d s,dT L .num s2=(d,s):=⟨_,_,rfl⟩
 have hM:msgO L=if 8 < k then none else if k=0 then some ({ Msg.zero with src:=d1,dst:=d2 },s3) else some (mkM k d1 d2 (dT L (payT k) s3).1,(dT L (payT k) s3).2):=by
  unfold msgO
  rw [e0]
  simp only [e1,e2]
 have hk64:k < 2^64:=by have:=uintO_lt L (some 0); rw [e0] at this; exact this
 have hbH:=h0.lt
 refine pcalls_of_vc (args:=[_]) Tryz.func99 c99ok (Nat.le_of_ble_eq_true rfl) ?_
 simp (implicitDefEqProofs:=false) only [go_sem,c99,pR]
 refine NewP_intro fun A1 hA hfA hsA=>?_
 simp (implicitDefEqProofs:=false) only [go_sem]
 refine NewP_intro fun B1 hB hfB hsB=>?_
 simp (implicitDefEqProofs:=false) only [go_sem]
 refine NewP_intro fun C0 hC0 hfC hsC=>?_
 have hbA:H.size≠b:=by omega
 have hbB:A1.size≠b:=by omega
 have hbC:B1.size≠b:=by omega
 have hA0:=(hA.ext hfB).ext hfC
 have hB0:=hB.ext hfC
 have hr0:RdO C0 b L (some 0) g:=((h0.ext hfA).ext hfB).ext hfC
 have hF0:Fr [b] H C0:=((hfA.trans hfB).trans hfC).mono (by simp)
 have hq0:=hA0.cell
 have hz0:H.size + 3≤C0.size:=by omega
 simp (implicitDefEqProofs:=false) only [go_sem,hq0]
 refine (ruint_o hr0).mono ?_
 rintro v X0 ⟨rfl,r0,f0⟩
 rw [e0] at r0 ⊢
 simp only at r0
 have hsz0:=f0.size
 have hAx0:=hA0.fr f0 (by simpa using hbA)
 have hBx0:=hB0.fr f0 (by simpa using hbB)
 have hCx0:=hC0.fr f0 (by simpa using hbC)
 by_cases hk8:8 < k
 ·have hk8':(8:Int) < (k:Int):=by omega
  simp (implicitDefEqProofs:=false) only [go_sem,hk8']
  exact ⟨rfl,.inl (by rw [hM,if_pos hk8]),hF0.trans f0⟩
 have hk8':¬ (8:Int) < (k:Int):=by omega
 rw [if_neg hk8] at hM
 have hki:IntKind.i64.wrap (k:Int)=(k:Int):=wrap_i64_id _ (by omega) (by omega)
 simp (implicitDefEqProofs:=false) only [go_sem,hk8',hki]
 refine Sto_one hCx0 (by simp) rfl fun C1 hC1 fs1 hs1=>?_
 simp only [List.set_cons_zero,List.set_cons_succ,setL,Nat.add_zero,Nat.zero_add,Nat.reduceAdd] at hC1
 have hA1:=hAx0.fr fs1 (by simp; omega)
 have hB1:=hBx0.fr fs1 (by simp; omega)
 have hr1:=r0.fr fs1 (by simp; omega) (fun k hk=>by have:=h0.ltg hk; simp; omega)
 have hF1:Fr [b] H C1:=(hF0.trans f0).trans' fs1 (by simp; omega)
 have hz1:H.size + 3≤C1.size:=by omega
 have hq1:=hA1.cell
 simp (implicitDefEqProofs:=false) only [go_sem,hq1]
 refine (rnum_ok hr1).mono ?_
 rintro v X1 ⟨rfl,r1,f1⟩
 rw [e1] at r1 ⊢
 have hsz1:=f1.size
 have hAx1:=hA1.fr f1 (by simpa using hbA)
 have hBx1:=hB1.fr f1 (by simpa using hbB)
 have hCx1:=hC1.fr f1 (by simpa using hbC)
 simp (implicitDefEqProofs:=false) only [go_sem]
 refine Sto_one hCx1 (by simp) rfl fun C2 hC2 fs2 hs2=>?_
 simp only [List.set_cons_zero,List.set_cons_succ,setL,Nat.add_zero,Nat.zero_add,Nat.reduceAdd] at hC2
 have hA2:=hAx1.fr fs2 (by simp; omega)
 have hB2:=hBx1.fr fs2 (by simp; omega)
 have hr2:=r1.fr fs2 (by simp; omega) (fun k hk=>by have:=h0.ltg hk; simp; omega)
 have hF2:Fr [b] H C2:=(hF1.trans f1).trans' fs2 (by simp; omega)
 have hz2:H.size + 3≤C2.size:=by omega
 have hq2:=hA2.cell
 simp (implicitDefEqProofs:=false) only [go_sem,hq2]
 refine (rnum_ok hr2).mono ?_
 rintro v X2 ⟨rfl,r2,f2⟩
 rw [e2] at r2 ⊢
 have hsz2:=f2.size
 have hAx2:=hA2.fr f2 (by simpa using hbA)
 have hBx2:=hB2.fr f2 (by simpa using hbB)
 have hCx2:=hC2.fr f2 (by simpa using hbC)
 simp (implicitDefEqProofs:=false) only [go_sem]
 refine Sto_one hCx2 (by simp) rfl fun C3 hC3 fs3 hs3=>?_
 simp only [List.set_cons_zero,List.set_cons_succ,setL,Nat.add_zero,Nat.zero_add,Nat.reduceAdd] at hC3
 have hA3:=hAx2.fr fs3 (by simp; omega)
 have hB3:=hBx2.fr fs3 (by simp; omega)
 have hr3:=r2.fr fs3 (by simp; omega) (fun k hk=>by have:=h0.ltg hk; simp; omega)
 have hF3:Fr [b] H C3:=(hF2.trans f2).trans' fs3 (by simp; omega)
 have hz3:H.size + 3≤C3.size:=by omega
 have hq3:=hA3.cell
 have hw3:=hC3.cell
 simp (implicitDefEqProofs:=false) only [go_sem,hw3]
 by_cases hkk0:k=0
 ·have hk0:(k:Int)=0:=by omega
  subst hkk0
  have hD:=hM
  simp only [if_true] at hD
  have hw:=hC3.cell
  simp (implicitDefEqProofs:=false) only [go_sem,hw,hk0]
  refine Sto_all hB3 rfl ?_ fun Z hZ fz hsz=>?_
  ·intro v hv
   simp only [List.mem_cons,List.not_mem_nil,or_false] at hv
   rcases hv with rfl | rfl | rfl | rfl | rfl | rfl | rfl | rfl | rfl | rfl | rfl | rfl | rfl | rfl | rfl
   all_goals first | rfl
  have hcz:=hZ.cell
  simp (implicitDefEqProofs:=false) only [go_sem,hcz]
  refine ⟨_,_,_,hD,rfl,?_,hr3.fr fz (by simp; omega) (fun k hk=>by have:=h0.ltg hk; simp; omega),hF3.trans' fz (by simp; omega)⟩
  exact RepP.pair (RepP.v _) (RepP.pair (RepP.v _) (RepP.pair (RepP.v _) (RepP.pair (RepP.pair (RepP.v _) (RepP.pair (RepP.v _) (RepP.v _))) (RepP.pair (RepP.nil _) (RepP.pair (RepP.nil _) (RepP.pair (RepP.nil _) (RepP.pair (RepP.nil _) (RepP.pair (RepP.nil _) (RepP.pair (RepP.nil _) (RepP.pair (RepP.nil _) (RepP.pair (RepP.v _) (RepP.nil _))))))))))))
 by_cases hkk1:k=1
 ·have hk1:(k:Int)=1:=by omega
  subst hkk1
  obtain ⟨d3,s4,e3⟩:∃ d s,dT L tRound s3=(d,s):=⟨_,_,rfl⟩
  obtain ⟨d4,s5,e4⟩:∃ d s,dT L (.list tRead) s4=(d,s):=⟨_,_,rfl⟩
  obtain ⟨d5,s6,e5⟩:∃ d s,dT L (.list tBase) s5=(d,s):=⟨_,_,rfl⟩
  obtain ⟨d6,s7,e6⟩:∃ d s,dT L (.list tCmd) s6=(d,s):=⟨_,_,rfl⟩
  have hDD:dT L (payT 1) s3=((d3,d4,d5,d6),s7):=by show dT L (.pair tRound (.pair (.list tRead) (.pair (.list tBase) (.list tCmd)))) s3=_; simp only [dT_pair,e3,e4,e5,e6]
  have hD:msgO L=some (mkM 1 d1 d2 (d3,d4,d5,d6),s7):=by rw [hM,if_neg (by omega),hDD]
  simp (implicitDefEqProofs:=false) only [go_sem,hq3,hk1]
  refine PCalls.mono (rround_ok.2 hL hr3) ?_ ?_
  rotate_left
  ·rintro c X ⟨rfl,hn,fx⟩
   refine ⟨rfl,.inr ?_,hF3.trans fx⟩
   rw [e3] at hn
   simp only at hn
   subst hn
   have q5:s5=none:=by rw [← dT_none L (.list tRead),e4]
   subst q5
   have q6:s6=none:=by rw [← dT_none L (.list tBase),e5]
   subst q6
   have q7:s7=none:=by rw [← dT_none L (.list tCmd),e6]
   subst q7
   exact ⟨_,hD⟩
  rintro v X3 ⟨cs3,rfl,p3,r3,f3⟩
  rw [e3] at r3 p3
  simp only at r3 p3
  have hsz3:=f3.size
  obtain ⟨y0,y1,y2,rfl⟩:=len3 (rep_wid p3.rep)
  have hAx3:=hA3.fr f3 (by simpa using hbA)
  have hBx3:=hB3.fr f3 (by simpa using hbB)
  have hCx3:=hC3.fr f3 (by simpa using hbC)
  simp (implicitDefEqProofs:=false) only [go_sem]
  refine Sto_blk _ _ _ 3 0 hCx3 (by simp) (rep_one p3.rep) fun C4 hC4 fs4 hs4=>?_
  simp only [List.set_cons_zero,List.set_cons_succ,setL,Nat.add_zero,Nat.zero_add,Nat.reduceAdd] at hC4
  have hA4:=hAx3.fr fs4 (by simp; omega)
  have hB4:=hBx3.fr fs4 (by simp; omega)
  have hr4:=r3.fr fs4 (by simp; omega) (fun k hk=>by have:=h0.ltg hk; simp; omega)
  have hF4:Fr [b] H C4:=(hF3.trans f3).trans' fs4 (by simp; omega)
  have hz4:H.size + 3≤C4.size:=by omega
  replace p3:RepP C4 (fun x=>x < H.size + 3) _ _:=RepP.on (m:=H.size + 3) p3 fs4 (by simp; omega) (by omega)
  have hq4:=hA4.cell
  simp (implicitDefEqProofs:=false) only [go_sem,hq4,hk1]
  refine PCalls.mono (elemsReadID_ok rfl (fun _=>rfl) rread_ok hL hr4) ?_ ?_
  rotate_left
  ·rintro c X ⟨rfl,hn,fx⟩
   refine ⟨rfl,.inr ?_,hF4.trans fx⟩
   rw [e4] at hn
   simp only at hn
   subst hn
   have q6:s6=none:=by rw [← dT_none L (.list tBase),e5]
   subst q6
   have q7:s7=none:=by rw [← dT_none L (.list tCmd),e6]
   subst q7
   exact ⟨_,hD⟩
  rintro v X4 ⟨cs4,rfl,p4,r4,f4⟩
  rw [e4] at r4 p4
  simp only at r4 p4
  have hsz4:=f4.size
  obtain ⟨a4,c4,rfl,hl4,hm4⟩:=rep_list p4.rep
  have hAx4:=hA4.fr f4 (by simpa using hbA)
  have hBx4:=hB4.fr f4 (by simpa using hbB)
  have hCx4:=hC4.fr f4 (by simpa using hbC)
  simp (implicitDefEqProofs:=false) only [go_sem]
  refine Sto_one hCx4 (by simp) rfl fun C5 hC5 fs5 hs5=>?_
  simp only [List.set_cons_zero,List.set_cons_succ,setL,Nat.add_zero,Nat.zero_add,Nat.reduceAdd] at hC5
  have hA5:=hAx4.fr fs5 (by simp; omega)
  have hB5:=hBx4.fr fs5 (by simp; omega)
  have hr5:=r4.fr fs5 (by simp; omega) (fun k hk=>by have:=h0.ltg hk; simp; omega)
  have hF5:Fr [b] H C5:=(hF4.trans f4).trans' fs5 (by simp; omega)
  have hz5:H.size + 3≤C5.size:=by omega
  replace p3:=RepP.on (RepP.on p3 f4 (by simp; omega) (Nat.le_refl _)) fs5 (by simp; omega) (Nat.le_refl _)
  replace p4:RepP C5 (fun x=>x < H.size + 3) _ _:=RepP.on (m:=H.size + 3) p4 fs5 (by simp; omega) (by omega)
  have hq5:=hA5.cell
  simp (implicitDefEqProofs:=false) only [go_sem,hq5,hk1]
  refine PCalls.mono (elemsBase_ok rfl (fun _=>rfl) rbase_ok hL hr5) ?_ ?_
  rotate_left
  ·rintro c X ⟨rfl,hn,fx⟩
   refine ⟨rfl,.inr ?_,hF5.trans fx⟩
   rw [e5] at hn
   simp only at hn
   subst hn
   have q7:s7=none:=by rw [← dT_none L (.list tCmd),e6]
   subst q7
   exact ⟨_,hD⟩
  rintro v X5 ⟨cs5,rfl,p5,r5,f5⟩
  rw [e5] at r5 p5
  simp only at r5 p5
  have hsz5:=f5.size
  obtain ⟨a5,c5,rfl,hl5,hm5⟩:=rep_list p5.rep
  have hAx5:=hA5.fr f5 (by simpa using hbA)
  have hBx5:=hB5.fr f5 (by simpa using hbB)
  have hCx5:=hC5.fr f5 (by simpa using hbC)
  simp (implicitDefEqProofs:=false) only [go_sem]
  refine Sto_one hCx5 (by simp) rfl fun C6 hC6 fs6 hs6=>?_
  simp only [List.set_cons_zero,List.set_cons_succ,setL,Nat.add_zero,Nat.zero_add,Nat.reduceAdd] at hC6
  have hA6:=hAx5.fr fs6 (by simp; omega)
  have hB6:=hBx5.fr fs6 (by simp; omega)
  have hr6:=r5.fr fs6 (by simp; omega) (fun k hk=>by have:=h0.ltg hk; simp; omega)
  have hF6:Fr [b] H C6:=(hF5.trans f5).trans' fs6 (by simp; omega)
  have hz6:H.size + 3≤C6.size:=by omega
  replace p3:=RepP.on (RepP.on p3 f5 (by simp; omega) (Nat.le_refl _)) fs6 (by simp; omega) (Nat.le_refl _)
  replace p4:=RepP.on (RepP.on p4 f5 (by simp; omega) (Nat.le_refl _)) fs6 (by simp; omega) (Nat.le_refl _)
  replace p5:RepP C6 (fun x=>x < H.size + 3) _ _:=RepP.on (m:=H.size + 3) p5 fs6 (by simp; omega) (by omega)
  have hq6:=hA6.cell
  simp (implicitDefEqProofs:=false) only [go_sem,hq6,hk1]
  refine PCalls.mono (elemsCommand_ok rfl (fun _=>rfl) rcommand_ok hL hr6) ?_ ?_
  rotate_left
  ·rintro c X ⟨rfl,hn,fx⟩
   refine ⟨rfl,.inr ?_,hF6.trans fx⟩
   rw [e6] at hn
   simp only at hn
   subst hn
   exact ⟨_,hD⟩
  rintro v X6 ⟨cs6,rfl,p6,r6,f6⟩
  rw [e6] at r6 p6
  simp only at r6 p6
  have hsz6:=f6.size
  obtain ⟨a6,c6,rfl,hl6,hm6⟩:=rep_list p6.rep
  have hAx6:=hA6.fr f6 (by simpa using hbA)
  have hBx6:=hB6.fr f6 (by simpa using hbB)
  have hCx6:=hC6.fr f6 (by simpa using hbC)
  simp (implicitDefEqProofs:=false) only [go_sem]
  refine Sto_one hCx6 (by simp) rfl fun C7 hC7 fs7 hs7=>?_
  simp only [List.set_cons_zero,List.set_cons_succ,setL,Nat.add_zero,Nat.zero_add,Nat.reduceAdd] at hC7
  have hA7:=hAx6.fr fs7 (by simp; omega)
  have hB7:=hBx6.fr fs7 (by simp; omega)
  have hr7:=r6.fr fs7 (by simp; omega) (fun k hk=>by have:=h0.ltg hk; simp; omega)
  have hF7:Fr [b] H C7:=(hF6.trans f6).trans' fs7 (by simp; omega)
  have hz7:H.size + 3≤C7.size:=by omega
  replace p3:=RepP.on (RepP.on p3 f6 (by simp; omega) (Nat.le_refl _)) fs7 (by simp; omega) (Nat.le_refl _)
  replace p4:=RepP.on (RepP.on p4 f6 (by simp; omega) (Nat.le_refl _)) fs7 (by simp; omega) (Nat.le_refl _)
  replace p5:=RepP.on (RepP.on p5 f6 (by simp; omega) (Nat.le_refl _)) fs7 (by simp; omega) (Nat.le_refl _)
  replace p6:RepP C7 (fun x=>x < H.size + 3) _ _:=RepP.on (m:=H.size + 3) p6 fs7 (by simp; omega) (by omega)
  have hq7:=hA7.cell
  have hw:=hC7.cell
  simp (implicitDefEqProofs:=false) only [go_sem,hw,hk1]
  refine Sto_all hB7 rfl ?_ fun Z hZ fz hsz=>?_
  ·intro v hv
   simp only [List.mem_cons,List.not_mem_nil,or_false] at hv
   rcases hv with rfl | rfl | rfl | rfl | rfl | rfl | rfl | rfl | rfl | rfl | rfl | rfl | rfl | rfl | rfl
   all_goals first | rfl | exact rep_one p3.rep _ (by simp)
  have hcz:=hZ.cell
  simp (implicitDefEqProofs:=false) only [go_sem,hcz]
  replace p3:=RepP.on p3 fz (by simp; omega) (show H.size≤H.size + 3 by omega)
  replace p4:=RepP.on p4 fz (by simp; omega) (show H.size≤H.size + 3 by omega)
  replace p5:=RepP.on p5 fz (by simp; omega) (show H.size≤H.size + 3 by omega)
  replace p6:=RepP.on p6 fz (by simp; omega) (show H.size≤H.size + 3 by omega)
  refine ⟨_,_,_,hD,rfl,?_,hr7.fr fz (by simp; omega) (fun k hk=>by have:=h0.ltg hk; simp; omega),hF7.trans' fz (by simp; omega)⟩
  exact RepP.pair (RepP.v _) (RepP.pair (RepP.v _) (RepP.pair (RepP.v _) (RepP.pair (p3) (RepP.pair (p4) (RepP.pair (p5) (RepP.pair (p6) (RepP.pair (RepP.nil _) (RepP.pair (RepP.nil _) (RepP.pair (RepP.nil _) (RepP.pair (RepP.nil _) (RepP.pair (RepP.v _) (RepP.nil _))))))))))))
 by_cases hkk2:k=2
 ·have hk2:(k:Int)=2:=by omega
  subst hkk2
  obtain ⟨d3,s4,e3⟩:∃ d s,dT L tRound s3=(d,s):=⟨_,_,rfl⟩
  obtain ⟨d4,s5,e4⟩:∃ d s,dT L (.list tCmd) s4=(d,s):=⟨_,_,rfl⟩
  obtain ⟨d5,s6,e5⟩:∃ d s,dT L (.list tBase) s5=(d,s):=⟨_,_,rfl⟩
  obtain ⟨d6,s7,e6⟩:∃ d s,dT L (.list tAck) s6=(d,s):=⟨_,_,rfl⟩
  have hDD:dT L (payT 2) s3=((d3,d4,d5,d6),s7):=by show dT L (.pair tRound (.pair (.list tCmd) (.pair (.list tBase) (.list tAck)))) s3=_; simp only [dT_pair,e3,e4,e5,e6]
  have hD:msgO L=some (mkM 2 d1 d2 (d3,d4,d5,d6),s7):=by rw [hM,if_neg (by omega),hDD]
  simp (implicitDefEqProofs:=false) only [go_sem,hq3,hk2]
  refine PCalls.mono (rround_ok.2 hL hr3) ?_ ?_
  rotate_left
  ·rintro c X ⟨rfl,hn,fx⟩
   refine ⟨rfl,.inr ?_,hF3.trans fx⟩
   rw [e3] at hn
   simp only at hn
   subst hn
   have q5:s5=none:=by rw [← dT_none L (.list tCmd),e4]
   subst q5
   have q6:s6=none:=by rw [← dT_none L (.list tBase),e5]
   subst q6
   have q7:s7=none:=by rw [← dT_none L (.list tAck),e6]
   subst q7
   exact ⟨_,hD⟩
  rintro v X3 ⟨cs3,rfl,p3,r3,f3⟩
  rw [e3] at r3 p3
  simp only at r3 p3
  have hsz3:=f3.size
  obtain ⟨y0,y1,y2,rfl⟩:=len3 (rep_wid p3.rep)
  have hAx3:=hA3.fr f3 (by simpa using hbA)
  have hBx3:=hB3.fr f3 (by simpa using hbB)
  have hCx3:=hC3.fr f3 (by simpa using hbC)
  simp (implicitDefEqProofs:=false) only [go_sem]
  refine Sto_blk _ _ _ 3 0 hCx3 (by simp) (rep_one p3.rep) fun C4 hC4 fs4 hs4=>?_
  simp only [List.set_cons_zero,List.set_cons_succ,setL,Nat.add_zero,Nat.zero_add,Nat.reduceAdd] at hC4
  have hA4:=hAx3.fr fs4 (by simp; omega)
  have hB4:=hBx3.fr fs4 (by simp; omega)
  have hr4:=r3.fr fs4 (by simp; omega) (fun k hk=>by have:=h0.ltg hk; simp; omega)
  have hF4:Fr [b] H C4:=(hF3.trans f3).trans' fs4 (by simp; omega)
  have hz4:H.size + 3≤C4.size:=by omega
  replace p3:RepP C4 (fun x=>x < H.size + 3) _ _:=RepP.on (m:=H.size + 3) p3 fs4 (by simp; omega) (by omega)
  have hq4:=hA4.cell
  simp (implicitDefEqProofs:=false) only [go_sem,hq4,hk2]
  refine PCalls.mono (elemsCommand_ok rfl (fun _=>rfl) rcommand_ok hL hr4) ?_ ?_
  rotate_left
  ·rintro c X ⟨rfl,hn,fx⟩
   refine ⟨rfl,.inr ?_,hF4.trans fx⟩
   rw [e4] at hn
   simp only at hn
   subst hn
   have q6:s6=none:=by rw [← dT_none L (.list tBase),e5]
   subst q6
   have q7:s7=none:=by rw [← dT_none L (.list tAck),e6]
   subst q7
   exact ⟨_,hD⟩
  rintro v X4 ⟨cs4,rfl,p4,r4,f4⟩
  rw [e4] at r4 p4
  simp only at r4 p4
  have hsz4:=f4.size
  obtain ⟨a4,c4,rfl,hl4,hm4⟩:=rep_list p4.rep
  have hAx4:=hA4.fr f4 (by simpa using hbA)
  have hBx4:=hB4.fr f4 (by simpa using hbB)
  have hCx4:=hC4.fr f4 (by simpa using hbC)
  simp (implicitDefEqProofs:=false) only [go_sem]
  refine Sto_one hCx4 (by simp) rfl fun C5 hC5 fs5 hs5=>?_
  simp only [List.set_cons_zero,List.set_cons_succ,setL,Nat.add_zero,Nat.zero_add,Nat.reduceAdd] at hC5
  have hA5:=hAx4.fr fs5 (by simp; omega)
  have hB5:=hBx4.fr fs5 (by simp; omega)
  have hr5:=r4.fr fs5 (by simp; omega) (fun k hk=>by have:=h0.ltg hk; simp; omega)
  have hF5:Fr [b] H C5:=(hF4.trans f4).trans' fs5 (by simp; omega)
  have hz5:H.size + 3≤C5.size:=by omega
  replace p3:=RepP.on (RepP.on p3 f4 (by simp; omega) (Nat.le_refl _)) fs5 (by simp; omega) (Nat.le_refl _)
  replace p4:RepP C5 (fun x=>x < H.size + 3) _ _:=RepP.on (m:=H.size + 3) p4 fs5 (by simp; omega) (by omega)
  have hq5:=hA5.cell
  simp (implicitDefEqProofs:=false) only [go_sem,hq5,hk2]
  refine PCalls.mono (elemsBase_ok rfl (fun _=>rfl) rbase_ok hL hr5) ?_ ?_
  rotate_left
  ·rintro c X ⟨rfl,hn,fx⟩
   refine ⟨rfl,.inr ?_,hF5.trans fx⟩
   rw [e5] at hn
   simp only at hn
   subst hn
   have q7:s7=none:=by rw [← dT_none L (.list tAck),e6]
   subst q7
   exact ⟨_,hD⟩
  rintro v X5 ⟨cs5,rfl,p5,r5,f5⟩
  rw [e5] at r5 p5
  simp only at r5 p5
  have hsz5:=f5.size
  obtain ⟨a5,c5,rfl,hl5,hm5⟩:=rep_list p5.rep
  have hAx5:=hA5.fr f5 (by simpa using hbA)
  have hBx5:=hB5.fr f5 (by simpa using hbB)
  have hCx5:=hC5.fr f5 (by simpa using hbC)
  simp (implicitDefEqProofs:=false) only [go_sem]
  refine Sto_one hCx5 (by simp) rfl fun C6 hC6 fs6 hs6=>?_
  simp only [List.set_cons_zero,List.set_cons_succ,setL,Nat.add_zero,Nat.zero_add,Nat.reduceAdd] at hC6
  have hA6:=hAx5.fr fs6 (by simp; omega)
  have hB6:=hBx5.fr fs6 (by simp; omega)
  have hr6:=r5.fr fs6 (by simp; omega) (fun k hk=>by have:=h0.ltg hk; simp; omega)
  have hF6:Fr [b] H C6:=(hF5.trans f5).trans' fs6 (by simp; omega)
  have hz6:H.size + 3≤C6.size:=by omega
  replace p3:=RepP.on (RepP.on p3 f5 (by simp; omega) (Nat.le_refl _)) fs6 (by simp; omega) (Nat.le_refl _)
  replace p4:=RepP.on (RepP.on p4 f5 (by simp; omega) (Nat.le_refl _)) fs6 (by simp; omega) (Nat.le_refl _)
  replace p5:RepP C6 (fun x=>x < H.size + 3) _ _:=RepP.on (m:=H.size + 3) p5 fs6 (by simp; omega) (by omega)
  have hq6:=hA6.cell
  simp (implicitDefEqProofs:=false) only [go_sem,hq6,hk2]
  refine PCalls.mono (elemsAck_ok rfl (fun _=>rfl) rack_ok hL hr6) ?_ ?_
  rotate_left
  ·rintro c X ⟨rfl,hn,fx⟩
   refine ⟨rfl,.inr ?_,hF6.trans fx⟩
   rw [e6] at hn
   simp only at hn
   subst hn
   exact ⟨_,hD⟩
  rintro v X6 ⟨cs6,rfl,p6,r6,f6⟩
  rw [e6] at r6 p6
  simp only at r6 p6
  have hsz6:=f6.size
  obtain ⟨a6,c6,rfl,hl6,hm6⟩:=rep_list p6.rep
  have hAx6:=hA6.fr f6 (by simpa using hbA)
  have hBx6:=hB6.fr f6 (by simpa using hbB)
  have hCx6:=hC6.fr f6 (by simpa using hbC)
  simp (implicitDefEqProofs:=false) only [go_sem]
  refine Sto_one hCx6 (by simp) rfl fun C7 hC7 fs7 hs7=>?_
  simp only [List.set_cons_zero,List.set_cons_succ,setL,Nat.add_zero,Nat.zero_add,Nat.reduceAdd] at hC7
  have hA7:=hAx6.fr fs7 (by simp; omega)
  have hB7:=hBx6.fr fs7 (by simp; omega)
  have hr7:=r6.fr fs7 (by simp; omega) (fun k hk=>by have:=h0.ltg hk; simp; omega)
  have hF7:Fr [b] H C7:=(hF6.trans f6).trans' fs7 (by simp; omega)
  have hz7:H.size + 3≤C7.size:=by omega
  replace p3:=RepP.on (RepP.on p3 f6 (by simp; omega) (Nat.le_refl _)) fs7 (by simp; omega) (Nat.le_refl _)
  replace p4:=RepP.on (RepP.on p4 f6 (by simp; omega) (Nat.le_refl _)) fs7 (by simp; omega) (Nat.le_refl _)
  replace p5:=RepP.on (RepP.on p5 f6 (by simp; omega) (Nat.le_refl _)) fs7 (by simp; omega) (Nat.le_refl _)
  replace p6:RepP C7 (fun x=>x < H.size + 3) _ _:=RepP.on (m:=H.size + 3) p6 fs7 (by simp; omega) (by omega)
  have hq7:=hA7.cell
  have hw:=hC7.cell
  simp (implicitDefEqProofs:=false) only [go_sem,hw,hk2]
  refine Sto_all hB7 rfl ?_ fun Z hZ fz hsz=>?_
  ·intro v hv
   simp only [List.mem_cons,List.not_mem_nil,or_false] at hv
   rcases hv with rfl | rfl | rfl | rfl | rfl | rfl | rfl | rfl | rfl | rfl | rfl | rfl | rfl | rfl | rfl
   all_goals first | rfl | exact rep_one p3.rep _ (by simp)
  have hcz:=hZ.cell
  simp (implicitDefEqProofs:=false) only [go_sem,hcz]
  replace p3:=RepP.on p3 fz (by simp; omega) (show H.size≤H.size + 3 by omega)
  replace p4:=RepP.on p4 fz (by simp; omega) (show H.size≤H.size + 3 by omega)
  replace p5:=RepP.on p5 fz (by simp; omega) (show H.size≤H.size + 3 by omega)
  replace p6:=RepP.on p6 fz (by simp; omega) (show H.size≤H.size + 3 by omega)
  refine ⟨_,_,_,hD,rfl,?_,hr7.fr fz (by simp; omega) (fun k hk=>by have:=h0.ltg hk; simp; omega),hF7.trans' fz (by simp; omega)⟩
  exact RepP.pair (RepP.v _) (RepP.pair (RepP.v _) (RepP.pair (RepP.v _) (RepP.pair (p3) (RepP.pair (RepP.nil _) (RepP.pair (p5) (RepP.pair (p4) (RepP.pair (p6) (RepP.pair (RepP.nil _) (RepP.pair (RepP.nil _) (RepP.pair (RepP.nil _) (RepP.pair (RepP.v _) (RepP.nil _))))))))))))
 by_cases hkk3:k=3
 ·have hk3:(k:Int)=3:=by omega
  subst hkk3
  obtain ⟨d3,s4,e3⟩:∃ d s,dT L (.list tProof) s3=(d,s):=⟨_,_,rfl⟩
  obtain ⟨d4,s5,e4⟩:∃ d s,dT L (.list tCmd) s4=(d,s):=⟨_,_,rfl⟩
  have hDD:dT L (payT 3) s3=((d3,d4),s5):=by show dT L (.pair (.list tProof) (.list tCmd)) s3=_; simp only [dT_pair,e3,e4]
  have hD:msgO L=some (mkM 3 d1 d2 (d3,d4),s5):=by rw [hM,if_neg (by omega),hDD]
  simp (implicitDefEqProofs:=false) only [go_sem,hq3,hk3]
  refine PCalls.mono (elemsProof_ok rfl (fun _=>rfl) rproof_ok hL hr3) ?_ ?_
  rotate_left
  ·rintro c X ⟨rfl,hn,fx⟩
   refine ⟨rfl,.inr ?_,hF3.trans fx⟩
   rw [e3] at hn
   simp only at hn
   subst hn
   have q5:s5=none:=by rw [← dT_none L (.list tCmd),e4]
   subst q5
   exact ⟨_,hD⟩
  rintro v X3 ⟨cs3,rfl,p3,r3,f3⟩
  rw [e3] at r3 p3
  simp only at r3 p3
  have hsz3:=f3.size
  obtain ⟨a3,c3,rfl,hl3,hm3⟩:=rep_list p3.rep
  have hAx3:=hA3.fr f3 (by simpa using hbA)
  have hBx3:=hB3.fr f3 (by simpa using hbB)
  have hCx3:=hC3.fr f3 (by simpa using hbC)
  simp (implicitDefEqProofs:=false) only [go_sem]
  refine Sto_one hCx3 (by simp) rfl fun C4 hC4 fs4 hs4=>?_
  simp only [List.set_cons_zero,List.set_cons_succ,setL,Nat.add_zero,Nat.zero_add,Nat.reduceAdd] at hC4
  have hA4:=hAx3.fr fs4 (by simp; omega)
  have hB4:=hBx3.fr fs4 (by simp; omega)
  have hr4:=r3.fr fs4 (by simp; omega) (fun k hk=>by have:=h0.ltg hk; simp; omega)
  have hF4:Fr [b] H C4:=(hF3.trans f3).trans' fs4 (by simp; omega)
  have hz4:H.size + 3≤C4.size:=by omega
  replace p3:RepP C4 (fun x=>x < H.size + 3) _ _:=RepP.on (m:=H.size + 3) p3 fs4 (by simp; omega) (by omega)
  have hq4:=hA4.cell
  simp (implicitDefEqProofs:=false) only [go_sem,hq4,hk3]
  refine PCalls.mono (elemsCommand_ok rfl (fun _=>rfl) rcommand_ok hL hr4) ?_ ?_
  rotate_left
  ·rintro c X ⟨rfl,hn,fx⟩
   refine ⟨rfl,.inr ?_,hF4.trans fx⟩
   rw [e4] at hn
   simp only at hn
   subst hn
   exact ⟨_,hD⟩
  rintro v X4 ⟨cs4,rfl,p4,r4,f4⟩
  rw [e4] at r4 p4
  simp only at r4 p4
  have hsz4:=f4.size
  obtain ⟨a4,c4,rfl,hl4,hm4⟩:=rep_list p4.rep
  have hAx4:=hA4.fr f4 (by simpa using hbA)
  have hBx4:=hB4.fr f4 (by simpa using hbB)
  have hCx4:=hC4.fr f4 (by simpa using hbC)
  simp (implicitDefEqProofs:=false) only [go_sem]
  refine Sto_one hCx4 (by simp) rfl fun C5 hC5 fs5 hs5=>?_
  simp only [List.set_cons_zero,List.set_cons_succ,setL,Nat.add_zero,Nat.zero_add,Nat.reduceAdd] at hC5
  have hA5:=hAx4.fr fs5 (by simp; omega)
  have hB5:=hBx4.fr fs5 (by simp; omega)
  have hr5:=r4.fr fs5 (by simp; omega) (fun k hk=>by have:=h0.ltg hk; simp; omega)
  have hF5:Fr [b] H C5:=(hF4.trans f4).trans' fs5 (by simp; omega)
  have hz5:H.size + 3≤C5.size:=by omega
  replace p3:=RepP.on (RepP.on p3 f4 (by simp; omega) (Nat.le_refl _)) fs5 (by simp; omega) (Nat.le_refl _)
  replace p4:RepP C5 (fun x=>x < H.size + 3) _ _:=RepP.on (m:=H.size + 3) p4 fs5 (by simp; omega) (by omega)
  have hq5:=hA5.cell
  have hw:=hC5.cell
  simp (implicitDefEqProofs:=false) only [go_sem,hw,hk3]
  refine Sto_all hB5 rfl ?_ fun Z hZ fz hsz=>?_
  ·intro v hv
   simp only [List.mem_cons,List.not_mem_nil,or_false] at hv
   rcases hv with rfl | rfl | rfl | rfl | rfl | rfl | rfl | rfl | rfl | rfl | rfl | rfl | rfl | rfl | rfl
   all_goals first | rfl
  have hcz:=hZ.cell
  simp (implicitDefEqProofs:=false) only [go_sem,hcz]
  replace p3:=RepP.on p3 fz (by simp; omega) (show H.size≤H.size + 3 by omega)
  replace p4:=RepP.on p4 fz (by simp; omega) (show H.size≤H.size + 3 by omega)
  refine ⟨_,_,_,hD,rfl,?_,hr5.fr fz (by simp; omega) (fun k hk=>by have:=h0.ltg hk; simp; omega),hF5.trans' fz (by simp; omega)⟩
  exact RepP.pair (RepP.v _) (RepP.pair (RepP.v _) (RepP.pair (RepP.v _) (RepP.pair (RepP.pair (RepP.v _) (RepP.pair (RepP.v _) (RepP.v _))) (RepP.pair (RepP.nil _) (RepP.pair (RepP.nil _) (RepP.pair (p4) (RepP.pair (RepP.nil _) (RepP.pair (p3) (RepP.pair (RepP.nil _) (RepP.pair (RepP.nil _) (RepP.pair (RepP.v _) (RepP.nil _))))))))))))
 by_cases hkk4:k=4
 ·have hk4:(k:Int)=4:=by omega
  subst hkk4
  obtain ⟨d3,s4,e3⟩:∃ d s,dT L (.list tDigest) s3=(d,s):=⟨_,_,rfl⟩
  have hDD:dT L (payT 4) s3=(d3,s4):=e3
  have hD:msgO L=some (mkM 4 d1 d2 (d3),s4):=by rw [hM,if_neg (by omega),hDD]
  simp (implicitDefEqProofs:=false) only [go_sem,hq3,hk4]
  refine PCalls.mono (elemsDigest_ok rfl (fun _=>rfl) rdigest_ok hL hr3) ?_ ?_
  rotate_left
  ·rintro c X ⟨rfl,hn,fx⟩
   refine ⟨rfl,.inr ?_,hF3.trans fx⟩
   rw [e3] at hn
   simp only at hn
   subst hn
   exact ⟨_,hD⟩
  rintro v X3 ⟨cs3,rfl,p3,r3,f3⟩
  rw [e3] at r3 p3
  simp only at r3 p3
  have hsz3:=f3.size
  obtain ⟨a3,c3,rfl,hl3,hm3⟩:=rep_list p3.rep
  have hAx3:=hA3.fr f3 (by simpa using hbA)
  have hBx3:=hB3.fr f3 (by simpa using hbB)
  have hCx3:=hC3.fr f3 (by simpa using hbC)
  simp (implicitDefEqProofs:=false) only [go_sem]
  refine Sto_one hCx3 (by simp) rfl fun C4 hC4 fs4 hs4=>?_
  simp only [List.set_cons_zero,List.set_cons_succ,setL,Nat.add_zero,Nat.zero_add,Nat.reduceAdd] at hC4
  have hA4:=hAx3.fr fs4 (by simp; omega)
  have hB4:=hBx3.fr fs4 (by simp; omega)
  have hr4:=r3.fr fs4 (by simp; omega) (fun k hk=>by have:=h0.ltg hk; simp; omega)
  have hF4:Fr [b] H C4:=(hF3.trans f3).trans' fs4 (by simp; omega)
  have hz4:H.size + 3≤C4.size:=by omega
  replace p3:RepP C4 (fun x=>x < H.size + 3) _ _:=RepP.on (m:=H.size + 3) p3 fs4 (by simp; omega) (by omega)
  have hq4:=hA4.cell
  have hw:=hC4.cell
  simp (implicitDefEqProofs:=false) only [go_sem,hw,hk4]
  refine Sto_all hB4 rfl ?_ fun Z hZ fz hsz=>?_
  ·intro v hv
   simp only [List.mem_cons,List.not_mem_nil,or_false] at hv
   rcases hv with rfl | rfl | rfl | rfl | rfl | rfl | rfl | rfl | rfl | rfl | rfl | rfl | rfl | rfl | rfl
   all_goals first | rfl
  have hcz:=hZ.cell
  simp (implicitDefEqProofs:=false) only [go_sem,hcz]
  replace p3:=RepP.on p3 fz (by simp; omega) (show H.size≤H.size + 3 by omega)
  refine ⟨_,_,_,hD,rfl,?_,hr4.fr fz (by simp; omega) (fun k hk=>by have:=h0.ltg hk; simp; omega),hF4.trans' fz (by simp; omega)⟩
  exact RepP.pair (RepP.v _) (RepP.pair (RepP.v _) (RepP.pair (RepP.v _) (RepP.pair (RepP.pair (RepP.v _) (RepP.pair (RepP.v _) (RepP.v _))) (RepP.pair (RepP.nil _) (RepP.pair (RepP.nil _) (RepP.pair (RepP.nil _) (RepP.pair (RepP.nil _) (RepP.pair (RepP.nil _) (RepP.pair (p3) (RepP.pair (RepP.nil _) (RepP.pair (RepP.v _) (RepP.nil _))))))))))))
 by_cases hkk5:k=5
 ·have hk5:(k:Int)=5:=by omega
  subst hkk5
  obtain ⟨d3,s4,e3⟩:∃ d s,dT L (.list tCmd) s3=(d,s):=⟨_,_,rfl⟩
  have hDD:dT L (payT 5) s3=(d3,s4):=e3
  have hD:msgO L=some (mkM 5 d1 d2 (d3),s4):=by rw [hM,if_neg (by omega),hDD]
  simp (implicitDefEqProofs:=false) only [go_sem,hq3,hk5]
  refine PCalls.mono (elemsCommand_ok rfl (fun _=>rfl) rcommand_ok hL hr3) ?_ ?_
  rotate_left
  ·rintro c X ⟨rfl,hn,fx⟩
   refine ⟨rfl,.inr ?_,hF3.trans fx⟩
   rw [e3] at hn
   simp only at hn
   subst hn
   exact ⟨_,hD⟩
  rintro v X3 ⟨cs3,rfl,p3,r3,f3⟩
  rw [e3] at r3 p3
  simp only at r3 p3
  have hsz3:=f3.size
  obtain ⟨a3,c3,rfl,hl3,hm3⟩:=rep_list p3.rep
  have hAx3:=hA3.fr f3 (by simpa using hbA)
  have hBx3:=hB3.fr f3 (by simpa using hbB)
  have hCx3:=hC3.fr f3 (by simpa using hbC)
  simp (implicitDefEqProofs:=false) only [go_sem]
  refine Sto_one hCx3 (by simp) rfl fun C4 hC4 fs4 hs4=>?_
  simp only [List.set_cons_zero,List.set_cons_succ,setL,Nat.add_zero,Nat.zero_add,Nat.reduceAdd] at hC4
  have hA4:=hAx3.fr fs4 (by simp; omega)
  have hB4:=hBx3.fr fs4 (by simp; omega)
  have hr4:=r3.fr fs4 (by simp; omega) (fun k hk=>by have:=h0.ltg hk; simp; omega)
  have hF4:Fr [b] H C4:=(hF3.trans f3).trans' fs4 (by simp; omega)
  have hz4:H.size + 3≤C4.size:=by omega
  replace p3:RepP C4 (fun x=>x < H.size + 3) _ _:=RepP.on (m:=H.size + 3) p3 fs4 (by simp; omega) (by omega)
  have hq4:=hA4.cell
  have hw:=hC4.cell
  simp (implicitDefEqProofs:=false) only [go_sem,hw,hk5]
  refine Sto_all hB4 rfl ?_ fun Z hZ fz hsz=>?_
  ·intro v hv
   simp only [List.mem_cons,List.not_mem_nil,or_false] at hv
   rcases hv with rfl | rfl | rfl | rfl | rfl | rfl | rfl | rfl | rfl | rfl | rfl | rfl | rfl | rfl | rfl
   all_goals first | rfl
  have hcz:=hZ.cell
  simp (implicitDefEqProofs:=false) only [go_sem,hcz]
  replace p3:=RepP.on p3 fz (by simp; omega) (show H.size≤H.size + 3 by omega)
  refine ⟨_,_,_,hD,rfl,?_,hr4.fr fz (by simp; omega) (fun k hk=>by have:=h0.ltg hk; simp; omega),hF4.trans' fz (by simp; omega)⟩
  exact RepP.pair (RepP.v _) (RepP.pair (RepP.v _) (RepP.pair (RepP.v _) (RepP.pair (RepP.pair (RepP.v _) (RepP.pair (RepP.v _) (RepP.v _))) (RepP.pair (RepP.nil _) (RepP.pair (RepP.nil _) (RepP.pair (p3) (RepP.pair (RepP.nil _) (RepP.pair (RepP.nil _) (RepP.pair (RepP.nil _) (RepP.pair (RepP.nil _) (RepP.pair (RepP.v _) (RepP.nil _))))))))))))
 by_cases hkk6:k=6
 ·have hk6:(k:Int)=6:=by omega
  subst hkk6
  obtain ⟨d3,s4,e3⟩:∃ d s,dT L (.list tCmd) s3=(d,s):=⟨_,_,rfl⟩
  have hDD:dT L (payT 6) s3=(d3,s4):=e3
  have hD:msgO L=some (mkM 6 d1 d2 (d3),s4):=by rw [hM,if_neg (by omega),hDD]
  simp (implicitDefEqProofs:=false) only [go_sem,hq3,hk6]
  refine PCalls.mono (elemsCommand_ok rfl (fun _=>rfl) rcommand_ok hL hr3) ?_ ?_
  rotate_left
  ·rintro c X ⟨rfl,hn,fx⟩
   refine ⟨rfl,.inr ?_,hF3.trans fx⟩
   rw [e3] at hn
   simp only at hn
   subst hn
   exact ⟨_,hD⟩
  rintro v X3 ⟨cs3,rfl,p3,r3,f3⟩
  rw [e3] at r3 p3
  simp only at r3 p3
  have hsz3:=f3.size
  obtain ⟨a3,c3,rfl,hl3,hm3⟩:=rep_list p3.rep
  have hAx3:=hA3.fr f3 (by simpa using hbA)
  have hBx3:=hB3.fr f3 (by simpa using hbB)
  have hCx3:=hC3.fr f3 (by simpa using hbC)
  simp (implicitDefEqProofs:=false) only [go_sem]
  refine Sto_one hCx3 (by simp) rfl fun C4 hC4 fs4 hs4=>?_
  simp only [List.set_cons_zero,List.set_cons_succ,setL,Nat.add_zero,Nat.zero_add,Nat.reduceAdd] at hC4
  have hA4:=hAx3.fr fs4 (by simp; omega)
  have hB4:=hBx3.fr fs4 (by simp; omega)
  have hr4:=r3.fr fs4 (by simp; omega) (fun k hk=>by have:=h0.ltg hk; simp; omega)
  have hF4:Fr [b] H C4:=(hF3.trans f3).trans' fs4 (by simp; omega)
  have hz4:H.size + 3≤C4.size:=by omega
  replace p3:RepP C4 (fun x=>x < H.size + 3) _ _:=RepP.on (m:=H.size + 3) p3 fs4 (by simp; omega) (by omega)
  have hq4:=hA4.cell
  have hw:=hC4.cell
  simp (implicitDefEqProofs:=false) only [go_sem,hw,hk6]
  refine Sto_all hB4 rfl ?_ fun Z hZ fz hsz=>?_
  ·intro v hv
   simp only [List.mem_cons,List.not_mem_nil,or_false] at hv
   rcases hv with rfl | rfl | rfl | rfl | rfl | rfl | rfl | rfl | rfl | rfl | rfl | rfl | rfl | rfl | rfl
   all_goals first | rfl
  have hcz:=hZ.cell
  simp (implicitDefEqProofs:=false) only [go_sem,hcz]
  replace p3:=RepP.on p3 fz (by simp; omega) (show H.size≤H.size + 3 by omega)
  refine ⟨_,_,_,hD,rfl,?_,hr4.fr fz (by simp; omega) (fun k hk=>by have:=h0.ltg hk; simp; omega),hF4.trans' fz (by simp; omega)⟩
  exact RepP.pair (RepP.v _) (RepP.pair (RepP.v _) (RepP.pair (RepP.v _) (RepP.pair (RepP.pair (RepP.v _) (RepP.pair (RepP.v _) (RepP.v _))) (RepP.pair (RepP.nil _) (RepP.pair (RepP.nil _) (RepP.pair (p3) (RepP.pair (RepP.nil _) (RepP.pair (RepP.nil _) (RepP.pair (RepP.nil _) (RepP.pair (RepP.nil _) (RepP.pair (RepP.v _) (RepP.nil _))))))))))))
 by_cases hkk7:k=7
 ·have hk7:(k:Int)=7:=by omega
  subst hkk7
  obtain ⟨d3,s4,e3⟩:∃ d s,dT L (.list tRead) s3=(d,s):=⟨_,_,rfl⟩
  obtain ⟨d4,s5,e4⟩:∃ d s,dT L (.list .text) s4=(d,s):=⟨_,_,rfl⟩
  have hDD:dT L (payT 7) s3=((d3,d4),s5):=by show dT L (.pair (.list tRead) (.list .text)) s3=_; simp only [dT_pair,e3,e4]
  have hD:msgO L=some (mkM 7 d1 d2 (d3,d4),s5):=by rw [hM,if_neg (by omega),hDD]
  simp (implicitDefEqProofs:=false) only [go_sem,hq3,hk7]
  refine PCalls.mono (elemsReadID_ok rfl (fun _=>rfl) rread_ok hL hr3) ?_ ?_
  rotate_left
  ·rintro c X ⟨rfl,hn,fx⟩
   refine ⟨rfl,.inr ?_,hF3.trans fx⟩
   rw [e3] at hn
   simp only at hn
   subst hn
   have q5:s5=none:=by rw [← dT_none L (.list .text),e4]
   subst q5
   exact ⟨_,hD⟩
  rintro v X3 ⟨cs3,rfl,p3,r3,f3⟩
  rw [e3] at r3 p3
  simp only at r3 p3
  have hsz3:=f3.size
  obtain ⟨a3,c3,rfl,hl3,hm3⟩:=rep_list p3.rep
  have hAx3:=hA3.fr f3 (by simpa using hbA)
  have hBx3:=hB3.fr f3 (by simpa using hbB)
  have hCx3:=hC3.fr f3 (by simpa using hbC)
  simp (implicitDefEqProofs:=false) only [go_sem]
  refine Sto_one hCx3 (by simp) rfl fun C4 hC4 fs4 hs4=>?_
  simp only [List.set_cons_zero,List.set_cons_succ,setL,Nat.add_zero,Nat.zero_add,Nat.reduceAdd] at hC4
  have hA4:=hAx3.fr fs4 (by simp; omega)
  have hB4:=hBx3.fr fs4 (by simp; omega)
  have hr4:=r3.fr fs4 (by simp; omega) (fun k hk=>by have:=h0.ltg hk; simp; omega)
  have hF4:Fr [b] H C4:=(hF3.trans f3).trans' fs4 (by simp; omega)
  have hz4:H.size + 3≤C4.size:=by omega
  replace p3:RepP C4 (fun x=>x < H.size + 3) _ _:=RepP.on (m:=H.size + 3) p3 fs4 (by simp; omega) (by omega)
  have hq4:=hA4.cell
  simp (implicitDefEqProofs:=false) only [go_sem,hq4,hk7]
  refine PCalls.mono (elemsStr_ok rfl (fun _=>rfl) rfl rtext_ok' hL hr4) ?_ ?_
  rotate_left
  ·rintro c X ⟨rfl,hn,fx⟩
   refine ⟨rfl,.inr ?_,hF4.trans fx⟩
   rw [e4] at hn
   simp only at hn
   subst hn
   exact ⟨_,hD⟩
  rintro v X4 ⟨cs4,rfl,p4,r4,f4⟩
  rw [e4] at r4 p4
  simp only at r4 p4
  have hsz4:=f4.size
  obtain ⟨a4,c4,rfl,hl4,hm4⟩:=rep_list p4.rep
  have hAx4:=hA4.fr f4 (by simpa using hbA)
  have hBx4:=hB4.fr f4 (by simpa using hbB)
  have hCx4:=hC4.fr f4 (by simpa using hbC)
  simp (implicitDefEqProofs:=false) only [go_sem]
  refine Sto_one hCx4 (by simp) rfl fun C5 hC5 fs5 hs5=>?_
  simp only [List.set_cons_zero,List.set_cons_succ,setL,Nat.add_zero,Nat.zero_add,Nat.reduceAdd] at hC5
  have hA5:=hAx4.fr fs5 (by simp; omega)
  have hB5:=hBx4.fr fs5 (by simp; omega)
  have hr5:=r4.fr fs5 (by simp; omega) (fun k hk=>by have:=h0.ltg hk; simp; omega)
  have hF5:Fr [b] H C5:=(hF4.trans f4).trans' fs5 (by simp; omega)
  have hz5:H.size + 3≤C5.size:=by omega
  replace p3:=RepP.on (RepP.on p3 f4 (by simp; omega) (Nat.le_refl _)) fs5 (by simp; omega) (Nat.le_refl _)
  replace p4:RepP C5 (fun x=>x < H.size + 3) _ _:=RepP.on (m:=H.size + 3) p4 fs5 (by simp; omega) (by omega)
  have hq5:=hA5.cell
  have hw:=hC5.cell
  simp (implicitDefEqProofs:=false) only [go_sem,hw,hk7]
  refine Sto_all hB5 rfl ?_ fun Z hZ fz hsz=>?_
  ·intro v hv
   simp only [List.mem_cons,List.not_mem_nil,or_false] at hv
   rcases hv with rfl | rfl | rfl | rfl | rfl | rfl | rfl | rfl | rfl | rfl | rfl | rfl | rfl | rfl | rfl
   all_goals first | rfl
  have hcz:=hZ.cell
  simp (implicitDefEqProofs:=false) only [go_sem,hcz]
  replace p3:=RepP.on p3 fz (by simp; omega) (show H.size≤H.size + 3 by omega)
  replace p4:=RepP.on p4 fz (by simp; omega) (show H.size≤H.size + 3 by omega)
  refine ⟨_,_,_,hD,rfl,?_,hr5.fr fz (by simp; omega) (fun k hk=>by have:=h0.ltg hk; simp; omega),hF5.trans' fz (by simp; omega)⟩
  exact RepP.pair (RepP.v _) (RepP.pair (RepP.v _) (RepP.pair (RepP.v _) (RepP.pair (RepP.pair (RepP.v _) (RepP.pair (RepP.v _) (RepP.v _))) (RepP.pair (p3) (RepP.pair (RepP.nil _) (RepP.pair (RepP.nil _) (RepP.pair (RepP.nil _) (RepP.pair (RepP.nil _) (RepP.pair (RepP.nil _) (RepP.pair (p4) (RepP.pair (RepP.v _) (RepP.nil _))))))))))))
 by_cases hkk8:k=8
 ·have hk8:(k:Int)=8:=by omega
  subst hkk8
  obtain ⟨d3,s4,e3⟩:∃ d s,dT L (.list tProof) s3=(d,s):=⟨_,_,rfl⟩
  obtain ⟨d4,s5,e4⟩:∃ d s,dT L (.list tRead) s4=(d,s):=⟨_,_,rfl⟩
  obtain ⟨d5,s6,e5⟩:∃ d s,dT L .num s5=(d,s):=⟨_,_,rfl⟩
  obtain ⟨d6,s7,e6⟩:∃ d s,dT L (.list tItem) s6=(d,s):=⟨_,_,rfl⟩
  have hDD:dT L (payT 8) s3=((d3,d4,d5,d6),s7):=by show dT L (.pair (.list tProof) (.pair (.list tRead) (.pair .num (.list tItem)))) s3=_; simp only [dT_pair,e3,e4,e5,e6]
  have hD:msgO L=some (mkM 8 d1 d2 (d3,d4,d5,d6),s7):=by rw [hM,if_neg (by omega),hDD]
  simp (implicitDefEqProofs:=false) only [go_sem,hq3,hk8]
  refine PCalls.mono (elemsProof_ok rfl (fun _=>rfl) rproof_ok hL hr3) ?_ ?_
  rotate_left
  ·rintro c X ⟨rfl,hn,fx⟩
   refine ⟨rfl,.inr ?_,hF3.trans fx⟩
   rw [e3] at hn
   simp only at hn
   subst hn
   have q5:s5=none:=by rw [← dT_none L (.list tRead),e4]
   subst q5
   have q6:s6=none:=by rw [← dT_none L .num,e5]
   subst q6
   have q7:s7=none:=by rw [← dT_none L (.list tItem),e6]
   subst q7
   exact ⟨_,hD⟩
  rintro v X3 ⟨cs3,rfl,p3,r3,f3⟩
  rw [e3] at r3 p3
  simp only at r3 p3
  have hsz3:=f3.size
  obtain ⟨a3,c3,rfl,hl3,hm3⟩:=rep_list p3.rep
  have hAx3:=hA3.fr f3 (by simpa using hbA)
  have hBx3:=hB3.fr f3 (by simpa using hbB)
  have hCx3:=hC3.fr f3 (by simpa using hbC)
  simp (implicitDefEqProofs:=false) only [go_sem]
  refine Sto_one hCx3 (by simp) rfl fun C4 hC4 fs4 hs4=>?_
  simp only [List.set_cons_zero,List.set_cons_succ,setL,Nat.add_zero,Nat.zero_add,Nat.reduceAdd] at hC4
  have hA4:=hAx3.fr fs4 (by simp; omega)
  have hB4:=hBx3.fr fs4 (by simp; omega)
  have hr4:=r3.fr fs4 (by simp; omega) (fun k hk=>by have:=h0.ltg hk; simp; omega)
  have hF4:Fr [b] H C4:=(hF3.trans f3).trans' fs4 (by simp; omega)
  have hz4:H.size + 3≤C4.size:=by omega
  replace p3:RepP C4 (fun x=>x < H.size + 3) _ _:=RepP.on (m:=H.size + 3) p3 fs4 (by simp; omega) (by omega)
  have hq4:=hA4.cell
  simp (implicitDefEqProofs:=false) only [go_sem,hq4,hk8]
  refine PCalls.mono (elemsReadID_ok rfl (fun _=>rfl) rread_ok hL hr4) ?_ ?_
  rotate_left
  ·rintro c X ⟨rfl,hn,fx⟩
   refine ⟨rfl,.inr ?_,hF4.trans fx⟩
   rw [e4] at hn
   simp only at hn
   subst hn
   have q6:s6=none:=by rw [← dT_none L .num,e5]
   subst q6
   have q7:s7=none:=by rw [← dT_none L (.list tItem),e6]
   subst q7
   exact ⟨_,hD⟩
  rintro v X4 ⟨cs4,rfl,p4,r4,f4⟩
  rw [e4] at r4 p4
  simp only at r4 p4
  have hsz4:=f4.size
  obtain ⟨a4,c4,rfl,hl4,hm4⟩:=rep_list p4.rep
  have hAx4:=hA4.fr f4 (by simpa using hbA)
  have hBx4:=hB4.fr f4 (by simpa using hbB)
  have hCx4:=hC4.fr f4 (by simpa using hbC)
  simp (implicitDefEqProofs:=false) only [go_sem]
  refine Sto_one hCx4 (by simp) rfl fun C5 hC5 fs5 hs5=>?_
  simp only [List.set_cons_zero,List.set_cons_succ,setL,Nat.add_zero,Nat.zero_add,Nat.reduceAdd] at hC5
  have hA5:=hAx4.fr fs5 (by simp; omega)
  have hB5:=hBx4.fr fs5 (by simp; omega)
  have hr5:=r4.fr fs5 (by simp; omega) (fun k hk=>by have:=h0.ltg hk; simp; omega)
  have hF5:Fr [b] H C5:=(hF4.trans f4).trans' fs5 (by simp; omega)
  have hz5:H.size + 3≤C5.size:=by omega
  replace p3:=RepP.on (RepP.on p3 f4 (by simp; omega) (Nat.le_refl _)) fs5 (by simp; omega) (Nat.le_refl _)
  replace p4:RepP C5 (fun x=>x < H.size + 3) _ _:=RepP.on (m:=H.size + 3) p4 fs5 (by simp; omega) (by omega)
  have hq5:=hA5.cell
  simp (implicitDefEqProofs:=false) only [go_sem,hq5,hk8]
  refine (rnum_ok hr5).mono ?_
  rintro v X5 ⟨rfl,r5,f5⟩
  rw [e5] at r5 ⊢
  have hsz5:=f5.size
  have hAx5:=hA5.fr f5 (by simpa using hbA)
  have hBx5:=hB5.fr f5 (by simpa using hbB)
  have hCx5:=hC5.fr f5 (by simpa using hbC)
  simp (implicitDefEqProofs:=false) only [go_sem]
  refine Sto_one hCx5 (by simp) rfl fun C6 hC6 fs6 hs6=>?_
  simp only [List.set_cons_zero,List.set_cons_succ,setL,Nat.add_zero,Nat.zero_add,Nat.reduceAdd] at hC6
  have hA6:=hAx5.fr fs6 (by simp; omega)
  have hB6:=hBx5.fr fs6 (by simp; omega)
  have hr6:=r5.fr fs6 (by simp; omega) (fun k hk=>by have:=h0.ltg hk; simp; omega)
  have hF6:Fr [b] H C6:=(hF5.trans f5).trans' fs6 (by simp; omega)
  have hz6:H.size + 3≤C6.size:=by omega
  replace p3:=RepP.on (RepP.on p3 f5 (by simp; omega) (Nat.le_refl _)) fs6 (by simp; omega) (Nat.le_refl _)
  replace p4:=RepP.on (RepP.on p4 f5 (by simp; omega) (Nat.le_refl _)) fs6 (by simp; omega) (Nat.le_refl _)
  have hq6:=hA6.cell
  simp (implicitDefEqProofs:=false) only [go_sem,hq6,hk8]
  refine PCalls.mono (elemsItem_ok rfl (fun _=>rfl) ritem_ok hL hr6) ?_ ?_
  rotate_left
  ·rintro c X ⟨rfl,hn,fx⟩
   refine ⟨rfl,.inr ?_,hF6.trans fx⟩
   rw [e6] at hn
   simp only at hn
   subst hn
   exact ⟨_,hD⟩
  rintro v X6 ⟨cs6,rfl,p6,r6,f6⟩
  rw [e6] at r6 p6
  simp only at r6 p6
  have hsz6:=f6.size
  obtain ⟨a6,c6,rfl,hl6,hm6⟩:=rep_list p6.rep
  have hAx6:=hA6.fr f6 (by simpa using hbA)
  have hBx6:=hB6.fr f6 (by simpa using hbB)
  have hCx6:=hC6.fr f6 (by simpa using hbC)
  simp (implicitDefEqProofs:=false) only [go_sem]
  refine Sto_one hCx6 (by simp) rfl fun C7 hC7 fs7 hs7=>?_
  simp only [List.set_cons_zero,List.set_cons_succ,setL,Nat.add_zero,Nat.zero_add,Nat.reduceAdd] at hC7
  have hA7:=hAx6.fr fs7 (by simp; omega)
  have hB7:=hBx6.fr fs7 (by simp; omega)
  have hr7:=r6.fr fs7 (by simp; omega) (fun k hk=>by have:=h0.ltg hk; simp; omega)
  have hF7:Fr [b] H C7:=(hF6.trans f6).trans' fs7 (by simp; omega)
  have hz7:H.size + 3≤C7.size:=by omega
  replace p3:=RepP.on (RepP.on p3 f6 (by simp; omega) (Nat.le_refl _)) fs7 (by simp; omega) (Nat.le_refl _)
  replace p4:=RepP.on (RepP.on p4 f6 (by simp; omega) (Nat.le_refl _)) fs7 (by simp; omega) (Nat.le_refl _)
  replace p6:RepP C7 (fun x=>x < H.size + 3) _ _:=RepP.on (m:=H.size + 3) p6 fs7 (by simp; omega) (by omega)
  have hq7:=hA7.cell
  have hw:=hC7.cell
  simp (implicitDefEqProofs:=false) only [go_sem,hw,hk8]
  refine Sto_all hB7 rfl ?_ fun Z hZ fz hsz=>?_
  ·intro v hv
   simp only [List.mem_cons,List.not_mem_nil,or_false] at hv
   rcases hv with rfl | rfl | rfl | rfl | rfl | rfl | rfl | rfl | rfl | rfl | rfl | rfl | rfl | rfl | rfl
   all_goals first | rfl
  have hcz:=hZ.cell
  simp (implicitDefEqProofs:=false) only [go_sem,hcz]
  replace p3:=RepP.on p3 fz (by simp; omega) (show H.size≤H.size + 3 by omega)
  replace p4:=RepP.on p4 fz (by simp; omega) (show H.size≤H.size + 3 by omega)
  replace p6:=RepP.on p6 fz (by simp; omega) (show H.size≤H.size + 3 by omega)
  refine ⟨_,_,_,hD,rfl,?_,hr7.fr fz (by simp; omega) (fun k hk=>by have:=h0.ltg hk; simp; omega),hF7.trans' fz (by simp; omega)⟩
  exact RepP.pair (RepP.v _) (RepP.pair (RepP.v _) (RepP.pair (RepP.v _) (RepP.pair (RepP.pair (RepP.v _) (RepP.pair (RepP.v _) (RepP.v _))) (RepP.pair (p4) (RepP.pair (RepP.nil _) (RepP.pair (RepP.nil _) (RepP.pair (RepP.nil _) (RepP.pair (p3) (RepP.pair (RepP.nil _) (RepP.pair (RepP.nil _) (RepP.pair (RepP.v _) (p6))))))))))))
 ·omega
end Go.Proofs.YtdhlibkdcldioaaGreat
end
section
set_option linter.unusedSimpArgs false
set_option linter.unusedVariables false
set_option maxRecDepth 8000
namespace Go.Proofs.YtdhlibkdcldioaaGreat
open Gx Go
theorem msg_open {H:Heap} {M:List Nat} {m:Msg} {cs:List Value} (h:Rep H M (datT tMsg m.tup) cs):∃ a_reads c_reads a_base c_base a_state c_state a_acks c_acks a_proof c_proof a_digests c_digests a_objects c_objects a_items c_items,cs=[.int .i64 m.kind,.int .i64 m.src,.int .i64 m.dst,.int .i64 m.round.1,.int .i64 m.round.2.1,.int .i64 m.round.2.2,.slice a_reads m.reads.length c_reads,.slice a_base m.base.length c_base,.slice a_state m.state.length c_state,.slice a_acks m.acks.length c_acks,.slice a_proof m.proof.length c_proof,.slice a_digests m.digests.length c_digests,.slice a_objects m.objects.length c_objects,.int .i64 m.seq,.slice a_items m.items.length c_items]∧
 Rep H M (datT (.list tRead) m.reads) [.slice a_reads m.reads.length c_reads]∧Rep H M (datT (.list tBase) m.base) [.slice a_base m.base.length c_base]∧Rep H M (datT (.list tCmd) m.state) [.slice a_state m.state.length c_state]∧Rep H M (datT (.list tAck) m.acks) [.slice a_acks m.acks.length c_acks]∧Rep H M (datT (.list tProof) m.proof) [.slice a_proof m.proof.length c_proof]∧Rep H M (datT (.list tDigest) m.digests) [.slice a_digests m.digests.length c_digests]∧Rep H M (datT (.list .text) m.objects) [.slice a_objects m.objects.length c_objects]∧Rep H M (datT (.list tItem) m.items) [.slice a_items m.items.length c_items]:=by
 obtain ⟨x_kind,y_kind,rfl,h_kind,h⟩:=rep_pair.1 h
 obtain ⟨x_src,y_src,rfl,h_src,h⟩:=rep_pair.1 h
 obtain ⟨x_dst,y_dst,rfl,h_dst,h⟩:=rep_pair.1 h
 obtain ⟨x_round,y_round,rfl,h_round,h⟩:=rep_pair.1 h
 obtain ⟨x_reads,y_reads,rfl,h_reads,h⟩:=rep_pair.1 h
 obtain ⟨x_base,y_base,rfl,h_base,h⟩:=rep_pair.1 h
 obtain ⟨x_state,y_state,rfl,h_state,h⟩:=rep_pair.1 h
 obtain ⟨x_acks,y_acks,rfl,h_acks,h⟩:=rep_pair.1 h
 obtain ⟨x_proof,y_proof,rfl,h_proof,h⟩:=rep_pair.1 h
 obtain ⟨x_digests,y_digests,rfl,h_digests,h⟩:=rep_pair.1 h
 obtain ⟨x_objects,y_objects,rfl,h_objects,h⟩:=rep_pair.1 h
 obtain ⟨x_seq,y_seq,rfl,h_seq,h⟩:=rep_pair.1 h
 have h_items:=h
 have e_kind:=rep_num h_kind
 subst e_kind
 have e_src:=rep_num h_src
 subst e_src
 have e_dst:=rep_num h_dst
 subst e_dst
 have e_seq:=rep_num h_seq
 subst e_seq
 obtain ⟨z1,z2,rfl,r1,hr⟩:=rep_pair.1 h_round
 obtain ⟨z2,z3,rfl,r2,r3⟩:=rep_pair.1 hr
 have q1:=rep_num r1
 subst q1
 have q2:=rep_num r2
 subst q2
 have q3:=rep_num r3
 subst q3
 obtain ⟨a_reads,c_reads,rfl,_,_⟩:=rep_list h_reads
 obtain ⟨a_base,c_base,rfl,_,_⟩:=rep_list h_base
 obtain ⟨a_state,c_state,rfl,_,_⟩:=rep_list h_state
 obtain ⟨a_acks,c_acks,rfl,_,_⟩:=rep_list h_acks
 obtain ⟨a_proof,c_proof,rfl,_,_⟩:=rep_list h_proof
 obtain ⟨a_digests,c_digests,rfl,_,_⟩:=rep_list h_digests
 obtain ⟨a_objects,c_objects,rfl,_,_⟩:=rep_list h_objects
 obtain ⟨a_items,c_items,rfl,_,_⟩:=rep_list h_items
 exact ⟨a_reads,c_reads,a_base,c_base,a_state,c_state,a_acks,c_acks,a_proof,c_proof,a_digests,c_digests,a_objects,c_objects,a_items,c_items,rfl,h_reads,h_base,h_state,h_acks,h_proof,h_digests,h_objects,h_items⟩
def useI (k:Int):Int:=if k=1 then 15 else (if k=2 then 29 else (if k=3 then 40 else (if k=4 then 64 else (if k=5 then 8 else (if k=6 then 8 else (if k=7 then 130 else (if k=8 then 802 else 0)))))))
def orI (b:Bool) (x f:Int):Int:=if b then bits .or .i64 x f else x
def hasI:List Bool→Int
 | [b0,b1,b2,b3,b4,b5,b6,b7,b8,b9]=>orI b9 (orI b8 (orI b7 (orI b6 (orI b5 (orI b4 (orI b3 (orI b2 (orI b1 (orI b0 (0) 1) 2) 4) 8) 16) 32) 64) 128) 256) 512
 | _=>0
theorem fit_dec:∀ b0 b1 b2 b3 b4 b5 b6 b7 b8 b9:Bool,∀ k:Fin 9,decide (bits .andNot .i64 (hasI [b0,b1,b2,b3,b4,b5,b6,b7,b8,b9]) (useI (k.val:Int))=0)=fitB [b0,b1,b2,b3,b4,b5,b6,b7,b8,b9] (useB (k.val:Int)):=by decide +kernel
theorem uses_ok (k:Int) (H:Heap):HCalls Tryz.prog 74 #[.int .i64 k] H fun v H'=>v= .int .i64 (useI k)∧H'=H:=by
 refine calls_of_vc (args:=[_]) Tryz.func74 c74ok (Nat.le_of_ble_eq_true rfl) ?_
 unfold useI
 by_cases k1:k=1
 ·subst k1
  simp (implicitDefEqProofs:=false) only [go_sem,c74]
 by_cases k2:k=2
 ·subst k2
  simp (implicitDefEqProofs:=false) only [go_sem,c74]
 by_cases k3:k=3
 ·subst k3
  simp (implicitDefEqProofs:=false) only [go_sem,c74]
 by_cases k4:k=4
 ·subst k4
  simp (implicitDefEqProofs:=false) only [go_sem,c74]
 by_cases k5:k=5
 ·subst k5
  simp (implicitDefEqProofs:=false) only [go_sem,c74]
 by_cases k6:k=6
 ·subst k6
  simp (implicitDefEqProofs:=false) only [go_sem,c74]
 by_cases k7:k=7
 ·subst k7
  simp (implicitDefEqProofs:=false) only [go_sem,c74]
 by_cases k8:k=8
 ·subst k8
  simp (implicitDefEqProofs:=false) only [go_sem,c74]
 simp (implicitDefEqProofs:=false) only [go_sem,c74,k1,k2,k3,k4,k5,k6,k7,k8]
theorem note_ok {H:Heap} {b:Nat} {x:Int} (f:Int) (t:Bool) (h:Blk H b 3 [.int .i64 x]):HCalls Tryz.prog 122 #[.int .i64 f,.bool t,.pointer (some ⟨b,0,none⟩)] H fun v H'=>v= .tuple #[]∧Blk H' b 3 [.int .i64 (orI t x f)]∧Fr [b] H H':=by
 refine calls_of_vc (args:=[_,_,_]) Tryz.func122 c122ok (Nat.le_of_ble_eq_true rfl) ?_
 have hc:=h.cell
 cases t with
 | true=>
   simp (implicitDefEqProofs:=false) only [go_sem,c122,hc]
   refine Sto_one h (by simp) rfl fun H1 h1 hf1 hs1=>?_
   simp (implicitDefEqProofs:=false) only [go_sem]
   exact ⟨h1,hf1⟩
 | false=>
   simp (implicitDefEqProofs:=false) only [go_sem,c122,hc]
   exact ⟨h,Fr.refl _ _⟩
set_option maxHeartbeats 2000000 in
theorem has_ok {m:Msg} {H:Heap} {M:List Nat} {cs:List Value} (h:Rep H M (datT tMsg m.tup) cs):HCalls Tryz.prog 75 #[.agg cs.toArray] H fun v H'=>v= .int .i64 (hasI (hasB m))∧Fr [] H H':=by
 obtain ⟨a_reads,c_reads,a_base,c_base,a_state,c_state,a_acks,c_acks,a_proof,c_proof,a_digests,c_digests,a_objects,c_objects,a_items,c_items,rfl,h_reads,h_base,h_state,h_acks,h_proof,h_digests,h_objects,h_items⟩:=msg_open h
 refine calls_of_vc (args:=[_]) Tryz.func75 c75ok (Nat.le_of_ble_eq_true rfl) ?_
 simp (implicitDefEqProofs:=false) only [go_sem,c75]
 refine NewP_intro fun H1 hn1 hf1 hs1=>?_
 simp (implicitDefEqProofs:=false) only [go_sem]
 refine NewP_intro fun H2 hn2 hf2 hs2=>?_
 simp (implicitDefEqProofs:=false) only [go_sem]
 refine Sto_one hn2 (by simp) rfl fun K0 hb0 hk0 hz0=>?_
 simp only [List.set_cons_zero] at hb0
 have hF0:Fr [H1.size] H1 K0:=(hf2.mono (by simp)).trans hk0
 have hm0:=hn1.fr hF0 (by simp; omega)
 have hc0:=hm0.cell
 simp (implicitDefEqProofs:=false) only [go_sem,hc0]
 refine ⟨by kernel_rfl,((note_ok 1 (_) hb0).mono ?_:PCalls _ _ _ _ _ _)⟩
 rintro v K1 ⟨rfl,hb1,hk1⟩
 have hm1:=hm0.fr hk1 (by simp; omega)
 have hF1:=hF0.trans hk1
 have hc1:=hm1.cell
 simp (implicitDefEqProofs:=false) only [go_sem,hc1]
 refine ⟨by kernel_rfl,((note_ok 2 (_) hb1).mono ?_:PCalls _ _ _ _ _ _)⟩
 rintro v K2 ⟨rfl,hb2,hk2⟩
 have hm2:=hm1.fr hk2 (by simp; omega)
 have hF2:=hF1.trans hk2
 have hc2:=hm2.cell
 simp (implicitDefEqProofs:=false) only [go_sem,hc2]
 refine ⟨by kernel_rfl,((note_ok 4 (_) hb2).mono ?_:PCalls _ _ _ _ _ _)⟩
 rintro v K3 ⟨rfl,hb3,hk3⟩
 have hm3:=hm2.fr hk3 (by simp; omega)
 have hF3:=hF2.trans hk3
 have hc3:=hm3.cell
 simp (implicitDefEqProofs:=false) only [go_sem,hc3]
 refine ⟨by kernel_rfl,((note_ok 8 (_) hb3).mono ?_:PCalls _ _ _ _ _ _)⟩
 rintro v K4 ⟨rfl,hb4,hk4⟩
 have hm4:=hm3.fr hk4 (by simp; omega)
 have hF4:=hF3.trans hk4
 have hc4:=hm4.cell
 simp (implicitDefEqProofs:=false) only [go_sem,hc4]
 refine ⟨by kernel_rfl,((note_ok 16 (_) hb4).mono ?_:PCalls _ _ _ _ _ _)⟩
 rintro v K5 ⟨rfl,hb5,hk5⟩
 have hm5:=hm4.fr hk5 (by simp; omega)
 have hF5:=hF4.trans hk5
 have hc5:=hm5.cell
 simp (implicitDefEqProofs:=false) only [go_sem,hc5]
 refine ⟨by kernel_rfl,((note_ok 32 (_) hb5).mono ?_:PCalls _ _ _ _ _ _)⟩
 rintro v K6 ⟨rfl,hb6,hk6⟩
 have hm6:=hm5.fr hk6 (by simp; omega)
 have hF6:=hF5.trans hk6
 have hc6:=hm6.cell
 simp (implicitDefEqProofs:=false) only [go_sem,hc6]
 refine ⟨by kernel_rfl,((note_ok 64 (_) hb6).mono ?_:PCalls _ _ _ _ _ _)⟩
 rintro v K7 ⟨rfl,hb7,hk7⟩
 have hm7:=hm6.fr hk7 (by simp; omega)
 have hF7:=hF6.trans hk7
 have hc7:=hm7.cell
 simp (implicitDefEqProofs:=false) only [go_sem,hc7]
 refine ⟨by kernel_rfl,((note_ok 128 (_) hb7).mono ?_:PCalls _ _ _ _ _ _)⟩
 rintro v K8 ⟨rfl,hb8,hk8⟩
 have hm8:=hm7.fr hk8 (by simp; omega)
 have hF8:=hF7.trans hk8
 have hc8:=hm8.cell
 simp (implicitDefEqProofs:=false) only [go_sem,hc8]
 refine ⟨by kernel_rfl,((note_ok 256 (_) hb8).mono ?_:PCalls _ _ _ _ _ _)⟩
 rintro v K9 ⟨rfl,hb9,hk9⟩
 have hm9:=hm8.fr hk9 (by simp; omega)
 have hF9:=hF8.trans hk9
 have hc9:=hm9.cell
 simp (implicitDefEqProofs:=false) only [go_sem,hc9]
 refine ⟨by kernel_rfl,((note_ok 512 (_) hb9).mono ?_:PCalls _ _ _ _ _ _)⟩
 rintro v K10 ⟨rfl,hb10,hk10⟩
 have hm10:=hm9.fr hk10 (by simp; omega)
 have hF10:=hF9.trans hk10
 have hcz:=hb10.cell
 simp (implicitDefEqProofs:=false) only [go_sem,hcz]
 refine ⟨?_,(hf1.trans' hF10 (by simp; omega))⟩
 have hr:(decide (m.round.1=0) && (decide (m.round.2.1=0) && decide (m.round.2.2=0)))=decide (m.round=(0,0,0)):=by
  obtain ⟨r1,r2,r3⟩:=m.round
  by_cases h1:r1=0 <;> by_cases h2:r2=0 <;> by_cases h3:r3=0 <;> simp [h1,h2,h3]
 have e_reads:decide (0 < (m.reads.length:Int))=decide (0 < m.reads.length):=decide_eq_decide.2 (by omega)
 have e_base:decide (0 < (m.base.length:Int))=decide (0 < m.base.length):=decide_eq_decide.2 (by omega)
 have e_state:decide (0 < (m.state.length:Int))=decide (0 < m.state.length):=decide_eq_decide.2 (by omega)
 have e_acks:decide (0 < (m.acks.length:Int))=decide (0 < m.acks.length):=decide_eq_decide.2 (by omega)
 have e_proof:decide (0 < (m.proof.length:Int))=decide (0 < m.proof.length):=decide_eq_decide.2 (by omega)
 have e_digests:decide (0 < (m.digests.length:Int))=decide (0 < m.digests.length):=decide_eq_decide.2 (by omega)
 have e_objects:decide (0 < (m.objects.length:Int))=decide (0 < m.objects.length):=decide_eq_decide.2 (by omega)
 have e_items:decide (0 < (m.items.length:Int))=decide (0 < m.items.length):=decide_eq_decide.2 (by omega)
 simp only [hasI,hasB,e_reads,e_base,e_state,e_acks,e_proof,e_digests,e_objects,e_items,ne_eq,decide_not]
 congr 10
 rw [hr]
set_option maxHeartbeats 2000000 in
theorem counted_ok {m:Msg} {H:Heap} {M:List Nat} {cs:List Value} (h:Rep H M (datT tMsg m.tup) cs):HCalls Tryz.prog 76 #[.agg cs.toArray] H fun v H'=>v= .bool (countB m)∧Fr [] H H':=by
 obtain ⟨a_reads,c_reads,a_base,c_base,a_state,c_state,a_acks,c_acks,a_proof,c_proof,a_digests,c_digests,a_objects,c_objects,a_items,c_items,rfl,h_reads,h_base,h_state,h_acks,h_proof,h_digests,h_objects,h_items⟩:=msg_open h
 refine calls_of_vc (args:=[_]) Tryz.func76 c76ok (Nat.le_of_ble_eq_true rfl) ?_
 simp (implicitDefEqProofs:=false) only [go_sem,c76]
 refine NewP_intro fun H1 hn1 hf1 hs1=>?_
 have hc:=hn1.cell
 unfold countB
 by_cases k1:m.kind=1
 ·simp (implicitDefEqProofs:=false) only [go_sem,hc,k1]
  refine ⟨?_,hf1⟩
  congr 1; exact decide_eq_decide.2 (by omega)
 by_cases k2:m.kind=2
 ·by_cases l1:m.base.length≤1
  ·have l1':(m.base.length:Int)≤1:=by omega
   simp (implicitDefEqProofs:=false) only [go_sem,hc,k2,l1']
   refine ⟨?_,hf1⟩
   simp only [l1,decide_true,Bool.true_and]
   congr 1; exact decide_eq_decide.2 (by omega)
  ·have l1':¬ (m.base.length:Int)≤1:=by omega
   simp (implicitDefEqProofs:=false) only [go_sem,hc,k2,l1']
   refine ⟨?_,hf1⟩
   simp only [l1,decide_false,Bool.false_and]
 by_cases k3:m.kind=3
 ·simp (implicitDefEqProofs:=false) only [go_sem,hc,k3]
  refine ⟨?_,hf1⟩
  congr 1; exact decide_eq_decide.2 (by omega)
 by_cases k6:m.kind=6
 ·simp (implicitDefEqProofs:=false) only [go_sem,hc,k6]
  refine ⟨?_,hf1⟩
  congr 1; exact decide_eq_decide.2 (by omega)
 by_cases k7:m.kind=7
 ·simp (implicitDefEqProofs:=false) only [go_sem,hc,k7]
  refine ⟨?_,hf1⟩
  congr 1; exact decide_eq_decide.2 (by omega)
 by_cases k8:m.kind=8
 ·by_cases l1:m.proof.length=1
  ·have l1':(m.proof.length:Int)=1:=by omega
   by_cases l2:m.reads.length=1
   ·have l2':(m.reads.length:Int)=1:=by omega
    by_cases l3:m.seq=0
    ·simp (implicitDefEqProofs:=false) only [go_sem,hc,k8,l1',l2',l3]
     exact ⟨by simp [l1,l2,l3],hf1⟩
    ·simp (implicitDefEqProofs:=false) only [go_sem,hc,k8,l1',l2',l3]
     exact ⟨by simp [l1,l2,l3],hf1⟩
   ·have l2':¬ (m.reads.length:Int)=1:=by omega
    by_cases l3:m.reads.length=0
    ·have l3':(m.reads.length:Int)=0:=by omega
     by_cases l4:1≤m.seq
     ·simp (implicitDefEqProofs:=false) only [go_sem,hc,k8,l1',l2',l3',l4]
      exact ⟨by simp [l1,l2,l3,l4],hf1⟩
     ·simp (implicitDefEqProofs:=false) only [go_sem,hc,k8,l1',l2',l3',l4]
      exact ⟨by simp [l1,l2,l3,l4],hf1⟩
    ·have l3':¬ (m.reads.length:Int)=0:=by omega
     simp (implicitDefEqProofs:=false) only [go_sem,hc,k8,l1',l2',l3']
     exact ⟨by simp [l1,l2,l3],hf1⟩
  ·have l1':¬ (m.proof.length:Int)=1:=by omega
   simp (implicitDefEqProofs:=false) only [go_sem,hc,k8,l1']
   exact ⟨by simp [l1],hf1⟩
 ·simp (implicitDefEqProofs:=false) only [go_sem,hc,k1,k2,k3,k6,k7,k8]
  exact hf1
theorem use_zero {k:Int}:useI k=0↔¬ (1≤k∧k≤8):=by
 unfold useI
 repeat' split
 all_goals omega
set_option maxHeartbeats 2000000 in
theorem formed_ok {m:Msg} {H:Heap} {M:List Nat} {cs:List Value} (h:Rep H M (datT tMsg m.tup) cs):HCalls Tryz.prog 31 #[.agg cs.toArray] H fun v H'=>v= .bool (formB m)∧Fr [] H H':=by
 have hopen:=msg_open h
 obtain ⟨a_reads,c_reads,a_base,c_base,a_state,c_state,a_acks,c_acks,a_proof,c_proof,a_digests,c_digests,a_objects,c_objects,a_items,c_items,hcs,h_reads,h_base,h_state,h_acks,h_proof,h_digests,h_objects,h_items⟩:=hopen
 refine calls_of_vc (args:=[_]) Tryz.func31 c31ok (Nat.le_of_ble_eq_true rfl) ?_
 simp (implicitDefEqProofs:=false) only [go_sem,c31,hcs]
 refine NewP_intro fun H1 hn1 hf1 hs1=>?_
 have hc:=hn1.cell
 simp (implicitDefEqProofs:=false) only [go_sem,hc]
 refine (uses_ok m.kind H1).mono ?_
 rintro v K ⟨rfl,rfl⟩
 have hbad:headB m=false→formB m=false:=by intro h; simp [formB,h]
 by_cases k0:1≤m.kind∧m.kind≤8
 ·have u0:¬ useI m.kind=0:=by rw [use_zero]; simpa using k0
  by_cases f0:m.src < 0
  ·rw [hbad (by simp [headB]; omega)]
   simp (implicitDefEqProofs:=false) only [go_sem,hc,u0,f0]
   exact hf1
  by_cases f1:63 < m.src
  ·rw [hbad (by simp [headB]; omega)]
   simp (implicitDefEqProofs:=false) only [go_sem,hc,u0,f0,f1]
   exact hf1
  by_cases t0:m.dst < 0
  ·rw [hbad (by simp [headB]; omega)]
   simp (implicitDefEqProofs:=false) only [go_sem,hc,u0,f0,f1,t0]
   exact hf1
  by_cases t1:63 < m.dst
  ·rw [hbad (by simp [headB]; omega)]
   simp (implicitDefEqProofs:=false) only [go_sem,hc,u0,f0,f1,t0,t1]
   exact hf1
  have hhead:headB m=true:=by simp [headB]; omega
  simp (implicitDefEqProofs:=false) only [go_sem,hc,u0,f0,f1,t0,t1]
  rw [← hcs]
  refine (has_ok (Rep.ext h hf1)).mono ?_
  rintro v K2 ⟨rfl,hf2⟩
  have hc2:=(hn1.ext hf2).cell
  simp (implicitDefEqProofs:=false) only [go_sem,hc2]
  refine (uses_ok m.kind K2).mono ?_
  rintro v K3 ⟨rfl,rfl⟩
  obtain ⟨k,hk,hk8⟩:∃ k:Nat,m.kind=k∧k < 9:=⟨m.kind.toNat,by omega,by omega⟩
  have hfit:decide (bits .andNot .i64 (hasI (hasB m)) (useI m.kind)=0)=fitB (hasB m) (useB m.kind):=by
   rw [hk]; exact fit_dec _ _ _ _ _ _ _ _ _ _ ⟨k,hk8⟩
  have hform:formB m=(fitB (hasB m) (useB m.kind) && countB m):=by simp [formB,hhead]
  have hf12:=hf1.trans hf2
  cases hq:fitB (hasB m) (useB m.kind) with
  | true=>
    rw [hq] at hfit hform
    have hz:=of_decide_eq_true hfit
    simp (implicitDefEqProofs:=false) only [go_sem,hz,hc2]
    rw [← hcs]
    refine (counted_ok (Rep.ext h hf12)).mono ?_
    rintro v K4 ⟨rfl,hf4⟩
    simp (implicitDefEqProofs:=false) only [go_sem]
    exact ⟨by rw [hform]; rfl,hf12.trans hf4⟩
  | false=>
    rw [hq] at hfit hform
    have hz:=of_decide_eq_false hfit
    simp (implicitDefEqProofs:=false) only [go_sem,hz,hc2]
    exact ⟨by rw [hform]; rfl,hf12⟩
 ·have u0:useI m.kind=0:=by rw [use_zero]; exact k0
  rw [hbad (by simp [headB]; omega)]
  simp (implicitDefEqProofs:=false) only [go_sem,hc,u0]
  exact hf1
end Go.Proofs.YtdhlibkdcldioaaGreat
end
