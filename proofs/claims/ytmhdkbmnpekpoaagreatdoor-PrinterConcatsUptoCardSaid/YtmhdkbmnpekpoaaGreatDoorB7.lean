import Derived.Test.YtmhdkbmnpekpoaaGreatDoorB6
import Derived.Test.YtmhdkbmnpekpoaaGreatDoorB2
import Derived.Test.YtmhdkbmnpekpoaaGreatDoorB5
import Derived.Test.YtmhdkbmnpekpoaaGreatDoorRows
import Derived.WalkKit
import Derived.ProofKit
import Derived.OpenShut
import Derived.LaidMore
import Derived.LaidLaws
import Derived.Stop.Joined
import Derived.Deep.DeepHandedRow
import Derived.Deep.DeepWitnessRowRef
section
set_option linter.unusedSimpArgs false
set_option linter.unusedVariables false
set_option maxRecDepth 8000
namespace Go.Proofs.YtmhdkbmnpekpoaaGreatDoor
open Gx Go
abbrev Kw:=List (Int × Bs)
def MapI (H:Heap) (r:Nat) (l:Kw):Prop:=∃ es c,H[r]?=some (.map es c)∧es.toList.map (fun e=>(e.key,e.val))=l.map fun p=>(Value.int .i64 p.1,sv p.2)
theorem MapI.lt {H:Heap} {r:Nat} {l:Kw} (h:MapI H r l):r < H.size:=by
 obtain ⟨es,c,h1,_⟩:=h
 exact (Array.getElem?_eq_some_iff.1 h1).1
theorem MapI.fr {M:List Nat} {H H':Heap} {r:Nat} {l:Kw} (h:MapI H r l) (hf:Fr M H H') (hr:r ∉ M):MapI H' r l:=by
 have hlt:=h.lt
 obtain ⟨es,c,h1,h2⟩:=h
 exact ⟨es,c,by rw [hf.same r hlt hr]; exact h1,h2⟩
theorem NewI_intro {H:Heap} {R:Value→Heap→Prop} (h:∀ r H',MapI H' r []→Fr [] H H'→H.size≤r→R (.map (some r)) H'):NewM H R:=
 h _ _ ⟨#[],0,by simp,rfl⟩ (fr_push _ _ _) (Nat.le_refl _)
theorem findI:∀ {es:List MapEntry} {l:Kw} (s:Int) (i:Nat),es.map (fun e=>(e.key,e.val))=(l.map fun p=>(Value.int .i64 p.1,sv p.2))→
 (l.lookup s=none∧Instr.findNow (.int .i64) (.int .i64 s) es i=some none)∨∃ n j,l.lookup s=some n∧Instr.findNow (.int .i64) (.int .i64 s) es i=some (some (j,sv n))
 | [],[],s,i,_=>.inl ⟨rfl,rfl⟩
 | e :: es,p :: l,s,i,h=>by
   simp only [List.map_cons,List.cons.injEq,Prod.mk.injEq] at h
   obtain ⟨⟨h1,h2⟩,h3⟩:=h
   have hs:Instr.sameNow (.int .i64) (.int .i64 s) e.key=some (s == p.1):=by
    rw [h1]; rfl
   obtain ⟨a,b⟩:=p
   by_cases q:s=a
   ·subst q
    refine .inr ⟨b,i,by simp [List.lookup],?_⟩
    simp only [Instr.findNow,hs,beq_self_eq_true,h2]
   ·have hq:(s == a)=false:=by simpa using q
    have hl:((a,b) :: l).lookup s=l.lookup s:=by simp [List.lookup,hq]
    rw [hl]
    simp only [Instr.findNow,hs,hq]
    exact findI s (i + 1) h3
 | [],_ :: _,_,_,h=>by simp at h
 | _ :: _,[],_,_,h=>by simp at h
theorem InsI_intro {H Hb:Heap} {r:Nat} {l:Kw} {n:Int} {s:Bs} {R:Heap→Prop} (h:MapI H r l) (hf:Fr [] Hb H) (hb:Hb.size≤r) (hs:l.lookup n=none) (hR:∀ H',MapI H' r (l ++ [(n,s)])→Fr [] Hb H'→R H'):InsI H r .i64 n (.string ⟨⟨s⟩⟩) R:=by
 have hlt:=h.lt
 obtain ⟨es,c,h1,h2⟩:=h
 rcases findI n 0 h2 with ⟨_,hfn⟩ | ⟨_,_,q,_⟩
 ·refine ⟨es,c,h1,hfn,hR _ ⟨es.push ⟨.int .i64 n,.string ⟨⟨s⟩⟩,c⟩,c + 1,by simp [hlt],by simp [h2,sv]⟩ (hf.trans' (M':=[r]) ⟨by simp,fun i hi hn=>?_⟩ (by simpa using hb))⟩
  have:r≠i:=by simpa [eq_comm] using hn
  simp [this]
 ·rw [hs] at q; cases q
def wordOf (l:Kw) (n:Int):Bs:=(l.lookup n).getD []
theorem LkpI_intro {H:Heap} {r:Nat} {l:Kw} {n:Int} {R:Value→Prop} (h:MapI H r l) (hR:R (.string ⟨⟨wordOf l n⟩⟩)):LkpI H (.string ⟨⟨[]⟩⟩) r .i64 n R:=by
 obtain ⟨es,c,h1,h2⟩:=h
 refine ⟨es,c,h1,?_⟩
 rcases findI n 0 h2 with ⟨q,hf⟩ | ⟨m,j,q,hf⟩
 ·exact .inr ⟨hf,by simpa [wordOf,q] using hR⟩
 ·exact .inl ⟨j,_,hf,by simpa [wordOf,q,sv] using hR⟩
def sortW:Kw:=[(1,[105,110,116]),(2,[98,111,111,108]),(3,[110,97,109,101]),(4,[110,97,109,101,115])]
theorem sortW_ok (n:Int):decide (wordOf sortW n≠[])=okS n∧(okS n=true→wordOf sortW n=sortS n)∧(wordOf sortW n).length≤5:=by
 by_cases h1:n=1
 ·subst h1; decide
 by_cases h2:n=2
 ·subst h2; decide
 by_cases h3:n=3
 ·subst h3; decide
 by_cases h4:n=4
 ·subst h4; decide
 have e:wordOf sortW n=[]:=by
  have e1:(n == 1)=false:=by simpa using h1
  have e2:(n == 2)=false:=by simpa using h2
  have e3:(n == 3)=false:=by simpa using h3
  have e4:(n == 4)=false:=by simpa using h4
  simp [wordOf,sortW,List.lookup,e1,e2,e3,e4]
 have ho:okS n=false:=by
  unfold okS
  simp only [Bool.and_eq_false_iff,decide_eq_false_iff_not]
  omega
 rw [e,ho]; simp
theorem sort_pc {H:Heap} {O:List Nat} {q:Nat} {s:Bs} {bad:Bool} (hp:Pr H O q s bad) {n:Int} :
 PC 98 [.pointer (some ⟨q,0,none⟩),.int .i64 n] H O q s bad (okS n) (sortS n) 5:=by
 intro hw
 obtain ⟨w1,w2,w3⟩:=sortW_ok n
 refine calls_of_vc (args:=[_,_]) Tryz.func98 c98ok (Nat.le_of_ble_eq_true rfl) ?_
 have L:=PL.start hp
 simp (implicitDefEqProofs:=false) only [go_sem,c98]
 refine NewI_intro fun r H1 hm hf hr=>?_
 simp (implicitDefEqProofs:=false) only [go_sem]
 refine InsI_intro hm hf hr rfl fun H1 hm hf=>?_
 simp (implicitDefEqProofs:=false) only [go_sem]
 refine InsI_intro hm hf hr rfl fun H1 hm hf=>?_
 simp (implicitDefEqProofs:=false) only [go_sem]
 refine InsI_intro hm hf hr rfl fun H1 hm hf=>?_
 simp (implicitDefEqProofs:=false) only [go_sem]
 refine InsI_intro hm hf hr rfl fun H1 hm hf=>?_
 have L:=L.ext hf
 simp (implicitDefEqProofs:=false) only [go_sem]
 have hm:MapI H1 r sortW:=hm
 refine LkpI_intro hm ?_
 have hs:=str_nil_iff (wordOf sortW n)
 simp (implicitDefEqProofs:=false) only [go_sem]
 refine (must_ok L.st _).mono ?_
 rintro v H2 ⟨rfl,h1,h2⟩
 have L:=L.pnext h1 h2 (Oo.refl _ _)
 have hm:=hm.fr h2 (fun hx=>by have:=hp.lt _ hx; omega)
 simp (implicitDefEqProofs:=false) only [go_sem]
 refine LkpI_intro hm ?_
 simp (implicitDefEqProofs:=false) only [go_sem]
 refine L.newS fun bz Hz L=>?_
 simp (implicitDefEqProofs:=false) only [go_sem]
 refine L.pput 0 [wordOf sortW n] rfl (by simp) (by simp; omega) fun Hy Oy L=>?_
 simp (implicitDefEqProofs:=false) only [go_sem]
 refine L.pdone (((Pw.must _ _ _).trans (Pw.put _ _ _)).to ?_ (fun h=>?_) (by simp; omega))
 ·rw [← w1]; simp only [hs]; simp
 ·rw [w2 (by rw [← w1]; simp only [hs] at h; simpa using h)]; simp
end Go.Proofs.YtmhdkbmnpekpoaaGreatDoor
end
section
set_option linter.unusedSimpArgs false
set_option linter.unusedVariables false
set_option maxRecDepth 8000
namespace Go.Proofs.YtmhdkbmnpekpoaaGreatDoor
open Gx Go
def oprK (k:Int):Bs × Nat × Nat × Nat:=match binK k with
 | some (o,lv,l,r)=>(spT o,lv,l,r)
 | none=>([],0,0,0)
def oprV (k:Int):Value:=.tuple #[sv (oprK k).1,.int .i64 (oprK k).2.1,.int .i64 (oprK k).2.2.1,.int .i64 (oprK k).2.2.2]
def cmpW:Kw:=[(34,[60,61]),(35,[60]),(36,[61,61]),(37,[105,110]),(38,[108,101,113])]
theorem operator_ok (k:Int) {H:Heap}:HCalls Tryz.prog 46 #[.int .i64 k] H fun r H'=>r=oprV k∧Fr [] H H':=by
 refine calls_of_vc (args:=[_]) Tryz.func46 c46ok (Nat.le_of_ble_eq_true rfl) ?_
 simp (implicitDefEqProofs:=false) only [go_sem,c46]
 have fin:∀ {a:Bs} {b c d:Nat},oprV k= .tuple #[sv a,.int .i64 b,.int .i64 c,.int .i64 d]→(Value.tuple #[.string ⟨⟨a⟩⟩,.int .i64 b,.int .i64 c,.int .i64 d]=oprV k):=fun h=>h.symm
 by_cases h31:k=31
 ·subst h31; simp (implicitDefEqProofs:=false) only [go_sem]; exact ⟨rfl,Fr.refl _ _⟩
 by_cases h32:k=32
 ·subst h32; simp (implicitDefEqProofs:=false) only [go_sem]; exact ⟨rfl,Fr.refl _ _⟩
 by_cases h39:k=39
 ·subst h39; simp (implicitDefEqProofs:=false) only [go_sem]; exact ⟨rfl,Fr.refl _ _⟩
 by_cases h40:k=40
 ·subst h40; simp (implicitDefEqProofs:=false) only [go_sem]; exact ⟨rfl,Fr.refl _ _⟩
 by_cases h41:k=41
 ·subst h41; simp (implicitDefEqProofs:=false) only [go_sem]; exact ⟨rfl,Fr.refl _ _⟩
 by_cases h34:k=34
 ·subst h34
  simp (implicitDefEqProofs:=false) only [go_sem]
  refine NewI_intro fun r H1 hm hf hr=>?_
  simp (implicitDefEqProofs:=false) only [go_sem]
  refine InsI_intro hm hf hr rfl fun H1 hm hf=>?_
  simp (implicitDefEqProofs:=false) only [go_sem]
  refine InsI_intro hm hf hr rfl fun H1 hm hf=>?_
  simp (implicitDefEqProofs:=false) only [go_sem]
  refine InsI_intro hm hf hr rfl fun H1 hm hf=>?_
  simp (implicitDefEqProofs:=false) only [go_sem]
  refine InsI_intro hm hf hr rfl fun H1 hm hf=>?_
  simp (implicitDefEqProofs:=false) only [go_sem]
  refine InsI_intro hm hf hr rfl fun H1 hm hf=>?_
  simp (implicitDefEqProofs:=false) only [go_sem]
  have hm:MapI H1 r cmpW:=hm
  refine LkpI_intro hm ?_
  exact ⟨rfl,hf⟩
 by_cases h35:k=35
 ·subst h35
  simp (implicitDefEqProofs:=false) only [go_sem]
  refine NewI_intro fun r H1 hm hf hr=>?_
  simp (implicitDefEqProofs:=false) only [go_sem]
  refine InsI_intro hm hf hr rfl fun H1 hm hf=>?_
  simp (implicitDefEqProofs:=false) only [go_sem]
  refine InsI_intro hm hf hr rfl fun H1 hm hf=>?_
  simp (implicitDefEqProofs:=false) only [go_sem]
  refine InsI_intro hm hf hr rfl fun H1 hm hf=>?_
  simp (implicitDefEqProofs:=false) only [go_sem]
  refine InsI_intro hm hf hr rfl fun H1 hm hf=>?_
  simp (implicitDefEqProofs:=false) only [go_sem]
  refine InsI_intro hm hf hr rfl fun H1 hm hf=>?_
  simp (implicitDefEqProofs:=false) only [go_sem]
  have hm:MapI H1 r cmpW:=hm
  refine LkpI_intro hm ?_
  exact ⟨rfl,hf⟩
 by_cases h36:k=36
 ·subst h36
  simp (implicitDefEqProofs:=false) only [go_sem]
  refine NewI_intro fun r H1 hm hf hr=>?_
  simp (implicitDefEqProofs:=false) only [go_sem]
  refine InsI_intro hm hf hr rfl fun H1 hm hf=>?_
  simp (implicitDefEqProofs:=false) only [go_sem]
  refine InsI_intro hm hf hr rfl fun H1 hm hf=>?_
  simp (implicitDefEqProofs:=false) only [go_sem]
  refine InsI_intro hm hf hr rfl fun H1 hm hf=>?_
  simp (implicitDefEqProofs:=false) only [go_sem]
  refine InsI_intro hm hf hr rfl fun H1 hm hf=>?_
  simp (implicitDefEqProofs:=false) only [go_sem]
  refine InsI_intro hm hf hr rfl fun H1 hm hf=>?_
  simp (implicitDefEqProofs:=false) only [go_sem]
  have hm:MapI H1 r cmpW:=hm
  refine LkpI_intro hm ?_
  exact ⟨rfl,hf⟩
 by_cases h37:k=37
 ·subst h37
  simp (implicitDefEqProofs:=false) only [go_sem]
  refine NewI_intro fun r H1 hm hf hr=>?_
  simp (implicitDefEqProofs:=false) only [go_sem]
  refine InsI_intro hm hf hr rfl fun H1 hm hf=>?_
  simp (implicitDefEqProofs:=false) only [go_sem]
  refine InsI_intro hm hf hr rfl fun H1 hm hf=>?_
  simp (implicitDefEqProofs:=false) only [go_sem]
  refine InsI_intro hm hf hr rfl fun H1 hm hf=>?_
  simp (implicitDefEqProofs:=false) only [go_sem]
  refine InsI_intro hm hf hr rfl fun H1 hm hf=>?_
  simp (implicitDefEqProofs:=false) only [go_sem]
  refine InsI_intro hm hf hr rfl fun H1 hm hf=>?_
  simp (implicitDefEqProofs:=false) only [go_sem]
  have hm:MapI H1 r cmpW:=hm
  refine LkpI_intro hm ?_
  exact ⟨rfl,hf⟩
 by_cases h38:k=38
 ·subst h38
  simp (implicitDefEqProofs:=false) only [go_sem]
  refine NewI_intro fun r H1 hm hf hr=>?_
  simp (implicitDefEqProofs:=false) only [go_sem]
  refine InsI_intro hm hf hr rfl fun H1 hm hf=>?_
  simp (implicitDefEqProofs:=false) only [go_sem]
  refine InsI_intro hm hf hr rfl fun H1 hm hf=>?_
  simp (implicitDefEqProofs:=false) only [go_sem]
  refine InsI_intro hm hf hr rfl fun H1 hm hf=>?_
  simp (implicitDefEqProofs:=false) only [go_sem]
  refine InsI_intro hm hf hr rfl fun H1 hm hf=>?_
  simp (implicitDefEqProofs:=false) only [go_sem]
  refine InsI_intro hm hf hr rfl fun H1 hm hf=>?_
  simp (implicitDefEqProofs:=false) only [go_sem]
  have hm:MapI H1 r cmpW:=hm
  refine LkpI_intro hm ?_
  exact ⟨rfl,hf⟩
 simp (implicitDefEqProofs:=false) only [go_sem,h31,h32,h39,h40,h41,h34,h35,h36,h37,h38]
 refine ⟨?_,Fr.refl _ _⟩
 simp [oprV,oprK,binK,h31,h32,h39,h40,h41,h34,h35,h36,h37,h38,sv]
theorem binK_sp {k:Int} {o:Tk} {lv l r:Nat} (h:binK k=some (o,lv,l,r)):spT o≠[]:=by
 unfold binK at h
 repeat' split at h
 all_goals first
  | (cases h; done)
  | (simp only [Option.some.injEq,Prod.mk.injEq] at h; obtain ⟨rfl,_⟩:=h; decide)
theorem level_ok (k:Int) {n a:Int} {t:Bs} {aa:Option Addr} {m cc:Nat} {H:Heap} :
 HCalls Tryz.prog 45 #[.agg #[.int .i64 k,sv t,.int .i64 n,.int .i64 a,.slice aa m cc]] H fun r H'=>r= .int .i64 (levK k)∧Fr [] H H':=by
 refine calls_of_vc (args:=[_]) Tryz.func45 c45ok (Nat.le_of_ble_eq_true rfl) ?_
 simp (implicitDefEqProofs:=false) only [go_sem,c45]
 refine NewP_intro fun H1 hn1 hf1 _=>?_
 have k0:=hn1.cell 0
 by_cases h30:k=30
 ·subst h30; simp (implicitDefEqProofs:=false) only [go_sem,k0]; exact ⟨rfl,hf1⟩
 by_cases h33:k=33
 ·subst h33; simp (implicitDefEqProofs:=false) only [go_sem,k0]; exact ⟨rfl,hf1⟩
 by_cases h42:k=42
 ·subst h42; simp (implicitDefEqProofs:=false) only [go_sem,k0]; exact ⟨rfl,hf1⟩
 by_cases h43:k=43
 ·subst h43; simp (implicitDefEqProofs:=false) only [go_sem,k0]; exact ⟨rfl,hf1⟩
 simp (implicitDefEqProofs:=false) only [go_sem,k0,h30,h33,h42,h43]
 refine (operator_ok k).mono ?_
 rintro r H2 ⟨rfl,hf2⟩
 have hl:levK k=match binK k with
  | some x=>x.2.1
  | none=>8:=by
  unfold levK
  rw [if_neg h30,if_neg h33,if_neg (by omega)]
  cases binK k <;> rfl
 have hs:=str_nil_iff (oprK k).1
 unfold oprV sv
 cases hb:binK k with
 | some x=>
   obtain ⟨o,lv,l,r⟩:=x
   have ho:oprK k=(spT o,lv,l,r):=by simp [oprK,hb]
   have hne:=binK_sp hb
   rw [ho] at hs ⊢
   rw [hb] at hl
   simp (implicitDefEqProofs:=false) only [go_sem,hs,hne]
   exact ⟨by rw [hl],hf1.trans hf2⟩
 | none=>
   have ho:oprK k=([],0,0,0):=by simp [oprK,hb]
   rw [ho] at hs ⊢
   rw [hb] at hl
   simp (implicitDefEqProofs:=false) only [go_sem,hs]
   exact ⟨by rw [hl]; rfl,hf1.trans hf2⟩
end Go.Proofs.YtmhdkbmnpekpoaaGreatDoor
end
section
set_option linter.unusedSimpArgs false
set_option linter.unusedVariables false
set_option maxRecDepth 8000
namespace Go.Proofs.YtmhdkbmnpekpoaaGreatDoor
open Gx Go
mutual
def wN:Nd→Nat
 | .mk _ t _ _ ks=>t.length + 64 + wL ks
def wL:List Nd→Nat
 | []=>0
 | x :: r=>wN x + wL r
end
mutual
def inN:Nd→Prop
 | .mk _ _ n _ ks=>-9223372036854775808≤n∧n≤9223372036854775807∧inL ks
def inL:List Nd→Prop
 | []=>True
 | x :: r=>inN x∧inL r
end
theorem Pw.no {s t':Bs} {b k':Bool} {w':Nat} (hno:k'=true→False):Pw s b s (b || !false) k' t' w':=by
 have h:=Pw.must s b false
 rw [show (b || !false)=true by cases b <;> rfl] at h ⊢
 exact h.stop (fun h=>(hno h).elim) (by omega)
def ExprOk (N:Nat):Prop:=∀ x:Nd,sizeN x≤N→inN x→∀ {H:Heap} {O:List Nat} {q:Nat} {s:Bs} {bad:Bool} (hp:Pr H O q s bad) (hG:GlobH H) {v:Value} (hx:NO H O x v) (req:Nat),req≤8→
 PC 23 [.pointer (some ⟨q,0,none⟩),v,.int .i64 req] H O q s bad (okB x) (sAt x req) (wN x - 2)
theorem okB_bin {k n p:Int} {t:Bs} {ks:List Nd} {o:Tk} {lv l r:Nat} (hb:binK k=some (o,lv,l,r)):okB (.mk k t n p ks)=match ks with
 | [a,b]=>decide (t=[]) && decide (n=0) && okB a && okB b
 | _=>false:=by
 rw [okB.eq_def]; simp only [hb]
 rcases ks with _ | ⟨a,_ | ⟨b,_ | ⟨c,r⟩⟩⟩ <;> rfl
theorem okB_30 {n p:Int} {t:Bs} {ks:List Nd}:okB (.mk 30 t n p ks)=match ks with
 | [a,b,c]=>decide (t=[]) && decide (n=0) && okB a && okB b && okB c
 | _=>false:=by
 rw [okB.eq_def]
 rcases ks with _ | ⟨a,_ | ⟨b,_ | ⟨c,_ | ⟨d,r⟩⟩⟩⟩ <;> rfl
theorem okB_33 {n p:Int} {t:Bs} {ks:List Nd}:okB (.mk 33 t n p ks)=match ks with
 | [a]=>decide (t=[]) && decide (n=0) && okB a
 | _=>false:=by
 rw [okB.eq_def]
 rcases ks with _ | ⟨a,_ | ⟨b,r⟩⟩ <;> rfl
theorem okB_42 {n p:Int} {t:Bs} {ks:List Nd}:okB (.mk 42 t n p ks)=match ks with
 | [a]=>nameB t && decide (n=0) && okB a
 | _=>false:=by
 rw [okB.eq_def]
 rcases ks with _ | ⟨a,_ | ⟨b,r⟩⟩ <;> rfl
theorem okB_43 {n p:Int} {t:Bs} {ks:List Nd}:okB (.mk 43 t n p ks)=match ks with
 | [a,b]=>decide (t=[]) && decide (n=0) && okB a && okB b
 | _=>false:=by
 rw [okB.eq_def]
 rcases ks with _ | ⟨a,_ | ⟨b,_ | ⟨c,r⟩⟩⟩ <;> rfl
def PrimOk (N:Nat):Prop:=∀ (k n a:Int) (t:Bs) (ks:List Nd),sizeL ks≤N→inN (.mk k t n a ks)→binK k=none→k≠30→k≠33→k≠42→k≠43→∀ {H:Heap} {O:List Nat} {q:Nat} {s:Bs} {bad:Bool} (hp:Pr H O q s bad) (hG:GlobH H) {v:Value} (hx:NO H O (.mk k t n a ks) v),
 PC 49 [.pointer (some ⟨q,0,none⟩),v] H O q s bad (okB (.mk k t n a ks)) (sB (.mk k t n a ks)) (t.length + 60 + wL ks)
theorem binK_lv {k:Int} {o:Tk} {lv l r:Nat} (h:binK k=some (o,lv,l,r)):l≤7∧r≤7∧(spT o).length≤4:=by
 unfold binK at h
 repeat' split at h
 all_goals first
  | (cases h; done)
  | (simp only [Option.some.injEq,Prod.mk.injEq] at h; obtain ⟨rfl,rfl,rfl,rfl⟩:=h; decide)
def ifO (x y z:Nd):Nat→Bool
 | 0=>true
 | 1=>okB x
 | 2=>okB x && okB y
 | _=>okB x && okB y && okB z
def ifT (x y z:Nd):Nat→Bs
 | 0=>[]
 | 1=>[105,102,32] ++ sB x
 | 2=>[105,102,32] ++ (sB x ++ ([32,116,104,101,110,32] ++ sB y))
 | _=>[105,102,32] ++ (sB x ++ ([32,116,104,101,110,32] ++ (sB y ++ ([32,101,108,115,101,32] ++ sB z))))
def ifW (x y z:Nd):Nat→Nat
 | 0=>0
 | 1=>6 + wN x
 | 2=>12 + (wN x + wN y)
 | _=>18 + (wN x + wN y + wN z)
theorem expr_body {N:Nat} (ih:ExprOk N) (ihp:PrimOk N) {k n a:Int} {t:Bs} {ks:List Nd} (hsz:sizeL ks≤N) (hin:inN (.mk k t n a ks)) {H0 H1:Heap} {O0 O1:List Nat} {q bx cc:Nat} {aa:Option Addr} {s1:Bs} {b1:Bool} {l:List Ent} (hG:GlobH H0) {s0:Bs} {b0:Bool} (hp:Pr H0 O0 q s0 b0)
 (hk:Rep H0 O0 (kidsD ks) [.slice aa ks.length cc]) (hmx:ks.length≤maxLen) (L:PL O0 H0 q O1 s1 b1 H1 l) (i:Nat) (hi:l[i]?=some (.blk bx 24 [.int .i64 k,sv t,.int .i64 n,.int .i64 a,.slice aa ks.length cc]))
 (hw:s1.length + (t.length + 60 + wL ks)≤140737488355328) {K:Heap→Prop} (hK:∀ H' O' s' b',PL O0 H0 q O' s' b' H' l→Pw s1 b1 s' b' (okB (.mk k t n a ks)) (sB (.mk k t n a ks)) (t.length + 60 + wL ks)→K H') (o1 o2 o4 o5 o6 o7 o8 o9 o10 o11 o12 o13 o14 o15 o16 o17 o18 o19 o20 o21 o22 o23 o24:Option Value) :
 vc Tryz.prog (fun _ _=>False) c23b [some (.pointer (some ⟨q,0,none⟩)),o1,o2,some (.pointer (some ⟨bx,0,none⟩)),o4,o5,o6,o7,o8,o9,o10,o11,o12,o13,o14,o15,o16,o17,o18,o19,o20,o21,o22,o23,o24] H1 (fun x _ H'=>match x with | .ext _=>False | _=>K H'):=by
 have ca:=L.cell i hi
 simp (implicitDefEqProofs:=false) only [go_sem,c23b,ca]
 refine (operator_ok k).mono ?_
 rintro r H2 ⟨rfl,hf2⟩
 have L:=L.ext hf2
 have hs:=str_nil_iff (oprK k).1
 unfold oprV sv
 cases hb:binK k with
 | some x=>
   obtain ⟨o,lv,lo,ro⟩:=x
   have ho:oprK k=(spT o,lv,lo,ro):=by simp [oprK,hb]
   have hne:=binK_sp hb
   rw [ho] at hs ⊢
   have ca:=L.cell i hi
   simp (implicitDefEqProofs:=false) only [go_sem,hs,hne,ca]
   refine (plain_ok (t:=t)).mono ?_
   rintro r H3 ⟨rfl,hf3⟩
   have L:=L.ext hf3
   have ca:=L.cell i hi
   have hok:=okB_bin (t:=t) (n:=n) (p:=a) (ks:=ks) hb
   by_cases hA:t=[]∧n=0∧ks.length=2
   ·obtain ⟨rfl,rfl,h2⟩:=hA
    match ks,h2 with
    | [x,y],_=>
    rw [sB_bin hb] at hK
    obtain ⟨lv1,lv2,lv3⟩:=binK_lv hb
    simp only at hok
    simp (implicitDefEqProofs:=false) only [go_sem,ca]
    refine L.pmustE true (by simp) fun H4 L hm=>?_
    cases b1 with
    | true=>
      simp (implicitDefEqProofs:=false) only [go_sem]
      exact hK _ _ _ _ L (hm.stop (fun _=>rfl) (by omega))
    | false=>
      obtain ⟨b,o',c,k1,t1,n1,a1,kks,kv1,e1,e2,⟨q0,q1,q2,q3,q4⟩,hr,hone,hbO⟩:=kidO hk 0 (by simp)
      cases e1
      have ca:=L.cell i hi
      have q0:=cellB_fr q0 L.fr hbO
      have q1:=cellB_fr q1 L.fr hbO
      have q2:=cellB_fr q2 L.fr hbO
      have q3:=cellB_fr q3 L.fr hbO
      have q4:=cellB_fr q4 L.fr hbO
      unfold sv at q1
      simp only [Nat.zero_mul,Nat.one_mul,Nat.add_zero,Nat.reduceMul,Nat.reduceAdd] at q0 q1 q2 q3 q4
      simp (implicitDefEqProofs:=false) only [go_sem,ca,q0,q1,q2,q3,q4]
      simp only [sizeL,inN,inL,wL] at hsz hin hw
      refine L.pgo (ih x (by omega) hin.2.2.1 L.st (hp.glob hG L.fr) (L.pno hr) lo (by omega)) (by omega) fun H5 O5 s5 b5 L hx=>?_
      have hl5:=hx.len
      simp (implicitDefEqProofs:=false) only [go_sem]
      refine L.newS fun bz Hz L=>?_
      simp (implicitDefEqProofs:=false) only [go_sem]
      refine L.pput 0 [[32],spT o,[32]] rfl (by simp) (by first | omega | (simp; omega) | simp) fun Hy Oy L=>?_
      have L:=L.drop (List.sublist_cons_self _ _) (fun _ h=>h)
      obtain ⟨b,o',c,k1,t1,n1,a1,kks,kv1,e1,e2,⟨q0,q1,q2,q3,q4⟩,hr,hone,hbO⟩:=kidO hk 1 (by simp)
      cases e1
      have ca:=L.cell i hi
      have q0:=cellB_fr q0 L.fr hbO
      have q1:=cellB_fr q1 L.fr hbO
      have q2:=cellB_fr q2 L.fr hbO
      have q3:=cellB_fr q3 L.fr hbO
      have q4:=cellB_fr q4 L.fr hbO
      unfold sv at q1
      simp only [Nat.zero_mul,Nat.one_mul,Nat.add_zero,Nat.reduceMul,Nat.reduceAdd] at q0 q1 q2 q3 q4
      simp (implicitDefEqProofs:=false) only [go_sem,ca,q0,q1,q2,q3,q4]
      refine L.pgo (ih y (by omega) hin.2.2.2.1 L.st (hp.glob hG L.fr) (L.pno hr) ro (by omega)) (by first | omega | (simp; omega) | simp) fun H6 O6 s6 b6 L hy=>?_
      simp (implicitDefEqProofs:=false) only [go_sem]
      refine hK _ _ _ _ L ((hm.trans (hx.trans ((Pw.put _ _ _).trans hy))).to ?_ (fun _=>by simp) (by first | omega | (simp [wL]; omega) | simp [wL]))
      rw [hok]; simp
   ·have hno:okB (.mk k t n a ks)=true→False:=by
     rw [hok]
     intro h
     split at h
     ·simp only [Bool.and_eq_true,decide_eq_true_eq] at h
      exact hA ⟨h.1.1.1,h.1.1.2,rfl⟩
     ·cases h
    simp (implicitDefEqProofs:=false) only [go_sem,ca]
    refine L.pmustE false (by grind) fun H4 L hm=>?_
    simp (implicitDefEqProofs:=false) only [go_sem]
    exact hK _ _ _ _ L (Pw.no hno)
 | none=>
   have ho:oprK k=([],0,0,0):=by simp [oprK,hb]
   rw [ho] at hs ⊢
   have ca:=L.cell i hi
   by_cases h30:k=30
   ·subst h30
    simp (implicitDefEqProofs:=false) only [go_sem,hs,ca]
    refine (plain_ok (t:=t)).mono ?_
    rintro r H3 ⟨rfl,hf3⟩
    have L:=L.ext hf3
    have ca:=L.cell i hi
    have hok:=okB_30 (t:=t) (n:=n) (p:=a) (ks:=ks)
    by_cases hA:t=[]∧n=0∧ks.length=3
    ·obtain ⟨rfl,rfl,h2⟩:=hA
     match ks,h2 with
     | [x,y,z],_=>
     rw [sB_if] at hK
     simp only at hok
     simp only [sizeL,inN,inL,wL] at hsz hin hw
     simp (implicitDefEqProofs:=false) only [go_sem,ca]
     refine L.pmustE true (by simp) fun H4 L hm=>?_
     cases b1 with
     | true=>
       simp (implicitDefEqProofs:=false) only [go_sem]
       exact hK _ _ _ _ L (hm.stop (fun _=>rfl) (by omega))
     | false=>
       simp (implicitDefEqProofs:=false) only [go_sem]
       refine vc_loop (fun (j:Nat) H'=>j≤3∧∃ O' s' b',PL O0 H0 q O' s' b' H' l∧Pw s1 false s' b' (ifO x y z j) (ifT x y z j) (ifW x y z j))
        (fun j=>[(0,.pointer (some ⟨q,0,none⟩)),(4,.pointer (some ⟨bx,0,none⟩)),(77,.agg #[.string ⟨⟨[105,102,32]⟩⟩,.string ⟨⟨[32,116,104,101,110,32]⟩⟩,.string ⟨⟨[32,101,108,115,101,32]⟩⟩]),(78,.int .i64 j)]) (fun j=>3 - j) 0 ?_ ?_ ?_
       ·exact ⟨by omega,O1,s1,false,L,Pw.refl _ _⟩
       ·simp (implicitDefEqProofs:=false) only [go_sem]
       ·rintro j H5 ⟨hj,O5,s5,b5,L,hst⟩
        have hlen:=hst.len
        match j,hj with
        | 0,_=>
          simp only [ifW] at hlen
          have hj0:(0:Int)≤((0:Nat):Int):=by omega
          have hj1:((0:Nat):Int) < 3:=by omega
          simp (implicitDefEqProofs:=false) only [go_sem,hj0,hj1]
          refine L.newS fun bz Hz L=>?_
          simp (implicitDefEqProofs:=false) only [go_sem]
          refine L.pput 0 [[105,102,32]] rfl (by simp) (by first | omega | (simp; omega) | simp) fun Hy Oy L=>?_
          have L:=L.drop (List.sublist_cons_self _ _) (fun _ h=>h)
          obtain ⟨b,o',c,k1,t1,n1,a1,kks,kv1,e1,e2,⟨q0,q1,q2,q3,q4⟩,hr,hone,hbO⟩:=kidO hk 0 (by simp)
          cases e1
          have ca:=L.cell i hi
          have q0:=cellB_fr q0 L.fr hbO
          have q1:=cellB_fr q1 L.fr hbO
          have q2:=cellB_fr q2 L.fr hbO
          have q3:=cellB_fr q3 L.fr hbO
          have q4:=cellB_fr q4 L.fr hbO
          unfold sv at q1
          simp only [Nat.zero_mul,Nat.one_mul,Nat.add_zero,Nat.reduceMul,Nat.reduceAdd] at q0 q1 q2 q3 q4
          simp (implicitDefEqProofs:=false) only [go_sem,ca,q0,q1,q2,q3,q4]
          refine L.pgo (ih x (by omega) hin.2.2.1 L.st (hp.glob hG L.fr) (L.pno hr) 0 (by omega)) (by first | omega | (simp; omega) | simp) fun H6 O6 s6 b6 L hx=>?_
          simp (implicitDefEqProofs:=false) only [go_sem]
          refine loopK_intro (0 + 1) ?_ ?_ ⟨by omega,O6,s6,b6,L,?_⟩
          ·show 3 - (0 + 1) < 3 - 0
           omega
          ·simp (implicitDefEqProofs:=false) only [go_sem]
           rfl
          ·exact (hst.trans ((Pw.put _ _ _).trans hx)).to (by simp [ifO]) (fun _=>by simp [ifT,sAt_zero]) (by first | omega | (simp [ifW]; omega) | simp [ifW])
        | 1,_=>
          simp only [ifW] at hlen
          have hj0:(0:Int)≤((1:Nat):Int):=by omega
          have hj1:((1:Nat):Int) < 3:=by omega
          simp (implicitDefEqProofs:=false) only [go_sem,hj0,hj1]
          refine L.newS fun bz Hz L=>?_
          simp (implicitDefEqProofs:=false) only [go_sem]
          refine L.pput 0 [[32,116,104,101,110,32]] rfl (by simp) (by first | omega | (simp; omega) | simp) fun Hy Oy L=>?_
          have L:=L.drop (List.sublist_cons_self _ _) (fun _ h=>h)
          obtain ⟨b,o',c,k1,t1,n1,a1,kks,kv1,e1,e2,⟨q0,q1,q2,q3,q4⟩,hr,hone,hbO⟩:=kidO hk 1 (by simp)
          cases e1
          have ca:=L.cell i hi
          have q0:=cellB_fr q0 L.fr hbO
          have q1:=cellB_fr q1 L.fr hbO
          have q2:=cellB_fr q2 L.fr hbO
          have q3:=cellB_fr q3 L.fr hbO
          have q4:=cellB_fr q4 L.fr hbO
          unfold sv at q1
          simp only [Nat.zero_mul,Nat.one_mul,Nat.add_zero,Nat.reduceMul,Nat.reduceAdd] at q0 q1 q2 q3 q4
          simp (implicitDefEqProofs:=false) only [go_sem,ca,q0,q1,q2,q3,q4]
          refine L.pgo (ih y (by omega) hin.2.2.2.1 L.st (hp.glob hG L.fr) (L.pno hr) 0 (by omega)) (by first | omega | (simp; omega) | simp) fun H6 O6 s6 b6 L hx=>?_
          simp (implicitDefEqProofs:=false) only [go_sem]
          refine loopK_intro (1 + 1) ?_ ?_ ⟨by omega,O6,s6,b6,L,?_⟩
          ·show 3 - (1 + 1) < 3 - 1
           omega
          ·simp (implicitDefEqProofs:=false) only [go_sem]
           rfl
          ·exact (hst.trans ((Pw.put _ _ _).trans hx)).to (by simp [ifO]) (fun _=>by simp [ifT,sAt_zero]) (by first | omega | (simp [ifW]; omega) | simp [ifW])
        | 2,_=>
          simp only [ifW] at hlen
          have hj0:(0:Int)≤((2:Nat):Int):=by omega
          have hj1:((2:Nat):Int) < 3:=by omega
          simp (implicitDefEqProofs:=false) only [go_sem,hj0,hj1]
          refine L.newS fun bz Hz L=>?_
          simp (implicitDefEqProofs:=false) only [go_sem]
          refine L.pput 0 [[32,101,108,115,101,32]] rfl (by simp) (by first | omega | (simp; omega) | simp) fun Hy Oy L=>?_
          have L:=L.drop (List.sublist_cons_self _ _) (fun _ h=>h)
          obtain ⟨b,o',c,k1,t1,n1,a1,kks,kv1,e1,e2,⟨q0,q1,q2,q3,q4⟩,hr,hone,hbO⟩:=kidO hk 2 (by simp)
          cases e1
          have ca:=L.cell i hi
          have q0:=cellB_fr q0 L.fr hbO
          have q1:=cellB_fr q1 L.fr hbO
          have q2:=cellB_fr q2 L.fr hbO
          have q3:=cellB_fr q3 L.fr hbO
          have q4:=cellB_fr q4 L.fr hbO
          unfold sv at q1
          simp only [Nat.zero_mul,Nat.one_mul,Nat.add_zero,Nat.reduceMul,Nat.reduceAdd] at q0 q1 q2 q3 q4
          simp (implicitDefEqProofs:=false) only [go_sem,ca,q0,q1,q2,q3,q4]
          refine L.pgo (ih z (by omega) hin.2.2.2.2.1 L.st (hp.glob hG L.fr) (L.pno hr) 0 (by omega)) (by first | omega | (simp; omega) | simp) fun H6 O6 s6 b6 L hx=>?_
          simp (implicitDefEqProofs:=false) only [go_sem]
          refine loopK_intro (2 + 1) ?_ ?_ ⟨by omega,O6,s6,b6,L,?_⟩
          ·show 3 - (2 + 1) < 3 - 2
           omega
          ·simp (implicitDefEqProofs:=false) only [go_sem]
           rfl
          ·exact (hst.trans ((Pw.put _ _ _).trans hx)).to (by simp [ifO]) (fun _=>by simp [ifT,sAt_zero]) (by first | omega | (simp [ifW]; omega) | simp [ifW])
        | 3,_=>
          simp (implicitDefEqProofs:=false) only [go_sem]
          refine hK _ _ _ _ L (hst.to ?_ (fun _=>by simp [ifT]) (by simp [ifW,wL]; omega))
          rw [hok]; simp [ifO]
    ·have hno:okB (.mk 30 t n a ks)=true→False:=by
      rw [hok]
      intro h
      split at h
      ·simp only [Bool.and_eq_true,decide_eq_true_eq] at h
       exact hA ⟨by grind,by grind,rfl⟩
      ·cases h
     simp (implicitDefEqProofs:=false) only [go_sem,ca]
     refine L.pmustE false (by grind) fun H4 L hm=>?_
     simp (implicitDefEqProofs:=false) only [go_sem]
     exact hK _ _ _ _ L (Pw.no hno)
   by_cases h33:k=33
   ·subst h33
    simp (implicitDefEqProofs:=false) only [go_sem,hs,ca]
    refine (plain_ok (t:=t)).mono ?_
    rintro r H3 ⟨rfl,hf3⟩
    have L:=L.ext hf3
    have ca:=L.cell i hi
    have hok:=okB_33 (t:=t) (n:=n) (p:=a) (ks:=ks)
    by_cases hA:t=[]∧n=0∧ks.length=1
    ·obtain ⟨rfl,rfl,h2⟩:=hA
     match ks,h2 with
     | [x],_=>
     rw [sB_not] at hK
     simp only at hok
     simp only [sizeL,inN,inL,wL] at hsz hin hw
     simp (implicitDefEqProofs:=false) only [go_sem,ca]
     refine L.pmustE true (by simp) fun H4 L hm=>?_
     cases b1 with
     | true=>
       simp (implicitDefEqProofs:=false) only [go_sem]
       exact hK _ _ _ _ L (hm.stop (fun _=>rfl) (by omega))
     | false=>
       simp (implicitDefEqProofs:=false) only [go_sem]
       refine L.newS fun bz Hz L=>?_
       simp (implicitDefEqProofs:=false) only [go_sem]
       refine L.pput 0 [[110,111,116,32]] rfl (by simp) (by first | omega | (simp; omega) | simp) fun Hy Oy L=>?_
       have L:=L.drop (List.sublist_cons_self _ _) (fun _ h=>h)
       obtain ⟨b,o',c,k1,t1,n1,a1,kks,kv1,e1,e2,⟨q0,q1,q2,q3,q4⟩,hr,hone,hbO⟩:=kidO hk 0 (by simp)
       cases e1
       have ca:=L.cell i hi
       have q0:=cellB_fr q0 L.fr hbO
       have q1:=cellB_fr q1 L.fr hbO
       have q2:=cellB_fr q2 L.fr hbO
       have q3:=cellB_fr q3 L.fr hbO
       have q4:=cellB_fr q4 L.fr hbO
       unfold sv at q1
       simp only [Nat.zero_mul,Nat.one_mul,Nat.add_zero,Nat.reduceMul,Nat.reduceAdd] at q0 q1 q2 q3 q4
       simp (implicitDefEqProofs:=false) only [go_sem,ca,q0,q1,q2,q3,q4]
       refine L.pgo (ih x (by omega) hin.2.2.1 L.st (hp.glob hG L.fr) (L.pno hr) 3 (by omega)) (by first | omega | (simp; omega) | simp) fun H5 O5 s5 b5 L hx=>?_
       simp (implicitDefEqProofs:=false) only [go_sem]
       refine hK _ _ _ _ L ((hm.trans ((Pw.put _ _ _).trans hx)).to ?_ (fun _=>by simp) (by first | omega | (simp [wL]; omega) | simp [wL]))
       rw [hok]; simp
    ·have hno:okB (.mk 33 t n a ks)=true→False:=by
      rw [hok]
      intro h
      split at h
      ·simp only [Bool.and_eq_true,decide_eq_true_eq] at h
       exact hA ⟨by grind,by grind,rfl⟩
      ·cases h
     simp (implicitDefEqProofs:=false) only [go_sem,ca]
     refine L.pmustE false (by grind) fun H4 L hm=>?_
     simp (implicitDefEqProofs:=false) only [go_sem]
     exact hK _ _ _ _ L (Pw.no hno)
   by_cases h42:k=42
   ·subst h42
    simp (implicitDefEqProofs:=false) only [go_sem,hs,ca]
    have hok:=okB_42 (t:=t) (n:=n) (p:=a) (ks:=ks)
    by_cases hA:ks.length=1
    ·match ks,hA with
     | [x],_=>
     rw [sB_field] at hK
     simp only at hok
     simp only [sizeL,inN,inL,wL] at hsz hin hw
     refine L.pmustE true (by simp) fun H4 L hm=>?_
     cases b1 with
     | true=>
       simp (implicitDefEqProofs:=false) only [go_sem]
       exact hK _ _ _ _ L (hm.stop (fun _=>rfl) (by omega))
     | false=>
       obtain ⟨b,o',c,k1,t1,n1,a1,kks,kv1,e1,e2,⟨q0,q1,q2,q3,q4⟩,hr,hone,hbO⟩:=kidO hk 0 (by simp)
       cases e1
       have ca:=L.cell i hi
       have q0:=cellB_fr q0 L.fr hbO
       have q1:=cellB_fr q1 L.fr hbO
       have q2:=cellB_fr q2 L.fr hbO
       have q3:=cellB_fr q3 L.fr hbO
       have q4:=cellB_fr q4 L.fr hbO
       unfold sv at q1
       simp only [Nat.zero_mul,Nat.one_mul,Nat.add_zero,Nat.reduceMul,Nat.reduceAdd] at q0 q1 q2 q3 q4
       simp (implicitDefEqProofs:=false) only [go_sem,ca,q0,q1,q2,q3,q4]
       refine L.pgo (ih x (by omega) hin.2.2.1 L.st (hp.glob hG L.fr) (L.pno hr) 7 (by omega)) (by first | omega | (simp; omega) | simp) fun H5 O5 s5 b5 L hx=>?_
       have hl5:=hx.len
       simp (implicitDefEqProofs:=false) only [go_sem]
       refine L.newS fun bz Hz L=>?_
       simp (implicitDefEqProofs:=false) only [go_sem]
       refine L.pput 0 [[46]] rfl (by simp) (by first | omega | (simp; omega) | simp) fun Hy Oy L=>?_
       have L:=L.drop (List.sublist_cons_self _ _) (fun _ h=>h)
       have ca:=L.cell i hi
       simp (implicitDefEqProofs:=false) only [go_sem,ca]
       refine L.pgo (name_pc L.st) (by first | omega | (simp; omega) | simp) fun H6 O6 s6 b6 L hn=>?_
       simp (implicitDefEqProofs:=false) only [go_sem]
       refine hK _ _ _ _ L ((hm.trans (hx.trans ((Pw.put _ _ _).trans hn))).to ?_ (fun _=>by simp) (by first | omega | (simp [wL]; omega) | simp [wL]))
       rw [hok]; simp [okName,nameB]; grind
    ·have hno:okB (.mk 42 t n a ks)=true→False:=by
      rw [hok]
      intro h
      split at h
      ·exact hA rfl
      ·cases h
     refine L.pmustE false (by grind) fun H4 L hm=>?_
     simp (implicitDefEqProofs:=false) only [go_sem]
     exact hK _ _ _ _ L (Pw.no hno)
   by_cases h43:k=43
   ·subst h43
    simp (implicitDefEqProofs:=false) only [go_sem,hs,ca]
    refine (plain_ok (t:=t)).mono ?_
    rintro r H3 ⟨rfl,hf3⟩
    have L:=L.ext hf3
    have ca:=L.cell i hi
    have hok:=okB_43 (t:=t) (n:=n) (p:=a) (ks:=ks)
    by_cases hA:t=[]∧n=0∧ks.length=2
    ·obtain ⟨rfl,rfl,h2⟩:=hA
     match ks,h2 with
     | [x,y],_=>
     rw [sB_index] at hK
     simp only at hok
     simp only [sizeL,inN,inL,wL] at hsz hin hw
     simp (implicitDefEqProofs:=false) only [go_sem,ca]
     refine L.pmustE true (by simp) fun H4 L hm=>?_
     cases b1 with
     | true=>
       simp (implicitDefEqProofs:=false) only [go_sem]
       exact hK _ _ _ _ L (hm.stop (fun _=>rfl) (by omega))
     | false=>
       obtain ⟨b,o',c,k1,t1,n1,a1,kks,kv1,e1,e2,⟨q0,q1,q2,q3,q4⟩,hr,hone,hbO⟩:=kidO hk 0 (by simp)
       cases e1
       have ca:=L.cell i hi
       have q0:=cellB_fr q0 L.fr hbO
       have q1:=cellB_fr q1 L.fr hbO
       have q2:=cellB_fr q2 L.fr hbO
       have q3:=cellB_fr q3 L.fr hbO
       have q4:=cellB_fr q4 L.fr hbO
       unfold sv at q1
       simp only [Nat.zero_mul,Nat.one_mul,Nat.add_zero,Nat.reduceMul,Nat.reduceAdd] at q0 q1 q2 q3 q4
       simp (implicitDefEqProofs:=false) only [go_sem,ca,q0,q1,q2,q3,q4]
       refine L.pgo (ih x (by omega) hin.2.2.1 L.st (hp.glob hG L.fr) (L.pno hr) 7 (by omega)) (by first | omega | (simp; omega) | simp) fun H5 O5 s5 b5 L hx=>?_
       have hl5:=hx.len
       simp (implicitDefEqProofs:=false) only [go_sem]
       refine L.newS fun bz Hz L=>?_
       simp (implicitDefEqProofs:=false) only [go_sem]
       refine L.pput 0 [[91]] rfl (by simp) (by first | omega | (simp; omega) | simp) fun Hy Oy L=>?_
       have L:=L.drop (List.sublist_cons_self _ _) (fun _ h=>h)
       obtain ⟨b,o',c,k1,t1,n1,a1,kks,kv1,e1,e2,⟨q0,q1,q2,q3,q4⟩,hr,hone,hbO⟩:=kidO hk 1 (by simp)
       cases e1
       have ca:=L.cell i hi
       have q0:=cellB_fr q0 L.fr hbO
       have q1:=cellB_fr q1 L.fr hbO
       have q2:=cellB_fr q2 L.fr hbO
       have q3:=cellB_fr q3 L.fr hbO
       have q4:=cellB_fr q4 L.fr hbO
       unfold sv at q1
       simp only [Nat.zero_mul,Nat.one_mul,Nat.add_zero,Nat.reduceMul,Nat.reduceAdd] at q0 q1 q2 q3 q4
       simp (implicitDefEqProofs:=false) only [go_sem,ca,q0,q1,q2,q3,q4]
       refine L.pgo (ih y (by omega) hin.2.2.2.1 L.st (hp.glob hG L.fr) (L.pno hr) 0 (by omega)) (by first | omega | (simp; omega) | simp) fun H6 O6 s6 b6 L hy=>?_
       have hl6:=hy.len
       simp at hl6
       simp (implicitDefEqProofs:=false) only [go_sem]
       refine L.newS fun bz Hz L=>?_
       simp (implicitDefEqProofs:=false) only [go_sem]
       refine L.pput 0 [[93]] rfl (by simp) (by first | omega | (simp; omega) | simp) fun Hy Oy L=>?_
       have L:=L.drop (List.sublist_cons_self _ _) (fun _ h=>h)
       simp (implicitDefEqProofs:=false) only [go_sem]
       refine hK _ _ _ _ L ((hm.trans (hx.trans ((Pw.put _ _ _).trans (hy.trans (Pw.put _ _ _))))).to ?_ (fun _=>by simp [sAt_zero]) (by first | omega | (simp [wL]; omega) | simp [wL]))
       rw [hok]; simp
    ·have hno:okB (.mk 43 t n a ks)=true→False:=by
      rw [hok]
      intro h
      split at h
      ·simp only [Bool.and_eq_true,decide_eq_true_eq] at h
       exact hA ⟨by grind,by grind,rfl⟩
      ·cases h
     simp (implicitDefEqProofs:=false) only [go_sem,ca]
     refine L.pmustE false (by grind) fun H4 L hm=>?_
     simp (implicitDefEqProofs:=false) only [go_sem]
     exact hK _ _ _ _ L (Pw.no hno)
   simp (implicitDefEqProofs:=false) only [go_sem,hs,ca,h30,h33,h42,h43]
   refine L.pgo (ihp k n a t ks hsz hin hb h30 h33 h42 h43 L.st (hp.glob hG L.fr) (L.pno (NO.mk hk))) (by omega) fun H5 O5 s5 b5 L hx=>?_
   simp (implicitDefEqProofs:=false) only [go_sem]
   exact hK _ _ _ _ L hx
end Go.Proofs.YtmhdkbmnpekpoaaGreatDoor
end
section
set_option linter.unusedSimpArgs false
set_option linter.unusedVariables false
set_option maxRecDepth 8000
namespace Go.Proofs.YtmhdkbmnpekpoaaGreatDoor
open Gx Go
theorem expr_step {N:Nat} (ih:ExprOk N) (ihp:PrimOk N):ExprOk (N + 1):=by
 intro x hN hin H O q s bad hp hG v hx req hreq hw
 obtain ⟨k,t,n,a,ks⟩:=x
 obtain ⟨aa,cc,rfl,hk,hcc,hmx⟩:=hx.open
 simp only [sizeN] at hN
 have hwn:wN (.mk k t n a ks)=t.length + 64 + wL ks:=rfl
 rw [hwn] at hw
 refine calls_of_cdef (args:=[_,_,_]) Tryz.func23 c23ok (Nat.le_of_ble_eq_true rfl) ?_
 have L:=PL.start hp
 simp (implicitDefEqProofs:=false) only [go_sem,c23,c23a]
 refine L.newP fun bx H1 L=>?_
 have ca:=L.cell 0 rfl
 simp (implicitDefEqProofs:=false) only [go_sem,cdefQ,c23p,ca]
 refine (level_ok k).mono ?_
 rintro r H2 ⟨rfl,hf2⟩
 have L:=L.ext hf2
 simp (implicitDefEqProofs:=false) only [go_sem]
 refine ⟨fun hlt=>?_,fun hge=>?_⟩
 ·have hsa:sAt (.mk k t n a ks) req=40 :: (sB (.mk k t n a ks) ++ [41]):=by
   have:lvN (.mk k t n a ks) < req:=by show levK k < req; omega
   simp [sAt,wrapS,this]
  simp (implicitDefEqProofs:=false) only [go_sem,c23m]
  refine L.newS fun bz Hz L=>?_
  simp (implicitDefEqProofs:=false) only [go_sem]
  refine L.pput 0 [[40]] rfl (by simp) (by first | omega | (simp; omega) | simp) fun Hy Oy L=>?_
  have L:=L.drop (List.sublist_cons_self _ _) (fun _ h=>h)
  simp (implicitDefEqProofs:=false) only [go_sem,c23l]
  refine L.newS fun bz Hz L=>?_
  simp (implicitDefEqProofs:=false) only [go_sem]
  refine ⟨_,rfl,?_⟩
  refine expr_body ih ihp (by omega) hin hG hp hk hmx L 1 rfl (by simp; omega) (fun H' O' s' b' L hx=>?_) _ _ _ _ _ _ _ _ _ _ _ _ _ _ _ _ _ _ _ _ _ _ _
  have hlen:=hx.len
  simp at hlen
  refine (put_dc (ts:=[[41]]) L.st (L.get 0 rfl) (by simp; omega) (by simp)).mono fun H'' ⟨O'',h1,h2,h3⟩=>?_
  have L:=L.pnext h1 h2 h3
  exact L.pdone (((Pw.put _ _ _).trans (hx.trans (Pw.put _ _ _))).to (by simp) (fun _=>by rw [hsa]; simp) (by simp; omega))
 ·have hsa:sAt (.mk k t n a ks) req=sB (.mk k t n a ks):=by
   have:¬ lvN (.mk k t n a ks) < req:=by show ¬ levK k < req; omega
   simp [sAt,wrapS,this]
  refine expr_body ih ihp (by omega) hin hG hp hk hmx L 0 rfl (by omega) (fun H' O' s' b' L hx=>?_) _ _ _ _ _ _ _ _ _ _ _ _ _ _ _ _ _ _ _ _ _ _ _
  exact L.pdone (hx.to rfl (fun _=>by rw [hsa]) (by omega))
end Go.Proofs.YtmhdkbmnpekpoaaGreatDoor
end
section
set_option linter.unusedSimpArgs false
set_option linter.unusedVariables false
set_option maxRecDepth 8000
namespace Go.Proofs.YtmhdkbmnpekpoaaGreatDoor
open Gx Go
theorem ba_iff (a b:Bs):((⟨⟨a⟩⟩:ByteArray)=⟨⟨b⟩⟩)=(a=b):=by
 apply propext
 constructor
 ·intro h; injection h with h; injection h
 ·rintro rfl; rfl
theorem okJ_rec {k n p:Int} {t:Bs} {ks:List Nd}:okJ [114,101,99] (.mk k t n p ks)=match ks with
 | [x]=>decide (k=52) && nameB t && decide (n=0) && okB x
 | _=>false:=by
 rw [okJ.eq_def]
 rcases ks with _ | ⟨a,_ | ⟨b,r⟩⟩ <;> rfl
theorem okJ_map {k n p:Int} {t:Bs} {ks:List Nd}:okJ [109,97,112] (.mk k t n p ks)=match ks with
 | [x,y]=>decide (k=52) && decide (t=[]) && decide (n=0) && okB x && okB y
 | _=>false:=by
 rw [okJ.eq_def]
 rcases ks with _ | ⟨a,_ | ⟨b,_ | ⟨c,r⟩⟩⟩ <;> rfl
theorem okJ_oth {fn:Bs} (h1:fn≠[114,101,99]) (h2:fn≠[109,97,112]) {k n p:Int} {t:Bs} {ks:List Nd}:okJ fn (.mk k t n p ks)=okB (.mk k t n p ks):=by
 rw [okJ.eq_def]
 simp only [h1,h2,if_false]
theorem arg_pc {N:Nat} (ih:ExprOk N) (fn:Bs) (x:Nd) (hN:sizeN x≤N) (hin:inN x) {H:Heap} {O:List Nat} {q:Nat} {s:Bs} {bad:Bool} (hp:Pr H O q s bad) (hG:GlobH H) {v:Value} (hx:NO H O x v) :
 PC 112 [.pointer (some ⟨q,0,none⟩),sv fn,v] H O q s bad (okJ fn x) (sG fn x) (wN x - 2):=by
 intro hw
 have hx0:=hx
 have hin0:=hin
 have hN0:=hN
 obtain ⟨k,t,n,a,ks⟩:=x
 obtain ⟨aa,cc,rfl,hk,hcc,hmx⟩:=hx.open
 simp only [sizeN] at hN
 have hwn:wN (.mk k t n a ks)=t.length + 64 + wL ks:=rfl
 rw [hwn] at hw ⊢
 refine calls_of_vc (args:=[_,_,_]) Tryz.func112 c112ok (Nat.le_of_ble_eq_true rfl) ?_
 have L:=PL.start hp
 have hb1:=ba_iff fn [114,101,99]
 have hb2:=ba_iff fn [109,97,112]
 simp (implicitDefEqProofs:=false) only [go_sem,c112]
 refine L.newP fun bx H1 L=>?_
 have ca:=L.cell 0 rfl
 by_cases h1:fn=[114,101,99]
 ·subst h1
  simp (implicitDefEqProofs:=false) only [go_sem,sv,ca]
  refine (bare_ok (t:=t) 52 1).mono ?_
  rintro r H2 ⟨rfl,hf2⟩
  have L:=L.ext hf2
  have hok:=okJ_rec (k:=k) (t:=t) (n:=n) (p:=a) (ks:=ks)
  by_cases hA:k=52∧ks.length=1
  ·obtain ⟨rfl,h2⟩:=hA
   match ks,h2 with
   | [x],_=>
   rw [sG_rec]
   simp only at hok
   simp only [sizeL,inN,inL,wL] at hN hin hw
   simp (implicitDefEqProofs:=false) only [go_sem]
   refine L.pmustE true (by simp) fun H4 L hm=>?_
   cases bad with
   | true=>
     simp (implicitDefEqProofs:=false) only [go_sem]
     exact L.pdone (hm.stop (fun _=>rfl) (by omega))
   | false=>
     have ca:=L.cell 0 rfl
     simp (implicitDefEqProofs:=false) only [go_sem,ca]
     refine L.pgo (name_pc L.st) (by first | omega | (simp; omega) | simp) fun H6 O6 s6 b6 L hn=>?_
     have hl6:=hn.len
     simp (implicitDefEqProofs:=false) only [go_sem]
     refine L.newS fun bz Hz L=>?_
     simp (implicitDefEqProofs:=false) only [go_sem]
     refine L.pput 0 [[58,32]] rfl (by simp) (by first | omega | (simp; omega) | simp) fun Hy Oy L=>?_
     have L:=L.drop (List.sublist_cons_self _ _) (fun _ h=>h)
     obtain ⟨b,o',c,k1,t1,n1,a1,kks,kv1,e1,e2,⟨q0,q1,q2,q3,q4⟩,hr,hone,hbO⟩:=kidO hk 0 (by simp)
     cases e1
     have ca:=L.cell 0 rfl
     have q0:=cellB_fr q0 L.fr hbO
     have q1:=cellB_fr q1 L.fr hbO
     have q2:=cellB_fr q2 L.fr hbO
     have q3:=cellB_fr q3 L.fr hbO
     have q4:=cellB_fr q4 L.fr hbO
     unfold sv at q1
     simp only [Nat.zero_mul,Nat.one_mul,Nat.add_zero,Nat.reduceMul,Nat.reduceAdd] at q0 q1 q2 q3 q4
     simp (implicitDefEqProofs:=false) only [go_sem,ca,q0,q1,q2,q3,q4]
     refine L.pgo (ih x (by omega) hin.2.2.1 L.st (hp.glob hG L.fr) (L.pno hr) 0 (by omega)) (by first | omega | (simp; omega) | simp) fun H5 O5 s5 b5 L hx=>?_
     simp (implicitDefEqProofs:=false) only [go_sem]
     refine L.pdone ((hm.trans (hn.trans ((Pw.put _ _ _).trans hx))).to ?_ (fun _=>by simp [sAt_zero]) (by first | omega | (simp [wL]; omega) | simp [wL]))
     rw [hok]; simp [okName,nameB] <;> grind
  ·have hno:okJ [114,101,99] (.mk k t n a ks)=true→False:=by
    rw [hok]
    intro h
    split at h
    ·simp only [Bool.and_eq_true,decide_eq_true_eq] at h
     exact hA ⟨by grind,rfl⟩
    ·cases h
   simp (implicitDefEqProofs:=false) only [go_sem]
   refine L.pmustE false (by grind) fun H4 L hm=>?_
   simp (implicitDefEqProofs:=false) only [go_sem]
   exact L.pdone (Pw.no hno)
 by_cases h2:fn=[109,97,112]
 ·subst h2
  simp (implicitDefEqProofs:=false) only [go_sem,sv,hb1,h1,ca]
  refine (bare_ok (t:=t) 52 2).mono ?_
  rintro r H2 ⟨rfl,hf2⟩
  have L:=L.ext hf2
  have ca:=L.cell 0 rfl
  have hok:=okJ_map (k:=k) (t:=t) (n:=n) (p:=a) (ks:=ks)
  by_cases hA:k=52∧ks.length=2
  ·obtain ⟨rfl,h2⟩:=hA
   match ks,h2 with
   | [x,y],_=>
   rw [sG_map]
   simp only at hok
   simp only [sizeL,inN,inL,wL] at hN hin hw
   have e52:(decide ((52:Int)=52) && (decide ((2:Int) < 0) || decide ((([x,y]:List Nd).length:Int)=2)))=true:=by simp
   rw [e52]
   simp (implicitDefEqProofs:=false) only [go_sem,ca]
   refine (plain_ok (t:=t)).mono ?_
   rintro r H3 ⟨rfl,hf3⟩
   have L:=L.ext hf3
   simp (implicitDefEqProofs:=false) only [go_sem]
   refine L.pmust _ fun H4 L hm=>?_
   cases hb:(bad || !(decide (t=[]) && decide (n=0))) with
   | true=>
     rw [hb] at L hm
     simp (implicitDefEqProofs:=false) only [go_sem]
     exact L.pdone (hm.stop (fun h=>by rw [hok] at h; grind) (by omega))
   | false=>
     rw [hb] at L hm
     obtain ⟨b,o',c,k1,t1,n1,a1,kks,kv1,e1,e2,⟨q0,q1,q2,q3,q4⟩,hr,hone,hbO⟩:=kidO hk 0 (by simp)
     cases e1
     have ca:=L.cell 0 rfl
     have q0:=cellB_fr q0 L.fr hbO
     have q1:=cellB_fr q1 L.fr hbO
     have q2:=cellB_fr q2 L.fr hbO
     have q3:=cellB_fr q3 L.fr hbO
     have q4:=cellB_fr q4 L.fr hbO
     unfold sv at q1
     simp only [Nat.zero_mul,Nat.one_mul,Nat.add_zero,Nat.reduceMul,Nat.reduceAdd] at q0 q1 q2 q3 q4
     simp (implicitDefEqProofs:=false) only [go_sem,ca,q0,q1,q2,q3,q4]
     refine L.pgo (ih x (by omega) hin.2.2.1 L.st (hp.glob hG L.fr) (L.pno hr) 0 (by omega)) (by first | omega | (simp; omega) | simp) fun H5 O5 s5 b5 L hx=>?_
     have hl5:=hx.len
     simp (implicitDefEqProofs:=false) only [go_sem]
     refine L.newS fun bz Hz L=>?_
     simp (implicitDefEqProofs:=false) only [go_sem]
     refine L.pput 0 [[58,32]] rfl (by simp) (by first | omega | (simp; omega) | simp) fun Hy Oy L=>?_
     have L:=L.drop (List.sublist_cons_self _ _) (fun _ h=>h)
     obtain ⟨b,o',c,k1,t1,n1,a1,kks,kv1,e1,e2,⟨q0,q1,q2,q3,q4⟩,hr,hone,hbO⟩:=kidO hk 1 (by simp)
     cases e1
     have ca:=L.cell 0 rfl
     have q0:=cellB_fr q0 L.fr hbO
     have q1:=cellB_fr q1 L.fr hbO
     have q2:=cellB_fr q2 L.fr hbO
     have q3:=cellB_fr q3 L.fr hbO
     have q4:=cellB_fr q4 L.fr hbO
     unfold sv at q1
     simp only [Nat.zero_mul,Nat.one_mul,Nat.add_zero,Nat.reduceMul,Nat.reduceAdd] at q0 q1 q2 q3 q4
     simp (implicitDefEqProofs:=false) only [go_sem,ca,q0,q1,q2,q3,q4]
     refine L.pgo (ih y (by omega) hin.2.2.2.1 L.st (hp.glob hG L.fr) (L.pno hr) 0 (by omega)) (by first | omega | (simp; omega) | simp) fun H6 O6 s6 b6 L hy=>?_
     simp (implicitDefEqProofs:=false) only [go_sem]
     refine L.pdone ((hm.trans (hx.trans ((Pw.put _ _ _).trans hy))).to ?_ (fun _=>by simp [sAt_zero]) (by first | omega | (simp [wL]; omega) | simp [wL]))
     rw [hok]; simp [Bool.and_assoc]
  ·have hno:okJ [109,97,112] (.mk k t n a ks)=true→False:=by
    rw [hok]
    intro h
    split at h
    ·simp only [Bool.and_eq_true,decide_eq_true_eq] at h
     exact hA ⟨by grind,rfl⟩
    ·cases h
   have e52:(decide (k=52) && (decide ((2:Int) < 0) || decide ((ks.length:Int)=2)))=false:=by grind
   rw [e52]
   simp (implicitDefEqProofs:=false) only [go_sem,ca]
   refine L.pmustE false (by grind) fun H4 L hm=>?_
   simp (implicitDefEqProofs:=false) only [go_sem]
   exact L.pdone (Pw.no hno)
 ·simp (implicitDefEqProofs:=false) only [go_sem,sv,hb1,hb2,h1,h2,ca]
  rw [okJ_oth h1 h2,sG_other h1 h2]
  refine L.pgo (ih _ hN0 hin0 L.st (hp.glob hG L.fr) (L.pno hx0) 0 (by omega)) (by rw [hwn]; omega) fun H5 O5 s5 b5 L hx=>?_
  simp (implicitDefEqProofs:=false) only [go_sem]
  exact L.pdone (hx.to rfl (fun _=>by rw [sAt_zero]) (by rw [hwn]; omega))
end Go.Proofs.YtmhdkbmnpekpoaaGreatDoor
end
section
set_option linter.unusedSimpArgs false
set_option linter.unusedVariables false
set_option maxRecDepth 8000
namespace Go.Proofs.YtmhdkbmnpekpoaaGreatDoor
open Gx Go
theorem sA_take (fn:Bs) (f:Bool):∀ (ks:List Nd) (i:Nat) (h:i < ks.length),sA fn f (ks.take (i + 1))=sA fn f (ks.take i) ++ ((if i=0 then (if f then [] else [44,32]) else [44,32]) ++ sG fn ks[i])
 | x :: r,0,_=>by simp [sA]
 | x :: r,i + 1,h=>by
   have:=sA_take fn false r i (by simpa using h)
   simp only [List.take_succ_cons,sA,List.getElem_cons_succ,this]
   cases i <;> simp
theorem okA_take (fn:Bs):∀ (ks:List Nd) (i:Nat) (h:i < ks.length),okA fn (ks.take (i + 1))=(okA fn (ks.take i) && okJ fn ks[i])
 | x :: r,0,_=>by simp [okA]
 | x :: r,i + 1,h=>by
   have:=okA_take fn r i (by simpa using h)
   simp only [List.take_succ_cons,okA,List.getElem_cons_succ,this,Bool.and_assoc]
theorem wL_take:∀ (ks:List Nd) (i:Nat) (h:i < ks.length),wL (ks.take (i + 1))=wL (ks.take i) + wN ks[i]
 | x :: r,0,_=>by simp [wL]
 | x :: r,i + 1,h=>by
   have:=wL_take r i (by simpa using h)
   simp only [List.take_succ_cons,wL,List.getElem_cons_succ,this]; omega
theorem wL_le:∀ (ks:List Nd) (i:Nat),wL (ks.take i)≤wL ks
 | [],i=>by simp [wL]
 | x :: r,0=>by simp [wL]
 | x :: r,i + 1=>by
   have:=wL_le r i
   simp only [List.take_succ_cons,wL]; omega
theorem inL_get:∀ (ks:List Nd) (i:Nat) (h:i < ks.length),inL ks→inN ks[i]
 | x :: r,0,_,h=>h.1
 | x :: r,i + 1,hl,h=>inL_get r i (by simpa using hl) h.2
theorem at_end {α:Type} (e x:α) (l:List α):(e :: (l ++ [x]))[l.length + 1]?=some x:=by simp
theorem call_tail {N:Nat} (ih:ExprOk N) {k n a:Int} {t:Bs} {ks:List Nd} (hsz:sizeL ks≤N) (hin:inN (.mk k t n a ks)) {H0 H1:Heap} {O0 O1:List Nat} {q bx cc:Nat} {aa:Option Addr} {s0 s1:Bs} {b0 b1 ok1:Bool} (hG:GlobH H0) (hp:Pr H0 O0 q s0 b0)
 (hk:Rep H0 O0 (kidsD ks) [.slice aa ks.length cc]) (hmx:ks.length≤maxLen) (L:PL O0 H0 q O1 s1 b1 H1 [.blk bx 24 [.int .i64 k,sv t,.int .i64 n,.int .i64 a,.slice aa ks.length cc]])
 (hst:Pw s0 b0 s1 b1 ok1 [] 0)
 (hw:s0.length + (t.length + 60 + wL ks)≤140737488355328) (o1 o3 o4 o5 o6 o7 o8 o9 o10 o11:Option Value) :
 vc Tryz.prog (fun _ _=>False) c94s59 [some (.pointer (some ⟨q,0,none⟩)),o1,some (.pointer (some ⟨bx,0,none⟩)),o3,o4,o5,o6,o7,o8,o9,o10,o11] H1 (finQ [] fun r H'=>r= .tuple #[]∧∃ O' s' bad',Pr H' O' q s' bad'∧Fr O0 H0 H'∧Oo H0 O0 O'∧Pw s0 b0 s' bad' (ok1 && (decide (n=0) && okA t ks)) (t ++ 40 :: (sA t true ks ++ [41])) (t.length + 60 + wL ks)):=by
 have hlen:=hst.len
 have ca:=L.cell 0 rfl
 rw [c94s59eq]
 simp (implicitDefEqProofs:=false) only [go_sem,ca]
 refine L.pmust (decide (n=0)) fun H2 L hm=>?_
 have ca:=L.cell 0 rfl
 simp (implicitDefEqProofs:=false) only [go_sem,ca,sv]
 refine L.newS fun bz Hz L=>?_
 simp (implicitDefEqProofs:=false) only [go_sem]
 refine L.pput 0 [t,[40]] rfl (by simp) (by first | omega | (simp; omega) | simp) fun Hy Oy L=>?_
 have L:=L.drop (List.sublist_cons_self _ _) (fun _ h=>h)
 have ca:=L.cell 0 rfl
 simp (implicitDefEqProofs:=false) only [go_sem,ca]
 generalize hs2:s1 ++ [t,[40]].flatten=s2 at *
 have hst2:Pw s0 b0 s2 (b1 || !decide (n=0)) (ok1 && decide (n=0)) (t ++ [40]) (t.length + 1):=by
  rw [← hs2]
  exact (hst.trans (hm.trans (Pw.put _ _ _))).to (by simp) (fun _=>by simp) (by simp)
 have hbase:=Hy
 refine vc_loop (fun (i:Nat) H'=>i≤ks.length∧∃ O' s' b' l,PL O0 H0 q O' s' b' H' (l ++ [.blk bx 24 [.int .i64 k,sv t,.int .i64 n,.int .i64 a,.slice aa ks.length cc]])∧Pw s2 (b1 || !decide (n=0)) s' b' (okA t (ks.take i)) (sA t true (ks.take i)) (wL (ks.take i)))
  (fun i=>[(0,.pointer (some ⟨q,0,none⟩)),(3,.pointer (some ⟨bx,0,none⟩)),(39,.slice aa ks.length cc),(40,.int .i64 ks.length),(41,.int .i64 i)]) (fun i=>ks.length - i) 0 ?_ ?_ ?_
 ·exact ⟨Nat.zero_le _,_,_,_,[],L,by simpa [sA,okA,wL] using Pw.refl s2 _⟩
 ·simp (implicitDefEqProofs:=false) only [go_sem]
 ·rintro i H1 ⟨hi,O1,s1,b1,l1,L,hst⟩
  have hlen2:=hst2.len
  have hlen3:=hst.len
  rcases Nat.lt_or_ge i ks.length with hlt | hge
  ·have h0:(0:Int)≤(i:Int):=by omega
   have h1:(i:Int) < (ks.length:Int):=by omega
   have hwr:=wrap_at hlt hmx
   have hws:=wL_take ks i hlt
   have hwl:=wL_le ks (i + 1)
   have hwn:64≤wN ks[i]:=by
    cases e:ks[i]; simp only [wN]; omega
   have hsi:=sizeL_get ks i hlt
   obtain ⟨b,o,c,k1,t1,n1,a1,kks,kv1,e1,e2,⟨q0,q1,q2,q3,q4⟩,hr,hone,hbO⟩:=kidO hk i hlt
   cases e1
   have q0:=cellB_fr q0 L.fr hbO
   have q1:=cellB_fr q1 L.fr hbO
   have q2:=cellB_fr q2 L.fr hbO
   have q3:=cellB_fr q3 L.fr hbO
   have q4:=cellB_fr q4 L.fr hbO
   simp only [Nat.add_zero] at q0
   unfold sv at q1
   simp (implicitDefEqProofs:=false) only [go_sem,h0,h1,q0,q1,q2,q3,q4]
   refine NewP_intro fun H5 hn5 hf5 _=>?_
   have L5:=L.push hf5 hn5
   simp (implicitDefEqProofs:=false) only [go_sem]
   refine Sto_all hn5 rfl (one_agg hone) fun H6 hn6 hf6 _=>?_
   have L:=L5.sto 0 rfl hf6 hn6
   simp only [List.set_cons_zero,List.set_cons_succ,List.set_nil,List.eraseIdx_cons_zero,List.eraseIdx_cons_succ] at L
   have fin:∀ (H7:Heap) (O7:List Nat) (s7:Bs) (b7:Bool) (l7:List Ent),PL O0 H0 q O7 s7 b7 H7 (l7 ++ [.blk bx 24 [.int .i64 k,sv t,.int .i64 n,.int .i64 a,.slice (some ⟨b,o,none⟩) ks.length cc]])→Pw s2 (b1 || !decide (n=0)) s7 b7 (okA t (ks.take (i + 1))) (sA t true (ks.take (i + 1))) (wL (ks.take (i + 1)))→True:=fun _ _ _ _ _ _ _=>trivial
   rcases Nat.eq_zero_or_pos i with hi0 | hpos
   ·have hg:¬ ((0:Int) < (i:Int)):=by omega
    have ck:=L.cell 0 rfl
    have ca:=L.cell (l1.length + 1) (at_end _ _ _)
    unfold sv at ck ca
    simp (implicitDefEqProofs:=false) only [go_sem,hg,ck,ca]
    refine L.pgo (arg_pc ih t ks[i] (by omega) (inL_get ks i hlt hin.2.2) L.st (hp.glob hG L.fr) (L.pno hr)) (by omega) fun H7 O7 s7 b7 L hq=>?_
    simp (implicitDefEqProofs:=false) only [go_sem,hwr]
    refine loopK_intro (i + 1) ?_ ?_ ⟨by omega,O7,s7,b7,_ :: l1,L,?_⟩
    ·show ks.length - (i + 1) < ks.length - i
     omega
    ·simp (implicitDefEqProofs:=false) only [go_sem,hwr]
    ·refine (hst.trans hq).to (by rw [okA_take _ ks i hlt]) (fun _=>?_) (by omega)
     rw [sA_take t true ks i hlt,if_pos hi0]; simp
   ·have hg:(0:Int) < (i:Int):=by omega
    simp (implicitDefEqProofs:=false) only [go_sem,hg]
    refine L.newS fun bz Hz L=>?_
    simp (implicitDefEqProofs:=false) only [go_sem]
    refine L.pput 0 [[44,32]] rfl (by simp) (by first | omega | (simp; omega) | simp) fun Hy Oy L=>?_
    have L:=L.drop (List.sublist_cons_self _ _) (fun _ h=>h)
    have ck:=L.cell 0 rfl
    have ca:=L.cell (l1.length + 1) (at_end _ _ _)
    unfold sv at ck ca
    simp (implicitDefEqProofs:=false) only [go_sem,ck,ca]
    refine L.pgo (arg_pc ih t ks[i] (by omega) (inL_get ks i hlt hin.2.2) L.st (hp.glob hG L.fr) (L.pno hr)) (by first | omega | (simp; omega) | simp) fun H7 O7 s7 b7 L hq=>?_
    simp (implicitDefEqProofs:=false) only [go_sem,hwr]
    refine loopK_intro (i + 1) ?_ ?_ ⟨by omega,O7,s7,b7,_ :: l1,L,?_⟩
    ·show ks.length - (i + 1) < ks.length - i
     omega
    ·simp (implicitDefEqProofs:=false) only [go_sem,hwr]
    ·refine (hst.trans ((Pw.put _ _ _).trans hq)).to (by rw [okA_take _ ks i hlt]; simp) (fun _=>?_) (by first | omega | (simp; omega) | simp)
     rw [sA_take t true ks i hlt,if_neg (by omega)]; simp
  ·have h1:¬ ((i:Int) < (ks.length:Int)):=by omega
   obtain rfl:i=ks.length:=by omega
   rw [List.take_length] at hst hlen3
   simp (implicitDefEqProofs:=false) only [go_sem,h1]
   refine L.newS fun bz Hz L=>?_
   simp (implicitDefEqProofs:=false) only [go_sem]
   refine L.pput 0 [[41]] rfl (by simp) (by first | omega | (simp; omega) | simp) fun Hy Oy L=>?_
   simp (implicitDefEqProofs:=false) only [go_sem]
   exact L.pdone ((hst2.trans (hst.trans (Pw.put _ _ _))).to (by simp [Bool.and_assoc]) (fun _=>by simp) (by first | omega | (simp; omega) | simp))
end Go.Proofs.YtmhdkbmnpekpoaaGreatDoor
end
section
set_option linter.unusedSimpArgs false
set_option linter.unusedVariables false
set_option maxRecDepth 8000
namespace Go.Proofs.YtmhdkbmnpekpoaaGreatDoor
open Gx Go
theorem call_pc {N:Nat} (ih:ExprOk N) {k n a:Int} {t:Bs} {ks:List Nd} (hsz:sizeL ks≤N) (hin:inN (.mk k t n a ks)) {H:Heap} {O:List Nat} {q:Nat} {s:Bs} {bad:Bool} (hp:Pr H O q s bad) (hG:GlobH H) {v:Value} (hx:NO H O (.mk k t n a ks) v) :
 PC 94 [.pointer (some ⟨q,0,none⟩),v] H O q s bad (decide (t ∈ fnList) && (decide (n=0) && okA t ks)) (t ++ 40 :: (sA t true ks ++ [41])) (t.length + 60 + wL ks):=by
 intro hw
 obtain ⟨aa,cc,rfl,hk,hcc,hmx⟩:=hx.open
 refine calls_of_vc (args:=[_,_]) Tryz.func94 c94ok (Nat.le_of_ble_eq_true rfl) ?_
 have L:=PL.start hp
 simp (implicitDefEqProofs:=false) only [go_sem,c94]
 refine L.newP fun bx H1 L=>?_
 have ca:=L.cell 0 rfl
 by_cases h1:t=[102,108,97,103]
 ·have e1:=eq_true h1
  rw [decide_eq_true (show t ∈ fnList by rw [h1]; decide)]
  simp (implicitDefEqProofs:=false) only [go_sem,ba_eq,sv,ca,e1]
  exact call_tail ih hsz hin hG hp hk hmx L (Pw.refl s bad) hw _ _ _ _ _ _ _ _ _ _
 have e1:=eq_false h1
 by_cases h2:t=[110,117,109]
 ·have e2:=eq_true h2
  rw [decide_eq_true (show t ∈ fnList by rw [h2]; decide)]
  simp (implicitDefEqProofs:=false) only [go_sem,ba_eq,sv,ca,e1,e2]
  exact call_tail ih hsz hin hG hp hk hmx L (Pw.refl s bad) hw _ _ _ _ _ _ _ _ _ _
 have e2:=eq_false h2
 by_cases h3:t=[115,101,116]
 ·have e3:=eq_true h3
  rw [decide_eq_true (show t ∈ fnList by rw [h3]; decide)]
  simp (implicitDefEqProofs:=false) only [go_sem,ba_eq,sv,ca,e1,e2,e3]
  exact call_tail ih hsz hin hG hp hk hmx L (Pw.refl s bad) hw _ _ _ _ _ _ _ _ _ _
 have e3:=eq_false h3
 by_cases h4:t=[109,97,112]
 ·have e4:=eq_true h4
  rw [decide_eq_true (show t ∈ fnList by rw [h4]; decide)]
  simp (implicitDefEqProofs:=false) only [go_sem,ba_eq,sv,ca,e1,e2,e3,e4]
  exact call_tail ih hsz hin hG hp hk hmx L (Pw.refl s bad) hw _ _ _ _ _ _ _ _ _ _
 have e4:=eq_false h4
 by_cases h5:t=[114,101,99]
 ·have e5:=eq_true h5
  rw [decide_eq_true (show t ∈ fnList by rw [h5]; decide)]
  simp (implicitDefEqProofs:=false) only [go_sem,ba_eq,sv,ca,e1,e2,e3,e4,e5]
  exact call_tail ih hsz hin hG hp hk hmx L (Pw.refl s bad) hw _ _ _ _ _ _ _ _ _ _
 have e5:=eq_false h5
 by_cases h6:t=[112,97,105,114]
 ·have e6:=eq_true h6
  rw [decide_eq_true (show t ∈ fnList by rw [h6]; decide)]
  simp (implicitDefEqProofs:=false) only [go_sem,ba_eq,sv,ca,e1,e2,e3,e4,e5,e6]
  exact call_tail ih hsz hin hG hp hk hmx L (Pw.refl s bad) hw _ _ _ _ _ _ _ _ _ _
 have e6:=eq_false h6
 by_cases h7:t=[111,110,101]
 ·have e7:=eq_true h7
  rw [decide_eq_true (show t ∈ fnList by rw [h7]; decide)]
  simp (implicitDefEqProofs:=false) only [go_sem,ba_eq,sv,ca,e1,e2,e3,e4,e5,e6,e7]
  exact call_tail ih hsz hin hG hp hk hmx L (Pw.refl s bad) hw _ _ _ _ _ _ _ _ _ _
 have e7:=eq_false h7
 by_cases h8:t=[119,114,105,116,101]
 ·have e8:=eq_true h8
  rw [decide_eq_true (show t ∈ fnList by rw [h8]; decide)]
  simp (implicitDefEqProofs:=false) only [go_sem,ba_eq,sv,ca,e1,e2,e3,e4,e5,e6,e7,e8]
  exact call_tail ih hsz hin hG hp hk hmx L (Pw.refl s bad) hw _ _ _ _ _ _ _ _ _ _
 have e8:=eq_false h8
 by_cases h9:t=[115,105,122,101]
 ·have e9:=eq_true h9
  rw [decide_eq_true (show t ∈ fnList by rw [h9]; decide)]
  simp (implicitDefEqProofs:=false) only [go_sem,ba_eq,sv,ca,e1,e2,e3,e4,e5,e6,e7,e8,e9]
  exact call_tail ih hsz hin hG hp hk hmx L (Pw.refl s bad) hw _ _ _ _ _ _ _ _ _ _
 have e9:=eq_false h9
 by_cases h10:t=[115,117,109]
 ·have e10:=eq_true h10
  rw [decide_eq_true (show t ∈ fnList by rw [h10]; decide)]
  simp (implicitDefEqProofs:=false) only [go_sem,ba_eq,sv,ca,e1,e2,e3,e4,e5,e6,e7,e8,e9,e10]
  exact call_tail ih hsz hin hG hp hk hmx L (Pw.refl s bad) hw _ _ _ _ _ _ _ _ _ _
 have e10:=eq_false h10
 by_cases h11:t=[110,117,109,98,101,114]
 ·have e11:=eq_true h11
  rw [decide_eq_true (show t ∈ fnList by rw [h11]; decide)]
  simp (implicitDefEqProofs:=false) only [go_sem,ba_eq,sv,ca,e1,e2,e3,e4,e5,e6,e7,e8,e9,e10,e11]
  exact call_tail ih hsz hin hG hp hk hmx L (Pw.refl s bad) hw _ _ _ _ _ _ _ _ _ _
 have e11:=eq_false h11
 by_cases h12:t=[111,110]
 ·have e12:=eq_true h12
  rw [decide_eq_true (show t ∈ fnList by rw [h12]; decide)]
  simp (implicitDefEqProofs:=false) only [go_sem,ba_eq,sv,ca,e1,e2,e3,e4,e5,e6,e7,e8,e9,e10,e11,e12]
  exact call_tail ih hsz hin hG hp hk hmx L (Pw.refl s bad) hw _ _ _ _ _ _ _ _ _ _
 have e12:=eq_false h12
 by_cases h13:t=[107,101,121,115]
 ·have e13:=eq_true h13
  rw [decide_eq_true (show t ∈ fnList by rw [h13]; decide)]
  simp (implicitDefEqProofs:=false) only [go_sem,ba_eq,sv,ca,e1,e2,e3,e4,e5,e6,e7,e8,e9,e10,e11,e12,e13]
  exact call_tail ih hsz hin hG hp hk hmx L (Pw.refl s bad) hw _ _ _ _ _ _ _ _ _ _
 have e13:=eq_false h13
 by_cases h14:t=[118,97,108,117,101,115]
 ·have e14:=eq_true h14
  rw [decide_eq_true (show t ∈ fnList by rw [h14]; decide)]
  simp (implicitDefEqProofs:=false) only [go_sem,ba_eq,sv,ca,e1,e2,e3,e4,e5,e6,e7,e8,e9,e10,e11,e12,e13,e14]
  exact call_tail ih hsz hin hG hp hk hmx L (Pw.refl s bad) hw _ _ _ _ _ _ _ _ _ _
 have e14:=eq_false h14
 by_cases h15:t=[102,105,114,115,116]
 ·have e15:=eq_true h15
  rw [decide_eq_true (show t ∈ fnList by rw [h15]; decide)]
  simp (implicitDefEqProofs:=false) only [go_sem,ba_eq,sv,ca,e1,e2,e3,e4,e5,e6,e7,e8,e9,e10,e11,e12,e13,e14,e15]
  exact call_tail ih hsz hin hG hp hk hmx L (Pw.refl s bad) hw _ _ _ _ _ _ _ _ _ _
 have e15:=eq_false h15
 by_cases h16:t=[115,101,99,111,110,100]
 ·have e16:=eq_true h16
  rw [decide_eq_true (show t ∈ fnList by rw [h16]; decide)]
  simp (implicitDefEqProofs:=false) only [go_sem,ba_eq,sv,ca,e1,e2,e3,e4,e5,e6,e7,e8,e9,e10,e11,e12,e13,e14,e15,e16]
  exact call_tail ih hsz hin hG hp hk hmx L (Pw.refl s bad) hw _ _ _ _ _ _ _ _ _ _
 have e16:=eq_false h16
 by_cases h17:t=[99,111,110,102,108,105,99,116]
 ·have e17:=eq_true h17
  rw [decide_eq_true (show t ∈ fnList by rw [h17]; decide)]
  simp (implicitDefEqProofs:=false) only [go_sem,ba_eq,sv,ca,e1,e2,e3,e4,e5,e6,e7,e8,e9,e10,e11,e12,e13,e14,e15,e16,e17]
  exact call_tail ih hsz hin hG hp hk hmx L (Pw.refl s bad) hw _ _ _ _ _ _ _ _ _ _
 have e17:=eq_false h17
 rw [decide_eq_false (show ¬ t ∈ fnList by simp only [fnList,List.mem_cons,List.not_mem_nil,or_false,not_or]; exact ⟨h1,h2,h3,h4,h5,h6,h7,h8,h9,h10,h11,h12,h13,h14,h15,h16,h17⟩)]
 simp (implicitDefEqProofs:=false) only [go_sem,ba_eq,sv,ca,e1,e2,e3,e4,e5,e6,e7,e8,e9,e10,e11,e12,e13,e14,e15,e16,e17]
 refine L.pmust false fun H2 L hm=>?_
 simp (implicitDefEqProofs:=false) only [go_sem]
 exact call_tail ih hsz hin hG hp hk hmx L hm hw _ _ _ _ _ _ _ _ _ _
def wordW:Kw:=[(45,[116,114,117,101]),(46,[102,97,108,115,101]),(49,[115]),(50,[98,111,116,116,111,109])]
theorem okB_wd {k n p:Int} {t w:Bs} {ks:List Nd} (h:wordK k=some w):okB (.mk k t n p ks)=(decide (t=[]) && decide (n=0) && ks.isEmpty):=by
 have hk:k=45∨k=46∨k=49∨k=50:=by
  unfold wordK at h
  repeat' split at h
  all_goals first
   | (cases h; done)
   | (rename_i hk; simp [hk])
 rcases hk with rfl | rfl | rfl | rfl <;> (rw [okB.eq_def]; rfl)
theorem okB_44 {n p:Int} {t:Bs} {ks:List Nd}:okB (.mk 44 t n p ks)=okI (.mk 44 t n p ks):=by
 rw [okB.eq_def]; rfl
theorem okB_47 {n p:Int} {t:Bs} {ks:List Nd}:okB (.mk 47 t n p ks)=okQ (.mk 47 t n p ks):=by
 rw [okB.eq_def]; simp [okQ,kindOf,textOf,kidsOf,numOf,binK]; grind
theorem okB_48 {n p:Int} {t:Bs} {ks:List Nd}:okB (.mk 48 t n p ks)=(nameB t && decide (n=0) && ks.isEmpty):=by
 rw [okB.eq_def]; rfl
theorem okB_51 {n p:Int} {t:Bs} {ks:List Nd}:okB (.mk 51 t n p ks)=(decide (t ∈ fnList) && decide (n=0) && okA t ks):=by
 rw [okB.eq_def]; rfl
theorem prim_step {N:Nat} (ih:ExprOk N):PrimOk N:=by
 intro k n a t ks hsz hin hb h30 h33 h42 h43 H O q s bad hp hG v hx hw
 have hx0:=hx
 obtain ⟨aa,cc,rfl,hk,hcc,hmx⟩:=hx.open
 refine calls_of_vc (args:=[_,_]) Tryz.func49 c49ok (Nat.le_of_ble_eq_true rfl) ?_
 have L:=PL.start hp
 simp (implicitDefEqProofs:=false) only [go_sem,c49]
 refine L.newP fun bx H1 L=>?_
 have hH1:=L.fr.size
 have ca:=L.cell 0 rfl
 by_cases h44:k=44
 ·subst h44
  rw [okB_44,sB_int]
  simp (implicitDefEqProofs:=false) only [go_sem,ca]
  refine L.pgo (integer_pc L.st (hp.glob hG L.fr) (L.pno hx0) hin.1 hin.2.1) (by omega) fun H5 O5 s5 b5 L hx=>?_
  simp (implicitDefEqProofs:=false) only [go_sem]
  exact L.pdone (hx.to rfl (fun _=>rfl) (by omega))
 by_cases h47:k=47
 ·subst h47
  rw [okB_47,sB_quote]
  simp (implicitDefEqProofs:=false) only [go_sem,ca]
  refine L.pgo (quote_pc L.st (L.pno hx0)) (by simp only [textOf]; omega) fun H5 O5 s5 b5 L hx=>?_
  simp (implicitDefEqProofs:=false) only [go_sem]
  exact L.pdone (hx.to rfl (fun _=>rfl) (by simp only [textOf]; omega))
 by_cases h48:k=48
 ·subst h48
  rw [okB_48,sB_name]
  simp (implicitDefEqProofs:=false) only [go_sem,ca]
  refine L.pmustE ks.isEmpty (len_zero ks) fun H4 L hm=>?_
  have ca:=L.cell 0 rfl
  simp (implicitDefEqProofs:=false) only [go_sem,ca]
  refine L.pgo (name_pc L.st) (by first | omega | (simp; omega) | simp) fun H6 O6 s6 b6 L hn=>?_
  simp (implicitDefEqProofs:=false) only [go_sem]
  exact L.pdone ((hm.trans hn).to (by simp [okName,nameB]; grind) (fun _=>by simp) (by omega))
 by_cases h51:k=51
 ·subst h51
  rw [okB_51,sB_call]
  simp (implicitDefEqProofs:=false) only [go_sem,ca]
  refine L.pgo (call_pc ih hsz hin L.st (hp.glob hG L.fr) (L.pno hx0)) hw fun H5 O5 s5 b5 L hx=>?_
  simp (implicitDefEqProofs:=false) only [go_sem]
  exact L.pdone (hx.to (by simp [Bool.and_assoc]) (fun _=>rfl) (by omega))
 by_cases h45:k=45
 ·subst h45
  have hok:=okB_wd (n:=n) (p:=a) (t:=t) (ks:=ks) (show wordK 45=some _ from rfl)
  have hsb:=sB_word (n:=n) (p:=a) (t:=t) (ks:=ks) (show wordK 45=some _ from rfl)
  have hs:=str_nil_iff t
  simp (implicitDefEqProofs:=false) only [go_sem,ca]
  have wl:(wordOf wordW 45).length≤6:=by decide
  refine NewI_intro fun r H1 hm hf hr=>?_
  simp (implicitDefEqProofs:=false) only [go_sem]
  refine InsI_intro hm hf hr rfl fun H1 hm hf=>?_
  simp (implicitDefEqProofs:=false) only [go_sem]
  refine InsI_intro hm hf hr rfl fun H1 hm hf=>?_
  simp (implicitDefEqProofs:=false) only [go_sem]
  refine InsI_intro hm hf hr rfl fun H1 hm hf=>?_
  simp (implicitDefEqProofs:=false) only [go_sem]
  refine InsI_intro hm hf hr rfl fun H1 hm hf=>?_
  have L:=L.ext hf
  have ca:=L.cell 0 rfl
  unfold sv at ca
  simp (implicitDefEqProofs:=false) only [go_sem,ca]
  have hm:MapI H1 r wordW:=hm
  refine (plain_ok (t:=t)).mono ?_
  rintro v H2 ⟨rfl,hf2⟩
  have hm:=hm.fr hf2 (by simp)
  have L:=L.ext hf2
  have ca:=L.cell 0 rfl
  simp (implicitDefEqProofs:=false) only [go_sem,ca]
  refine (must_ok L.st _).mono ?_
  rintro v H3 ⟨rfl,h1,h2⟩
  have L:=L.pnext h1 h2 (Oo.refl _ _)
  have hm:=hm.fr h2 (fun hx=>by have:=hp.lt _ hx; omega)
  have ca:=L.cell 0 rfl
  simp (implicitDefEqProofs:=false) only [go_sem,ca]
  refine LkpI_intro hm ?_
  simp (implicitDefEqProofs:=false) only [go_sem]
  refine L.newS fun bz Hz L=>?_
  simp (implicitDefEqProofs:=false) only [go_sem]
  refine L.pput 0 [wordOf wordW 45] rfl (by simp) (by have:=wl; simp; omega) fun Hy Oy L=>?_
  simp (implicitDefEqProofs:=false) only [go_sem]
  refine L.pdone (((Pw.must _ _ _).trans (Pw.put _ _ _)).to ?_ (fun h=>?_) (by have:=wl; simp; omega))
  ·rw [hok,← len_zero]; grind
  ·rw [hsb]; simp; decide
 by_cases h46:k=46
 ·subst h46
  have hok:=okB_wd (n:=n) (p:=a) (t:=t) (ks:=ks) (show wordK 46=some _ from rfl)
  have hsb:=sB_word (n:=n) (p:=a) (t:=t) (ks:=ks) (show wordK 46=some _ from rfl)
  have hs:=str_nil_iff t
  simp (implicitDefEqProofs:=false) only [go_sem,ca]
  have wl:(wordOf wordW 46).length≤6:=by decide
  refine NewI_intro fun r H1 hm hf hr=>?_
  simp (implicitDefEqProofs:=false) only [go_sem]
  refine InsI_intro hm hf hr rfl fun H1 hm hf=>?_
  simp (implicitDefEqProofs:=false) only [go_sem]
  refine InsI_intro hm hf hr rfl fun H1 hm hf=>?_
  simp (implicitDefEqProofs:=false) only [go_sem]
  refine InsI_intro hm hf hr rfl fun H1 hm hf=>?_
  simp (implicitDefEqProofs:=false) only [go_sem]
  refine InsI_intro hm hf hr rfl fun H1 hm hf=>?_
  have L:=L.ext hf
  have ca:=L.cell 0 rfl
  unfold sv at ca
  simp (implicitDefEqProofs:=false) only [go_sem,ca]
  have hm:MapI H1 r wordW:=hm
  refine (plain_ok (t:=t)).mono ?_
  rintro v H2 ⟨rfl,hf2⟩
  have hm:=hm.fr hf2 (by simp)
  have L:=L.ext hf2
  have ca:=L.cell 0 rfl
  simp (implicitDefEqProofs:=false) only [go_sem,ca]
  refine (must_ok L.st _).mono ?_
  rintro v H3 ⟨rfl,h1,h2⟩
  have L:=L.pnext h1 h2 (Oo.refl _ _)
  have hm:=hm.fr h2 (fun hx=>by have:=hp.lt _ hx; omega)
  have ca:=L.cell 0 rfl
  simp (implicitDefEqProofs:=false) only [go_sem,ca]
  refine LkpI_intro hm ?_
  simp (implicitDefEqProofs:=false) only [go_sem]
  refine L.newS fun bz Hz L=>?_
  simp (implicitDefEqProofs:=false) only [go_sem]
  refine L.pput 0 [wordOf wordW 46] rfl (by simp) (by have:=wl; simp; omega) fun Hy Oy L=>?_
  simp (implicitDefEqProofs:=false) only [go_sem]
  refine L.pdone (((Pw.must _ _ _).trans (Pw.put _ _ _)).to ?_ (fun h=>?_) (by have:=wl; simp; omega))
  ·rw [hok,← len_zero]; grind
  ·rw [hsb]; simp; decide
 by_cases h49:k=49
 ·subst h49
  have hok:=okB_wd (n:=n) (p:=a) (t:=t) (ks:=ks) (show wordK 49=some _ from rfl)
  have hsb:=sB_word (n:=n) (p:=a) (t:=t) (ks:=ks) (show wordK 49=some _ from rfl)
  have hs:=str_nil_iff t
  simp (implicitDefEqProofs:=false) only [go_sem,ca]
  have wl:(wordOf wordW 49).length≤6:=by decide
  refine NewI_intro fun r H1 hm hf hr=>?_
  simp (implicitDefEqProofs:=false) only [go_sem]
  refine InsI_intro hm hf hr rfl fun H1 hm hf=>?_
  simp (implicitDefEqProofs:=false) only [go_sem]
  refine InsI_intro hm hf hr rfl fun H1 hm hf=>?_
  simp (implicitDefEqProofs:=false) only [go_sem]
  refine InsI_intro hm hf hr rfl fun H1 hm hf=>?_
  simp (implicitDefEqProofs:=false) only [go_sem]
  refine InsI_intro hm hf hr rfl fun H1 hm hf=>?_
  have L:=L.ext hf
  have ca:=L.cell 0 rfl
  unfold sv at ca
  simp (implicitDefEqProofs:=false) only [go_sem,ca]
  have hm:MapI H1 r wordW:=hm
  refine (plain_ok (t:=t)).mono ?_
  rintro v H2 ⟨rfl,hf2⟩
  have hm:=hm.fr hf2 (by simp)
  have L:=L.ext hf2
  have ca:=L.cell 0 rfl
  simp (implicitDefEqProofs:=false) only [go_sem,ca]
  refine (must_ok L.st _).mono ?_
  rintro v H3 ⟨rfl,h1,h2⟩
  have L:=L.pnext h1 h2 (Oo.refl _ _)
  have hm:=hm.fr h2 (fun hx=>by have:=hp.lt _ hx; omega)
  have ca:=L.cell 0 rfl
  simp (implicitDefEqProofs:=false) only [go_sem,ca]
  refine LkpI_intro hm ?_
  simp (implicitDefEqProofs:=false) only [go_sem]
  refine L.newS fun bz Hz L=>?_
  simp (implicitDefEqProofs:=false) only [go_sem]
  refine L.pput 0 [wordOf wordW 49] rfl (by simp) (by have:=wl; simp; omega) fun Hy Oy L=>?_
  simp (implicitDefEqProofs:=false) only [go_sem]
  refine L.pdone (((Pw.must _ _ _).trans (Pw.put _ _ _)).to ?_ (fun h=>?_) (by have:=wl; simp; omega))
  ·rw [hok,← len_zero]; grind
  ·rw [hsb]; simp; decide
 by_cases h50:k=50
 ·subst h50
  have hok:=okB_wd (n:=n) (p:=a) (t:=t) (ks:=ks) (show wordK 50=some _ from rfl)
  have hsb:=sB_word (n:=n) (p:=a) (t:=t) (ks:=ks) (show wordK 50=some _ from rfl)
  have hs:=str_nil_iff t
  simp (implicitDefEqProofs:=false) only [go_sem,ca]
  have wl:(wordOf wordW 50).length≤6:=by decide
  refine NewI_intro fun r H1 hm hf hr=>?_
  simp (implicitDefEqProofs:=false) only [go_sem]
  refine InsI_intro hm hf hr rfl fun H1 hm hf=>?_
  simp (implicitDefEqProofs:=false) only [go_sem]
  refine InsI_intro hm hf hr rfl fun H1 hm hf=>?_
  simp (implicitDefEqProofs:=false) only [go_sem]
  refine InsI_intro hm hf hr rfl fun H1 hm hf=>?_
  simp (implicitDefEqProofs:=false) only [go_sem]
  refine InsI_intro hm hf hr rfl fun H1 hm hf=>?_
  have L:=L.ext hf
  have ca:=L.cell 0 rfl
  unfold sv at ca
  simp (implicitDefEqProofs:=false) only [go_sem,ca]
  have hm:MapI H1 r wordW:=hm
  refine (plain_ok (t:=t)).mono ?_
  rintro v H2 ⟨rfl,hf2⟩
  have hm:=hm.fr hf2 (by simp)
  have L:=L.ext hf2
  have ca:=L.cell 0 rfl
  simp (implicitDefEqProofs:=false) only [go_sem,ca]
  refine (must_ok L.st _).mono ?_
  rintro v H3 ⟨rfl,h1,h2⟩
  have L:=L.pnext h1 h2 (Oo.refl _ _)
  have hm:=hm.fr h2 (fun hx=>by have:=hp.lt _ hx; omega)
  have ca:=L.cell 0 rfl
  simp (implicitDefEqProofs:=false) only [go_sem,ca]
  refine LkpI_intro hm ?_
  simp (implicitDefEqProofs:=false) only [go_sem]
  refine L.newS fun bz Hz L=>?_
  simp (implicitDefEqProofs:=false) only [go_sem]
  refine L.pput 0 [wordOf wordW 50] rfl (by simp) (by have:=wl; simp; omega) fun Hy Oy L=>?_
  simp (implicitDefEqProofs:=false) only [go_sem]
  refine L.pdone (((Pw.must _ _ _).trans (Pw.put _ _ _)).to ?_ (fun h=>?_) (by have:=wl; simp; omega))
  ·rw [hok,← len_zero]; grind
  ·rw [hsb]; simp; decide
 have hno:okB (.mk k t n a ks)=true→False:=by
  intro h
  rw [okB.eq_def] at h
  simp [hb,h30,h33,h42,h43,h44,h47,h48,h51,wordK,h45,h46,h49,h50] at h
 simp (implicitDefEqProofs:=false) only [go_sem,ca,h44,h47,h48,h51,h45,h46,h49,h50]
 refine L.pmust false fun H2 L hm=>?_
 simp (implicitDefEqProofs:=false) only [go_sem]
 exact L.pdone (Pw.no hno)
theorem expr_all:∀ N,ExprOk N
 | 0=>fun x h=>by cases x; simp only [sizeN] at h; omega
 | N + 1=>expr_step (expr_all N) (prim_step (expr_all N))
end Go.Proofs.YtmhdkbmnpekpoaaGreatDoor
end
section
set_option linter.unusedSimpArgs false
set_option linter.unusedVariables false
set_option maxRecDepth 8000
namespace Go.Proofs.YtmhdkbmnpekpoaaGreatDoor
open Gx Go
theorem two_pc {g:Nat} (hg:hasBody Tryz.prog g=true) {okF:Nd→Bool} {tF:Nd→Bs} {wF:Nd→Nat} (word:Bs) {k n a:Int} {t:Bs} {ks:List Nd} {q:Nat}
 (hpart:∀ x ∈ ks,∀ {H:Heap} {O:List Nat} {s:Bs} {bad:Bool} {v:Value},Pr H O q s bad→GlobH H→NO H O x v→PC g [.pointer (some ⟨q,0,none⟩),v] H O q s bad (okF x) (tF x) (wF x))
 {H:Heap} {O:List Nat} {s:Bs} {bad:Bool} (hp:Pr H O q s bad) (hG:GlobH H) {v:Value} (hx:NO H O (.mk k t n a ks) v) :
 PC 67 [.pointer (some ⟨q,0,none⟩),sv word,v,.func (.func g) #[.pointer (some ⟨q,0,none⟩)] #[]] H O q s bad (decide (ks.length=2) && ks.all okF) (word ++ 40 :: ((ks.map tF).getD 0 [] ++ 44 :: 32 :: ((ks.map tF).getD 1 [] ++ [41]))) (word.length + 4 + (ks.map wF).sum):=by
 intro hw
 obtain ⟨aa,cc,rfl,hk,hcc,hmx⟩:=hx.open
 refine calls_of_vc (args:=[_,_,_,_]) Tryz.func67 c67ok (Nat.le_of_ble_eq_true rfl) ?_
 have L:=PL.start hp
 simp (implicitDefEqProofs:=false) only [go_sem,c67]
 refine L.newP fun bx H1 L=>?_
 have ca:=L.cell 0 rfl
 by_cases h2:ks.length=2
 ·match ks,h2 with
  | [x,y],_=>
  simp only [List.map_cons,List.map_nil,List.sum_cons,List.sum_nil] at hw
  simp (implicitDefEqProofs:=false) only [go_sem,ca]
  refine L.pmustE true (by simp) fun H4 L hm=>?_
  cases bad with
  | true=>
    simp (implicitDefEqProofs:=false) only [go_sem]
    exact L.pdone (hm.stop (fun _=>rfl) (by omega))
  | false=>
    simp (implicitDefEqProofs:=false) only [go_sem,sv]
    refine L.newS fun bz Hz L=>?_
    simp (implicitDefEqProofs:=false) only [go_sem]
    refine L.pput 0 [word,[40]] rfl (by simp) (by first | omega | (simp; omega) | simp) fun Hy Oy L=>?_
    have L:=L.drop (List.sublist_cons_self _ _) (fun _ h=>h)
    obtain ⟨b,o',c,k1,t1,n1,a1,kks,kv1,e1,e2,⟨q0,q1,q2,q3,q4⟩,hr,hone,hbO⟩:=kidO hk 0 (by simp)
    cases e1
    have ca:=L.cell 0 rfl
    have q0:=cellB_fr q0 L.fr hbO
    have q1:=cellB_fr q1 L.fr hbO
    have q2:=cellB_fr q2 L.fr hbO
    have q3:=cellB_fr q3 L.fr hbO
    have q4:=cellB_fr q4 L.fr hbO
    unfold sv at q1
    simp only [Nat.zero_mul,Nat.one_mul,Nat.add_zero,Nat.reduceMul,Nat.reduceAdd] at q0 q1 q2 q3 q4
    simp (implicitDefEqProofs:=false) only [go_sem,ca,q0,q1,q2,q3,q4]
    refine ⟨hg,L.pgo (hpart x (by simp) L.st (hp.glob hG L.fr) (L.pno hr)) (by first | omega | (simp; omega) | simp) fun H5 O5 s5 b5 L hx=>?_⟩
    have hl5:=hx.len
    simp at hl5
    simp (implicitDefEqProofs:=false) only [go_sem]
    refine L.newS fun bz Hz L=>?_
    simp (implicitDefEqProofs:=false) only [go_sem]
    refine L.pput 0 [[44,32]] rfl (by simp) (by first | omega | (simp; omega) | simp) fun Hy Oy L=>?_
    have L:=L.drop (List.sublist_cons_self _ _) (fun _ h=>h)
    obtain ⟨b,o',c,k1,t1,n1,a1,kks,kv1,e1,e2,⟨q0,q1,q2,q3,q4⟩,hr,hone,hbO⟩:=kidO hk 1 (by simp)
    cases e1
    have ca:=L.cell 0 rfl
    have q0:=cellB_fr q0 L.fr hbO
    have q1:=cellB_fr q1 L.fr hbO
    have q2:=cellB_fr q2 L.fr hbO
    have q3:=cellB_fr q3 L.fr hbO
    have q4:=cellB_fr q4 L.fr hbO
    unfold sv at q1
    simp only [Nat.zero_mul,Nat.one_mul,Nat.add_zero,Nat.reduceMul,Nat.reduceAdd] at q0 q1 q2 q3 q4
    simp (implicitDefEqProofs:=false) only [go_sem,ca,q0,q1,q2,q3,q4]
    refine ⟨hg,L.pgo (hpart y (by simp) L.st (hp.glob hG L.fr) (L.pno hr)) (by first | omega | (simp; omega) | simp) fun H6 O6 s6 b6 L hy=>?_⟩
    have hl6:=hy.len
    simp at hl6
    simp (implicitDefEqProofs:=false) only [go_sem]
    refine L.newS fun bz Hz L=>?_
    simp (implicitDefEqProofs:=false) only [go_sem]
    refine L.pput 0 [[41]] rfl (by simp) (by first | omega | (simp; omega) | simp) fun Hy Oy L=>?_
    have L:=L.drop (List.sublist_cons_self _ _) (fun _ h=>h)
    simp (implicitDefEqProofs:=false) only [go_sem]
    exact L.pdone ((hm.trans ((Pw.put _ _ _).trans (hx.trans ((Pw.put _ _ _).trans (hy.trans (Pw.put _ _ _)))))).to (by simp) (fun _=>by simp) (by first | omega | (simp; omega) | simp))
 ·simp (implicitDefEqProofs:=false) only [go_sem,ca]
  refine L.pmustE false (by grind) fun H4 L hm=>?_
  simp (implicitDefEqProofs:=false) only [go_sem]
  exact L.pdone (Pw.no (fun h=>by simp [h2] at h))
theorem lead_at (ks:List Nd) (i:Nat) (h:i < ks.length) (hall:∀ j (h:j < ks.length),j < i→kindOf ks[j]=47):(kindOf ks[i]=47→i < (leadQ ks).length)∧(kindOf ks[i]≠47→leadQ ks=ks.take i∧restQ ks=ks.drop i):=by
 induction ks generalizing i with
 | nil=>simp at h
 | cons x r ih=>
   cases i with
   | zero=>
     constructor
     ·intro hk
      simp only [List.getElem_cons_zero] at hk
      simp [leadQ,List.takeWhile_cons,hk]
     ·intro hk
      simp only [List.getElem_cons_zero] at hk
      simp [leadQ,restQ,List.takeWhile_cons,List.dropWhile_cons,hk]
   | succ i=>
     have h0:=hall 0 (by simp) (by omega)
     simp only [List.getElem_cons_zero] at h0
     obtain ⟨i1,i2⟩:=ih i (by simpa using h) fun j hj hji=>by
      have:=hall (j + 1) (by simp; omega) (by omega)
      simpa using this
     simp only [List.getElem_cons_succ]
     constructor
     ·intro hk
      have:=i1 hk
      simp [leadQ,List.takeWhile_cons,h0] at this ⊢
      exact this
     ·intro hk
      obtain ⟨a,b⟩:=i2 hk
      simp [leadQ,restQ,List.takeWhile_cons,List.dropWhile_cons,h0] at a b ⊢
      exact ⟨a,b⟩
theorem lead_all (ks:List Nd) (hall:∀ j (h:j < ks.length),kindOf ks[j]=47):leadQ ks=ks∧restQ ks=[]:=by
 induction ks with
 | nil=>exact ⟨rfl,rfl⟩
 | cons x r ih=>
   have h0:=hall 0 (by simp)
   simp only [List.getElem_cons_zero] at h0
   obtain ⟨a,b⟩:=ih fun j hj=>by
    have:=hall (j + 1) (by simp; omega)
    simpa using this
   simp [leadQ,restQ,List.takeWhile_cons,List.dropWhile_cons,h0] at a b ⊢
   exact ⟨a,b⟩
end Go.Proofs.YtmhdkbmnpekpoaaGreatDoor
end
section
set_option linter.unusedSimpArgs false
set_option linter.unusedVariables false
set_option maxRecDepth 8000
namespace Go.Proofs.YtmhdkbmnpekpoaaGreatDoor
open Gx Go
theorem Rep.dropL {H:Heap} {M:List Nat} {m:Nat} {l:List Dat} {a:Option Addr} {n c k:Nat} (h:Rep H M (.list m l) [.slice a n c]) (hk:k≤l.length):Rep H M (.list m (l.drop k)) [.slice (if c=k then a else a.map (·.add (k * m))) (n - k) (c - k)]:=by
 simp only [Rep] at h ⊢
 obtain ⟨a',c',css,h1,h2,h3,h4,h5,h6⟩:=h
 simp only [List.cons.injEq,and_true,Value.slice.injEq] at h1
 obtain ⟨rfl,rfl,rfl⟩:=h1
 have hlen:=Reps.length h4
 refine ⟨_,c - k,css.drop k,by rw [List.length_drop],by rw [List.length_drop]; omega,by omega,Reps.drop k h4,fun x hx=>h5 x (List.mem_of_mem_drop hx),?_⟩
 rw [← flatten_drop k h5]
 by_cases hc:c=k
 ·refine .inl ?_
  rw [flatten_drop k h5,List.drop_eq_nil_of_le (by omega)]; rfl
 ·rw [if_neg hc]
  rcases h6 with h6 | ⟨b,o,h7,h8,h9⟩
  ·exact .inl (by rw [h6]; simp)
  ·refine .inr ⟨b,o + k * m,by rw [h7]; simp [add_mk],h8,fun j hj=>?_⟩
   simp only [List.length_drop] at hj
   rw [Nat.add_assoc,h9 (k * m + j) (by omega)]
   simp
def wRs:List Nd→Nat
 | []=>0
 | x :: r=>wQs (kidsOf x) + 8 + wRs r
theorem sRs_take:∀ (ks:List Nd) (i:Nat) (h:i < ks.length),sRs (ks.take (i + 1))=sRs (ks.take i) ++ sR ks[i]
 | x :: r,0,_=>by simp [sRs]
 | x :: r,i + 1,h=>by
   have:=sRs_take r i (by simpa using h)
   simp only [List.take_succ_cons,sRs,List.getElem_cons_succ,this,List.append_assoc]
theorem wRs_take:∀ (ks:List Nd) (i:Nat) (h:i < ks.length),wRs (ks.take (i + 1))=wRs (ks.take i) + (wQs (kidsOf ks[i]) + 8)
 | x :: r,0,_=>by simp [wRs]
 | x :: r,i + 1,h=>by
   have:=wRs_take r i (by simpa using h)
   simp only [List.take_succ_cons,wRs,List.getElem_cons_succ,this]; omega
theorem wRs_le:∀ (ks:List Nd) (i:Nat),wRs (ks.take i)≤wRs ks
 | [],i=>by simp [wRs]
 | x :: r,0=>by simp [wRs]
 | x :: r,i + 1=>by
   have:=wRs_le r i
   simp only [List.take_succ_cons,wRs]; omega
theorem Pw.nope {s s' t t':Bs} {b b' k k':Bool} {w w':Nat} (h:Pw s b s' b' k t w) (hk:k=false) (hno:k'=true→False) (hw:w≤w'):Pw s b s' b' k' t' w':=by
 have hb:b'=true:=by rw [h.bad,hk]; cases b <;> rfl
 subst hb
 exact h.stop (fun h=>(hno h).elim) hw
theorem last_ge (ks:List Nd) (h:ks.length≤maxLen):decide ((0:Int)≤IntKind.i64.wrap ((ks.length:Int) - 1))= !ks.isEmpty:=by
 cases ks with
 | nil=>decide
 | cons x r=>
   unfold maxLen at h
   have hl:(x :: r).length=r.length + 1:=rfl
   rw [wrap_i64_id _ (by omega) (by omega),hl]
   simp
theorem closed_tail {ks:List Nd} {H0:Heap} {O0:List Nat} {q cc:Nat} {aa:Option Addr} {s:Bs} {bad:Bool} (hp:Pr H0 O0 q s bad)
 (hk:Rep H0 O0 (kidsD ks) [.slice aa ks.length cc]) (hcc:ks.length≤cc) (hmx:ks.length≤maxLen) (hmc:cc≤maxLen) (k:Nat) (hkl:k≤ks.length) (hl:leadQ ks=ks.take k) (hr:restQ ks=ks.drop k)
 (hw:s.length + (8 + wQs (leadQ ks) + wRs (restQ ks))≤140737488355328) (o3 o4 o5 o6 o7 o8 o9 o10 o11:Option Value) :
 vc Tryz.prog (fun _ _=>False) c70s36 [some (.pointer (some ⟨q,0,none⟩)),some (.slice aa ks.length cc),some (.int .i64 k),o3,o4,o5,o6,o7,o8,o9,o10,o11] H0 (finQ [] fun r H'=>r= .tuple #[]∧∃ O' s' bad',Pr H' O' q s' bad'∧Fr O0 H0 H'∧Oo H0 O0 O'∧Pw s bad s' bad' ((leadQ ks).all okQ && (restQ ks).all okR) ([99,108,111,115,101,100] ++ 40 :: (sQs true (leadQ ks) ++ (sRs (restQ ks) ++ [41]))) (8 + wQs (leadQ ks) + wRs (restQ ks))):=by
 have L:=PL.start hp
 have hk0:(0:Int)≤(k:Int):=by omega
 have hk1:(k:Int)≤(cc:Int):=by omega
 have hk2:(k:Int)≤(ks.length:Int):=by omega
 rw [c70s36eq]
 simp (implicitDefEqProofs:=false) only [go_sem]
 refine L.newS fun bz Hz L=>?_
 simp (implicitDefEqProofs:=false) only [go_sem]
 refine L.pput 0 [[99,108,111,115,101,100,40]] rfl (by simp) (by first | omega | (simp; omega) | simp) fun Hy Oy L=>?_
 have L:=L.drop (List.sublist_cons_self _ _) (fun _ h=>h)
 simp (implicitDefEqProofs:=false) only [go_sem,hk0,hk1,hk2]
 have hkt:Rep H0 O0 (kidsD (ks.take k)) [.slice aa k cc]:=by
  have:=Rep.takeL hk (k:=k) (by simpa using hkl)
  rw [← List.map_take] at this; exact this
 refine L.pgo (quotes_pc L.st (L.prep hkt)) (by rw [← hl]; first | omega | (simp; omega) | simp) fun H5 O5 s5 b5 L hq=>?_
 have hkd:Rep H0 O0 (kidsD (ks.drop k)) [.slice (if cc=k then aa else aa.map (·.add (k * 5))) (ks.length - k) (cc - k)]:=by
  have:=Rep.dropL hk (k:=k) (by simpa using hkl)
  rw [← List.map_drop] at this; exact this
 rw [← hl] at hq
 simp (implicitDefEqProofs:=false) only [go_sem,hk0,hk1,hk2]
 have hrl:ks.length - k=(restQ ks).length:=by rw [hr,List.length_drop]
 rw [← hr] at hkd
 rw [hrl] at hkd ⊢
 have hrm:(restQ ks).length≤maxLen:=by omega
 have hq1:=(Pw.put s bad [99,108,111,115,101,100,40]).trans hq
 have hq2:Pw s bad s5 b5 ((leadQ ks).all okQ) ([99,108,111,115,101,100] ++ 40 :: sQs true (leadQ ks)) (7 + wQs (leadQ ks)):=by
  refine (((Pw.put s bad [99,108,111,115,101,100,40]).trans hq)).to (by simp) (fun _=>by simp) (by simp)
 clear hq1 hq
 generalize restQ ks=rs at *
 generalize leadQ ks=ls at *
 generalize (if cc=k then aa else aa.map (·.add (k * 5)))=ar at *
 generalize cc - k=cr at *
 refine vc_loop (fun (i:Nat) H'=>i≤rs.length∧∃ O' s' b' l,PL O0 H0 q O' s' b' H' l∧Pw s5 b5 s' b' ((rs.take i).all okR) (sRs (rs.take i)) (wRs (rs.take i)))
  (fun i=>[(0,.pointer (some ⟨q,0,none⟩)),(32,.slice ar rs.length cr),(33,.int .i64 rs.length),(34,.int .i64 i)]) (fun i=>rs.length - i) 0 ?_ ?_ ?_
 ·exact ⟨Nat.zero_le _,_,_,_,_,L,by simpa [sRs,wRs] using Pw.refl s5 _⟩
 ·simp (implicitDefEqProofs:=false) only [go_sem]
 ·rintro i H1 ⟨hi,O1,s1,b1,l1,L,hst⟩
  have hlen2:=hq2.len
  have hlen3:=hst.len
  rcases Nat.lt_or_ge i rs.length with hlt | hge
  ·have h0:(0:Int)≤(i:Int):=by omega
   have h1:(i:Int) < (rs.length:Int):=by omega
   have hwr:=wrap_at hlt hrm
   have hws:=wRs_take rs i hlt
   have hwl:=wRs_le rs (i + 1)
   obtain ⟨b,o,c,k1,t1,n1,a1,kks,kv1,e1,e2,⟨q0,q1,q2,q3,q4⟩,hrr,hone,hbO⟩:=kidO hkd i hlt
   cases e1
   have q0:=cellB_fr q0 L.fr hbO
   have q1:=cellB_fr q1 L.fr hbO
   have q2:=cellB_fr q2 L.fr hbO
   have q3:=cellB_fr q3 L.fr hbO
   have q4:=cellB_fr q4 L.fr hbO
   simp only [Nat.add_zero] at q0
   unfold sv at q1
   rw [e2] at hrr hws
   obtain ⟨a2,c2,hv2,hkk,hc2,hm2⟩:=hrr.open
   simp only [Value.agg.injEq,Array.mk.injEq,List.cons.injEq,and_true,true_and] at hv2
   subst hv2
   simp only [kidsOf] at hws
   have hokR:okR rs[i]=(decide (k1=20) && plainN (.mk k1 t1 n1 a1 kks) && !kks.isEmpty && kks.all okQ):=by rw [e2]; rfl
   have hnoR:okR rs[i]=false→((ls.all okQ && rs.all okR)=true→False):=fun hf h=>by
    simp only [Bool.and_eq_true] at h
    have:=List.all_eq_true.1 h.2 rs[i] (List.getElem_mem hlt)
    rw [hf] at this; cases this
   simp (implicitDefEqProofs:=false) only [go_sem,h0,h1,q0,q1,q2,q3,q4]
   refine NewP_intro fun H5 hn5 hf5 _=>?_
   have L5:=L.push hf5 hn5
   simp (implicitDefEqProofs:=false) only [go_sem]
   refine Sto_all hn5 rfl (one_agg hone) fun H6 hn6 hf6 _=>?_
   have L:=L5.sto 0 rfl hf6 hn6
   simp only [List.set_cons_zero,List.set_cons_succ,List.set_nil,List.eraseIdx_cons_zero,List.eraseIdx_cons_succ] at L
   have ck:=L.cell 0 rfl
   unfold sv at ck
   by_cases h20:k1=20
   ·subst h20
    have hge:decide ((0:Int)≤IntKind.i64.wrap ((kks.length:Int) - 1))= !kks.isEmpty:=last_ge kks hm2
    simp (implicitDefEqProofs:=false) only [go_sem,ck]
    refine (plain_ok (t:=t1)).mono ?_
    rintro r H7 ⟨rfl,hf7⟩
    have L:=L.ext hf7
    have ck:=L.cell 0 rfl
    unfold sv at ck
    by_cases hC:t1=[]∧n1=0∧kks≠[]
    ·obtain ⟨rfl,rfl,hne⟩:=hC
     have hnem:kks.isEmpty=false:=by simpa using hne
     have hpos:0 < kks.length:=List.length_pos_iff.2 hne
     have hwl1:IntKind.i64.wrap ((kks.length:Int) - 1)=((kks.length - 1:Nat):Int):=by
      unfold maxLen at hm2
      rw [wrap_i64_id _ (by omega) (by omega)]; omega
     rw [hwl1]
     simp (implicitDefEqProofs:=false) only [go_sem,ck]
     refine L.pmustE true (by simp) fun H8 L hm=>?_
     have hokR':okR rs[i]=kks.all okQ:=by rw [hokR,hnem]; simp [plainN,textOf,numOf]
     cases b1 with
     | true=>
       simp (implicitDefEqProofs:=false) only [go_sem]
       exact L.pdone ((hq2.trans (hst.trans hm)).stop (fun h=>by
        simp only [Bool.and_eq_true] at h
        have ht:(rs.take i).all okR=true:=List.all_eq_true.2 fun y hy=>List.all_eq_true.1 h.2 y (List.mem_of_mem_take hy)
        simp [h.1,ht]) (by omega))
     | false=>
       have hl0:(0:Int)≤((kks.length - 1:Nat):Int):=by omega
       have hl1:((kks.length - 1:Nat):Int) < (kks.length:Int):=by omega
       have hl2:((kks.length - 1:Nat):Int)≤(c2:Int):=by omega
       have hkt:Rep H0 O0 (kidsD (kks.take (kks.length - 1))) [.slice a2 (kks.length - 1:Nat) c2]:=by
        have:=Rep.takeL hkk (k:=kks.length - 1) (by simp)
        rw [← List.map_take] at this; exact this
       have hwq:=wQs_take kks (kks.length - 1) (by omega)
       rw [show kks.length - 1 + 1=kks.length by omega,List.take_length] at hwq
       simp (implicitDefEqProofs:=false) only [go_sem]
       refine L.newS fun bz Hz L=>?_
       simp (implicitDefEqProofs:=false) only [go_sem]
       refine L.pput 0 [[59,32]] rfl (by simp) (by first | omega | (simp; omega) | simp) fun Hy Oy L=>?_
       have L:=L.drop (List.sublist_cons_self _ _) (fun _ h=>h)
       have ck:=L.cell 0 rfl
       unfold sv at ck
       simp (implicitDefEqProofs:=false) only [go_sem,ck,hl0,hl1,hl2]
       refine L.pgo (quotes_pc L.st (L.prep hkt)) (by first | omega | (simp; omega) | simp) fun H9 O9 s9 b9 L hqs=>?_
       have hl9:=hqs.len
       simp at hl9
       have hsR:sR rs[i]=59 :: 32 :: (sQs true (kks.take (kks.length - 1)) ++ ((if kks.length - 1=0 then [] else [32]) ++ 61 :: 62 :: 32 :: 39 :: (textOf kks[kks.length - 1] ++ [39]))):=by
        rw [e2]
        have d1:kks.dropLast=kks.take (kks.length - 1):=List.dropLast_eq_take
        have d2:kks.getLast?=some kks[kks.length - 1]:=by rw [List.getLast?_eq_getElem?,List.getElem?_eq_getElem]
        have d3:(kks.take (kks.length - 1)).isEmpty=decide (kks.length - 1=0):=by
         rw [Bool.eq_iff_iff]
         simp only [List.isEmpty_iff,decide_eq_true_eq,← List.length_eq_zero_iff,List.length_take]
         omega
        simp only [sR,kidsOf,d1,d2,d3]
        simp
       have hokk:kks.all okQ=((kks.take (kks.length - 1)).all okQ && okQ kks[kks.length - 1]):=by
        have:=all_take okQ kks (kks.length - 1) (by omega)
        rw [show kks.length - 1 + 1=kks.length by omega,List.take_length] at this
        exact this
       rcases Nat.eq_zero_or_pos (kks.length - 1) with hz | hp1
       ·have hg:¬ ((0:Int) < ((kks.length - 1:Nat):Int)):=by omega
        simp (implicitDefEqProofs:=false) only [go_sem,hg]
        refine L.newS fun bz Hz L=>?_
        simp (implicitDefEqProofs:=false) only [go_sem]
        refine L.pput 0 [[61,62,32]] rfl (by simp) (by first | omega | (simp; omega) | simp) fun Hy Oy L=>?_
        have L:=L.drop (List.sublist_cons_self _ _) (fun _ h=>h)
        have ck:=L.cell 0 rfl
        unfold sv at ck
        obtain ⟨b,o',c,k2,t2,n2,a2,kks2,kv2,e3,e4,⟨p0,p1,p2,p3,p4⟩,hr2,hone2,hbO2⟩:=kidO hkk (kks.length - 1) (by omega)
        cases e3
        have p0:=cellB_fr p0 L.fr hbO2
        have p1:=cellB_fr p1 L.fr hbO2
        have p2:=cellB_fr p2 L.fr hbO2
        have p3:=cellB_fr p3 L.fr hbO2
        have p4:=cellB_fr p4 L.fr hbO2
        simp only [Nat.add_zero] at p0
        unfold sv at p1
        simp (implicitDefEqProofs:=false) only [go_sem,ck,hl0,hl1,p0,p1,p2,p3,p4]
        refine L.pgo (quote_pc L.st (L.pno hr2)) (by first | omega | (simp; omega) | simp) fun Hq Oq sq bq L hq2'=>?_
        simp (implicitDefEqProofs:=false) only [go_sem,hwr]
        refine loopK_intro (i + 1) ?_ ?_ ⟨by omega,_,_,_,_,L,?_⟩
        ·show rs.length - (i + 1) < rs.length - i
         omega
        ·simp (implicitDefEqProofs:=false) only [go_sem,hwr]
        ·refine (hst.trans (hm.trans ((Pw.put _ _ _).trans (hqs.trans ((Pw.put _ _ _).trans hq2'))))).to (by rw [all_take _ rs i hlt,hokR',hokk]; simp) (fun _=>?_) (by first | omega | (simp; omega) | simp)
         rw [sRs_take rs i hlt,hsR,if_pos hz]; simp
       ·have hg:(0:Int) < ((kks.length - 1:Nat):Int):=by omega
        simp (implicitDefEqProofs:=false) only [go_sem,hg]
        refine L.newS fun bz Hz L=>?_
        simp (implicitDefEqProofs:=false) only [go_sem]
        refine L.pput 0 [[32]] rfl (by simp) (by first | omega | (simp; omega) | simp) fun Hy Oy L=>?_
        have L:=L.drop (List.sublist_cons_self _ _) (fun _ h=>h)
        simp (implicitDefEqProofs:=false) only [go_sem]
        refine L.newS fun bz Hz L=>?_
        simp (implicitDefEqProofs:=false) only [go_sem]
        refine L.pput 0 [[61,62,32]] rfl (by simp) (by first | omega | (simp; omega) | simp) fun Hy Oy L=>?_
        have L:=L.drop (List.sublist_cons_self _ _) (fun _ h=>h)
        have ck:=L.cell 0 rfl
        unfold sv at ck
        obtain ⟨b,o',c,k2,t2,n2,a2,kks2,kv2,e3,e4,⟨p0,p1,p2,p3,p4⟩,hr2,hone2,hbO2⟩:=kidO hkk (kks.length - 1) (by omega)
        cases e3
        have p0:=cellB_fr p0 L.fr hbO2
        have p1:=cellB_fr p1 L.fr hbO2
        have p2:=cellB_fr p2 L.fr hbO2
        have p3:=cellB_fr p3 L.fr hbO2
        have p4:=cellB_fr p4 L.fr hbO2
        simp only [Nat.add_zero] at p0
        unfold sv at p1
        simp (implicitDefEqProofs:=false) only [go_sem,ck,hl0,hl1,p0,p1,p2,p3,p4]
        refine L.pgo (quote_pc L.st (L.pno hr2)) (by first | omega | (simp; omega) | simp) fun Hq Oq sq bq L hq2'=>?_
        simp (implicitDefEqProofs:=false) only [go_sem,hwr]
        refine loopK_intro (i + 1) ?_ ?_ ⟨by omega,_,_,_,_,L,?_⟩
        ·show rs.length - (i + 1) < rs.length - i
         omega
        ·simp (implicitDefEqProofs:=false) only [go_sem,hwr]
        ·refine (hst.trans (hm.trans ((Pw.put _ _ _).trans (hqs.trans ((Pw.put _ _ _).trans ((Pw.put _ _ _).trans hq2')))))).to (by rw [all_take _ rs i hlt,hokR',hokk]; simp) (fun _=>?_) (by first | omega | (simp; omega) | simp)
         rw [sRs_take rs i hlt,hsR,if_neg (by omega)]; simp
    ·have hC':okR rs[i]=false:=by
      cases hv:okR rs[i] with
      | false=>rfl
      | true=>
        rw [hokR] at hv
        simp only [plainN,textOf,numOf,Bool.and_eq_true,decide_eq_true_eq] at hv
        refine absurd ⟨of_decide_eq_true hv.1.1.2.1,of_decide_eq_true hv.1.1.2.2,fun he=>?_⟩ hC
        rw [he] at hv
        exact absurd hv.1.2 (by decide)
     simp (implicitDefEqProofs:=false) only [go_sem,ck]
     refine L.pmustE false (by rw [hge]; cases kks <;> simp_all) fun H8 L hm=>?_
     simp (implicitDefEqProofs:=false) only [go_sem]
     exact L.pdone ((hq2.trans (hst.trans hm)).nope (by simp) (hnoR hC') (by omega))
   ·have hC':okR rs[i]=false:=by rw [hokR]; simp [h20]
    simp (implicitDefEqProofs:=false) only [go_sem,ck,h20]
    refine L.pmust false fun H7 L hm=>?_
    simp (implicitDefEqProofs:=false) only [go_sem]
    exact L.pdone ((hq2.trans (hst.trans hm)).nope (by simp) (hnoR hC') (by omega))
  ·have h1:¬ ((i:Int) < (rs.length:Int)):=by omega
   obtain rfl:i=rs.length:=by omega
   rw [List.take_length] at hst hlen3
   simp (implicitDefEqProofs:=false) only [go_sem,h1]
   refine L.newS fun bz Hz L=>?_
   simp (implicitDefEqProofs:=false) only [go_sem]
   refine L.pput 0 [[41]] rfl (by simp) (by first | omega | (simp; omega) | simp) fun Hy Oy L=>?_
   have L:=L.drop (List.sublist_cons_self _ _) (fun _ h=>h)
   simp (implicitDefEqProofs:=false) only [go_sem]
   exact L.pdone ((hq2.trans (hst.trans (Pw.put _ _ _))).to (by simp) (fun _=>by simp) (by first | omega | (simp; omega) | simp))
theorem closed_pc {H:Heap} {O:List Nat} {q:Nat} {s:Bs} {bad:Bool} (hp:Pr H O q s bad) {ks:List Nd} {v:Value} (hk:Rep H O (kidsD ks) [v]) :
 PC 70 [.pointer (some ⟨q,0,none⟩),v] H O q s bad ((leadQ ks).all okQ && (restQ ks).all okR) ([99,108,111,115,101,100] ++ 40 :: (sQs true (leadQ ks) ++ (sRs (restQ ks) ++ [41]))) (8 + wQs (leadQ ks) + wRs (restQ ks)):=by
 intro hw
 obtain ⟨aa,cc,rfl,hcc,hmx,hmc⟩:∃ aa cc,v= .slice aa ks.length cc∧ks.length≤cc∧ks.length≤maxLen∧cc≤maxLen:=by
  obtain ⟨a,c,h1,h5,h4⟩:=Rep.slice hk
  simp only [List.length_map] at h1 h5
  exact ⟨a,c,h1,h5,by omega,h4⟩
 refine calls_of_vc (args:=[_,_]) Tryz.func70 c70ok (Nat.le_of_ble_eq_true rfl) ?_
 simp (implicitDefEqProofs:=false) only [go_sem,c70]
 refine vc_loop (fun (i:Nat) H'=>H'=H∧i≤ks.length∧∀ j (h:j < ks.length),j < i→kindOf ks[j]=47)
  (fun i=>[(0,.pointer (some ⟨q,0,none⟩)),(1,.slice aa ks.length cc),(4,.int .i64 i)]) (fun i=>ks.length - i) 0 ?_ ?_ ?_
 ·exact ⟨rfl,Nat.zero_le _,fun j h hj=>by omega⟩
 ·simp (implicitDefEqProofs:=false) only [go_sem]
 ·rintro i H1 ⟨rfl,hi,hall⟩
  rcases Nat.lt_or_ge i ks.length with hlt | hge
  ·have h0:(0:Int)≤(i:Int):=by omega
   have h1:(i:Int) < (ks.length:Int):=by omega
   obtain ⟨b,o,c,k1,t1,n1,a1,kks,kv1,e1,e2,⟨q0,q1,q2,q3,q4⟩,hr,hone,hbO⟩:=kidO hk i hlt
   cases e1
   simp only [Nat.add_zero] at q0
   obtain ⟨l1,l2⟩:=lead_at ks i hlt hall
   by_cases h47:k1=47
   ·subst h47
    have hwr:=wrap_at hlt hmx
    simp (implicitDefEqProofs:=false) only [go_sem,h0,h1,q0,hwr]
    refine loopK_intro (i + 1) ?_ ?_ ⟨rfl,by omega,fun j hj hji=>?_⟩
    ·show ks.length - (i + 1) < ks.length - i
     omega
    ·simp (implicitDefEqProofs:=false) only [go_sem]
    ·rcases Nat.lt_or_ge j i with h | h
     ·exact hall j hj h
     ·obtain rfl:j=i:=by omega
      rw [e2]; rfl
   ·have hl:=l2 (by rw [e2]; exact h47)
    simp (implicitDefEqProofs:=false) only [go_sem,h0,h1,q0,h47]
    exact closed_tail hp hk hcc hmx hmc i hi hl.1 hl.2 hw _ _ _ _ _ _ _ _ _
  ·have h1:¬ ((i:Int) < (ks.length:Int)):=by omega
   obtain rfl:i=ks.length:=by omega
   have hl:=lead_all ks fun j hj=>hall j hj hj
   simp (implicitDefEqProofs:=false) only [go_sem,h1]
   exact closed_tail hp hk hcc hmx hmc _ (Nat.le_refl _) (by rw [List.take_length]; exact hl.1) (by rw [List.drop_length]; exact hl.2) hw _ _ _ _ _ _ _ _ _
end Go.Proofs.YtmhdkbmnpekpoaaGreatDoor
end
section
set_option linter.unusedSimpArgs false
set_option linter.unusedVariables false
set_option maxRecDepth 8000
namespace Go.Proofs.YtmhdkbmnpekpoaaGreatDoor
open Gx Go
theorem wQs_wL:∀ ks:List Nd,wQs ks≤wL ks
 | []=>by simp [wQs,wL]
 | x :: r=>by
   have:=wQs_wL r
   obtain ⟨k,t,n,a,kk⟩:=x
   simp only [wQs,wL,wN,textOf]; omega
theorem wRs_wL:∀ ks:List Nd,wRs ks≤wL ks
 | []=>by simp [wRs,wL]
 | x :: r=>by
   have:=wRs_wL r
   obtain ⟨k,t,n,a,kk⟩:=x
   have:=wQs_wL kk
   simp only [wRs,wL,wN,kidsOf]; omega
theorem wL_app:∀ (l m:List Nd),wL (l ++ m)=wL l + wL m
 | [],m=>by simp [wL]
 | x :: l,m=>by
   have:=wL_app l m
   simp only [List.cons_append,wL,this]; omega
theorem wcl (ks:List Nd):wQs (leadQ ks) + wRs (restQ ks)≤wL ks:=by
 have h1:=wQs_wL (leadQ ks)
 have h2:=wRs_wL (restQ ks)
 have h3:leadQ ks ++ restQ ks=ks:=List.takeWhile_append_dropWhile
 have h4:=wL_app (leadQ ks) (restQ ks)
 rw [h3] at h4
 omega
theorem okLs_map:∀ ks:List Nd,okLs ks=ks.map okL
 | []=>rfl
 | x :: r=>by rw [okLs,okLs_map r]; rfl
theorem sum_wN:∀ ks:List Nd,(ks.map wN).sum=wL ks
 | []=>rfl
 | x :: r=>by rw [List.map_cons,List.sum_cons,sum_wN r]; rfl
theorem sum_20:∀ ks:List Nd,(ks.map fun _=>20).sum≤wL ks
 | []=>Nat.le_refl _
 | x :: r=>by
   have:=sum_20 r
   obtain ⟨k,t,n,a,kk⟩:=x
   rw [List.map_cons,List.sum_cons]
   simp only [wL,wN]; omega
theorem sizeL_mem {x:Nd}:∀ {ks:List Nd},x ∈ ks→sizeN x≤sizeL ks
 | y :: r,h=>by
   rcases List.mem_cons.1 h with rfl | h
   ·simp only [sizeL]; omega
   ·have:=sizeL_mem h
    simp only [sizeL]; omega
theorem inL_mem {x:Nd}:∀ {ks:List Nd},x ∈ ks→inL ks→inN x
 | y :: r,h,hi=>by
   rcases List.mem_cons.1 h with rfl | h
   ·exact hi.1
   ·exact inL_mem h hi.2
theorem inN_num {x:Nd} (h:inN x):-9223372036854775808≤numOf x∧numOf x≤9223372036854775807:=by
 obtain ⟨k,t,n,a,ks⟩:=x
 exact ⟨h.1,h.2.1⟩
theorem okMs_take:∀ (ks:List Nd) (i:Nat) (h:i < ks.length),okMs (ks.take (i + 1))=(okMs (ks.take i) && okM ks[i])
 | x :: r,0,_=>by simp [okMs]
 | x :: r,i + 1,h=>by
   have:=okMs_take r i (by simpa using h)
   simp only [List.take_succ_cons,okMs,List.getElem_cons_succ,this,Bool.and_assoc]
theorem sMs_take (f:Bool):∀ (ks:List Nd) (i:Nat) (h:i < ks.length),sMs f (ks.take (i + 1))=sMs f (ks.take i) ++ ((if i=0 then (if f then [] else [44,32]) else [44,32]) ++ sM ks[i])
 | x :: r,0,_=>by simp [sMs]
 | x :: r,i + 1,h=>by
   have:=sMs_take false r i (by simpa using h)
   simp only [List.take_succ_cons,sMs,List.getElem_cons_succ,this]
   cases i <;> simp
theorem okM_eq {k n p:Int} {t:Bs} {ks:List Nd}:okM (.mk k t n p ks)=(decide (k=22) && nameB t && decide (n=0) && decide (ks.length=1) && (okLs ks).all id):=by rw [okM]
def LatOk (N:Nat):Prop:=∀ x:Nd,sizeN x≤N→inN x→∀ {H:Heap} {O:List Nat} {q:Nat} {s:Bs} {bad:Bool} (hp:Pr H O q s bad) (hG:GlobH H) {v:Value} (hx:NO H O x v),
 PC 37 [.pointer (some ⟨q,0,none⟩),v] H O q s bad (okL x) (sL x) (wN x)
theorem lat_step {N:Nat} (ih:LatOk N):LatOk (N + 1):=by
 intro x hN hin H O q s bad hp hG v hx hw
 have hx0:=hx
 obtain ⟨k,t,n,a,ks⟩:=x
 obtain ⟨aa,cc,rfl,hk,hcc,hmx⟩:=hx.open
 simp only [sizeN] at hN
 have hwn:wN (.mk k t n a ks)=t.length + 64 + wL ks:=rfl
 rw [hwn] at hw ⊢
 have hqs:=wQs_wL ks
 refine calls_of_vc (args:=[_,_]) Tryz.func37 c37ok (Nat.le_of_ble_eq_true rfl) ?_
 have L:=PL.start hp
 simp (implicitDefEqProofs:=false) only [go_sem,c37]
 refine L.newP fun bx H1 L=>?_
 have ca:=L.cell 0 rfl
 by_cases h21:k=21
 ·subst h21
  have hok:okL (.mk 21 t n a ks)=(nameB t && decide (n=0) && ks.isEmpty):=by rw [okL.eq_def]; rfl
  rw [sL_named]
  simp (implicitDefEqProofs:=false) only [go_sem,ca]
  refine L.pmustE ks.isEmpty (len_zero ks) fun H4 L hm=>?_
  have ca:=L.cell 0 rfl
  simp (implicitDefEqProofs:=false) only [go_sem,ca]
  refine L.pgo (name_pc L.st) (by first | omega | (simp; omega) | simp) fun H6 O6 s6 b6 L hn=>?_
  simp (implicitDefEqProofs:=false) only [go_sem]
  exact L.pdone ((hm.trans hn).to (by rw [hok]; simp [okName,nameB]; grind) (fun _=>by simp) (by omega))
 simp (implicitDefEqProofs:=false) only [go_sem,ca,h21]
 refine (plain_ok (t:=t)).mono ?_
 rintro r H2 ⟨rfl,hf2⟩
 have L:=L.ext hf2
 simp (implicitDefEqProofs:=false) only [go_sem]
 refine L.pmust _ fun H3 L hm=>?_
 by_cases hpl:t=[]∧n=0
 ·obtain ⟨rfl,rfl⟩:=hpl
  simp only [decide_true,Bool.and_self] at hm L ⊢
  cases bad with
  | true=>
    simp (implicitDefEqProofs:=false) only [go_sem]
    exact L.pdone (hm.stop (fun _=>rfl) (by omega))
  | false=>
    have ca:=L.cell 0 rfl
    have hL:=@okL.eq_def (.mk k [] 0 a ks)
    by_cases h10:k=10
    ·subst h10
     have hok:okL (.mk 10 [] 0 a ks)=ks.isEmpty:=hL
     rw [sL_flag,hok]
     simp (implicitDefEqProofs:=false) only [go_sem,ca]
     refine L.pmustE ks.isEmpty (len_zero ks) fun H4 L hm2=>?_
     have ca:=L.cell 0 rfl
     simp (implicitDefEqProofs:=false) only [go_sem,ca]
     refine L.newS fun bz Hz L=>?_
     simp (implicitDefEqProofs:=false) only [go_sem]
     refine L.pput 0 [[102,108,97,103]] rfl (by simp) (by first | omega | (simp; omega) | simp) fun Hy Oy L=>?_
     have L:=L.drop (List.sublist_cons_self _ _) (fun _ h=>h)
     simp (implicitDefEqProofs:=false) only [go_sem]
     exact L.pdone ((hm.trans (hm2.trans (Pw.put _ _ _))).to (by simp) (fun _=>by simp) (by first | omega | (simp; omega) | simp))
    by_cases h18:k=18
    ·subst h18
     have hok:okL (.mk 18 [] 0 a ks)=ks.isEmpty:=hL
     rw [sL_register,hok]
     simp (implicitDefEqProofs:=false) only [go_sem,ca]
     refine L.pmustE ks.isEmpty (len_zero ks) fun H4 L hm2=>?_
     have ca:=L.cell 0 rfl
     simp (implicitDefEqProofs:=false) only [go_sem,ca]
     refine L.newS fun bz Hz L=>?_
     simp (implicitDefEqProofs:=false) only [go_sem]
     refine L.pput 0 [[114,101,103,105,115,116,101,114]] rfl (by simp) (by first | omega | (simp; omega) | simp) fun Hy Oy L=>?_
     have L:=L.drop (List.sublist_cons_self _ _) (fun _ h=>h)
     simp (implicitDefEqProofs:=false) only [go_sem]
     exact L.pdone ((hm.trans (hm2.trans (Pw.put _ _ _))).to (by simp) (fun _=>by simp) (by first | omega | (simp; omega) | simp))
    by_cases h11:k=11
    ·subst h11
     have hok:okL (.mk 11 [] 0 a ks)=(decide (ks.length=2) && ks.all okI):=hL
     simp (implicitDefEqProofs:=false) only [go_sem,ca]
     have hs20:=sum_20 ks
     refine L.pgo (two_pc (g:=68) (okF:=okI) (tF:=fun x=>Lib.itoa (numOf x)) (wF:=fun _=>20) (by kernel_rfl) [109,97,120] (fun x hx {H O s bad v} hp hG hv=>integer_pc hp hG hv (inN_num (inL_mem hx hin.2.2)).1 (inN_num (inL_mem hx hin.2.2)).2) L.st (hp.glob hG L.fr) (L.pno hx0)) (by simp at hs20 ⊢; omega) fun H5 O5 s5 b5 L hx=>?_
     simp (implicitDefEqProofs:=false) only [go_sem]
     refine L.pdone ((hm.trans hx).to (by rw [hok]; simp) (fun h=>?_) (by simp at hs20 ⊢; omega))
     simp only [Bool.true_and,Bool.and_eq_true,decide_eq_true_eq] at h
     match ks,h.1 with
     | [x,y],_=>rw [sL_max]; simp
    by_cases h12:k=12
    ·subst h12
     have hok:okL (.mk 12 [] 0 a ks)=(decide (ks.length=2) && ks.all okI):=hL
     simp (implicitDefEqProofs:=false) only [go_sem,ca]
     have hs20:=sum_20 ks
     refine L.pgo (two_pc (g:=68) (okF:=okI) (tF:=fun x=>Lib.itoa (numOf x)) (wF:=fun _=>20) (by kernel_rfl) [109,105,110] (fun x hx {H O s bad v} hp hG hv=>integer_pc hp hG hv (inN_num (inL_mem hx hin.2.2)).1 (inN_num (inL_mem hx hin.2.2)).2) L.st (hp.glob hG L.fr) (L.pno hx0)) (by simp at hs20 ⊢; omega) fun H5 O5 s5 b5 L hx=>?_
     simp (implicitDefEqProofs:=false) only [go_sem]
     refine L.pdone ((hm.trans hx).to (by rw [hok]; simp) (fun h=>?_) (by simp at hs20 ⊢; omega))
     simp only [Bool.true_and,Bool.and_eq_true,decide_eq_true_eq] at h
     match ks,h.1 with
     | [x,y],_=>rw [sL_min]; simp
    by_cases h16:k=16
    ·subst h16
     have hok:okL (.mk 16 [] 0 a ks)=(decide (ks.length=2) && (okLs ks).all id):=hL
     simp (implicitDefEqProofs:=false) only [go_sem,ca]
     refine L.pgo (two_pc (g:=37) (okF:=okL) (tF:=sL) (wF:=wN) (by kernel_rfl) [108,101,120] (fun x hx {H O s bad v} hp hG hv=>ih x (by have:=sizeL_mem hx; omega) (inL_mem hx hin.2.2) hp hG hv) L.st (hp.glob hG L.fr) (L.pno hx0)) (by rw [sum_wN]; simp; omega) fun H5 O5 s5 b5 L hx=>?_
     simp (implicitDefEqProofs:=false) only [go_sem]
     refine L.pdone ((hm.trans hx).to (by rw [hok,okLs_map]; simp) (fun h=>?_) (by rw [sum_wN]; first | omega | (simp; omega) | simp))
     simp only [Bool.true_and,Bool.and_eq_true,decide_eq_true_eq] at h
     match ks,h.1 with
     | [x,y],_=>rw [sL_lex]; simp
    by_cases h13:k=13
    ·subst h13
     have hok:okL (.mk 13 [] 0 a ks)=ks.all okQ:=hL
     rw [sL_set,hok]
     simp (implicitDefEqProofs:=false) only [go_sem,ca]
     refine L.newS fun bz Hz L=>?_
     simp (implicitDefEqProofs:=false) only [go_sem]
     refine L.pput 0 [[115,101,116]] rfl (by simp) (by first | omega | (simp; omega) | simp) fun Hy Oy L=>?_
     have L:=L.drop (List.sublist_cons_self _ _) (fun _ h=>h)
     have ca:=L.cell 0 rfl
     simp (implicitDefEqProofs:=false) only [go_sem,ca]
     refine L.pgo (allowed_pc L.st (L.prep hk)) (by first | omega | (simp; omega) | simp) fun H5 O5 s5 b5 L hx=>?_
     simp (implicitDefEqProofs:=false) only [go_sem]
     exact L.pdone ((hm.trans ((Pw.put _ _ _).trans hx)).to (by simp) (fun _=>by simp) (by first | omega | (simp; omega) | simp))
    by_cases h17:k=17
    ·subst h17
     have hok:okL (.mk 17 [] 0 a ks)=ks.all okQ:=hL
     rw [sL_flat,hok]
     simp (implicitDefEqProofs:=false) only [go_sem,ca]
     refine L.newS fun bz Hz L=>?_
     simp (implicitDefEqProofs:=false) only [go_sem]
     refine L.pput 0 [[102,108,97,116]] rfl (by simp) (by first | omega | (simp; omega) | simp) fun Hy Oy L=>?_
     have L:=L.drop (List.sublist_cons_self _ _) (fun _ h=>h)
     have ca:=L.cell 0 rfl
     simp (implicitDefEqProofs:=false) only [go_sem,ca]
     refine L.pgo (allowed_pc L.st (L.prep hk)) (by first | omega | (simp; omega) | simp) fun H5 O5 s5 b5 L hx=>?_
     simp (implicitDefEqProofs:=false) only [go_sem]
     exact L.pdone ((hm.trans ((Pw.put _ _ _).trans hx)).to (by simp) (fun _=>by simp) (by first | omega | (simp; omega) | simp))
    by_cases h19:k=19
    ·subst h19
     have hok:okL (.mk 19 [] 0 a ks)=((leadQ ks).all okQ && (restQ ks).all okR):=hL
     have hwc:=wcl ks
     rw [sL_closed,hok]
     simp (implicitDefEqProofs:=false) only [go_sem,ca]
     refine L.pgo (closed_pc L.st (L.prep hk)) (by omega) fun H5 O5 s5 b5 L hx=>?_
     simp (implicitDefEqProofs:=false) only [go_sem]
     exact L.pdone ((hm.trans hx).to (by simp) (fun _=>by simp) (by omega))
    by_cases h14:k=14
    ·subst h14
     have hok:okL (.mk 14 [] 0 a ks)=(ks.dropLast.all okQ && ((okLs ks).getLast?.getD false)):=hL
     have hge:=last_ge ks hmx
     simp (implicitDefEqProofs:=false) only [go_sem,ca]
     refine L.pmustE (!ks.isEmpty) hge fun H4 L hm2=>?_
     by_cases hne:ks=[]
     ·subst hne
      simp only [List.isEmpty_nil,Bool.not_true] at hm2 L ⊢
      simp (implicitDefEqProofs:=false) only [go_sem]
      exact L.pdone ((hm.trans hm2).nope (by simp) (fun h=>by rw [hok] at h; simp [okLs] at h) (by omega))
     ·have hem:ks.isEmpty=false:=by simpa using hne
      have hpos:0 < ks.length:=List.length_pos_iff.2 hne
      rw [hem] at hm2 L ⊢
      simp only [Bool.not_false,Bool.not_true,Bool.or_false,Bool.false_or] at hm2 L ⊢
      have hwl1:IntKind.i64.wrap ((ks.length:Int) - 1)=((ks.length - 1:Nat):Int):=by
       unfold maxLen at hmx
       rw [wrap_i64_id _ (by omega) (by omega)]; omega
      rw [hwl1]
      have hl0:(0:Int)≤((ks.length - 1:Nat):Int):=by omega
      have hl1:((ks.length - 1:Nat):Int) < (ks.length:Int):=by omega
      have hl2:((ks.length - 1:Nat):Int)≤(cc:Int):=by omega
      have hkt:Rep H O (kidsD (ks.take (ks.length - 1))) [.slice aa (ks.length - 1:Nat) cc]:=by
       have:=Rep.takeL hk (k:=ks.length - 1) (by simp)
       rw [← List.map_take] at this; exact this
      have hwq:=wL_take ks (ks.length - 1) (by omega)
      rw [show ks.length - 1 + 1=ks.length by omega,List.take_length] at hwq
      have hwq2:=wQs_wL (ks.take (ks.length - 1))
      have hks:ks=ks.take (ks.length - 1) ++ [ks[ks.length - 1]]:=by
       have:=List.take_succ_eq_append_getElem (l:=ks) (i:=ks.length - 1) (by omega)
       rw [show ks.length - 1 + 1=ks.length by omega,List.take_length] at this
       exact this
      simp (implicitDefEqProofs:=false) only [go_sem]
      refine L.newS fun bz Hz L=>?_
      simp (implicitDefEqProofs:=false) only [go_sem]
      refine L.pput 0 [[109,97,112]] rfl (by simp) (by first | omega | (simp; omega) | simp) fun Hy Oy L=>?_
      have L:=L.drop (List.sublist_cons_self _ _) (fun _ h=>h)
      have ca:=L.cell 0 rfl
      simp (implicitDefEqProofs:=false) only [go_sem,ca,hl0,hl1,hl2]
      refine L.pgo (allowed_pc L.st (L.prep hkt)) (by first | omega | (simp; omega) | simp) fun H5 O5 s5 b5 L hal=>?_
      have hl5:=hal.len
      simp at hl5
      simp (implicitDefEqProofs:=false) only [go_sem]
      refine L.newS fun bz Hz L=>?_
      simp (implicitDefEqProofs:=false) only [go_sem]
      refine L.pput 0 [[32]] rfl (by simp) (by first | omega | (simp; omega) | simp) fun Hy Oy L=>?_
      have L:=L.drop (List.sublist_cons_self _ _) (fun _ h=>h)
      have ca:=L.cell 0 rfl
      obtain ⟨b,o',c,k1,t1,n1,a1,kks,kv1,e1,e2,⟨q0,q1,q2,q3,q4⟩,hr,hone,hbO⟩:=kidO hk (ks.length - 1) (by omega)
      cases e1
      have q0:=cellB_fr q0 L.fr hbO
      have q1:=cellB_fr q1 L.fr hbO
      have q2:=cellB_fr q2 L.fr hbO
      have q3:=cellB_fr q3 L.fr hbO
      have q4:=cellB_fr q4 L.fr hbO
      simp only [Nat.add_zero] at q0
      unfold sv at q1
      simp (implicitDefEqProofs:=false) only [go_sem,ca,hl0,hl1,q0,q1,q2,q3,q4]
      refine L.pgo (ih _ (by have:=sizeL_get ks (ks.length - 1) (by omega); omega) (inL_get ks _ (by omega) hin.2.2) L.st (hp.glob hG L.fr) (L.pno hr)) (by first | omega | (simp; omega) | simp) fun H6 O6 s6 b6 L hy=>?_
      simp (implicitDefEqProofs:=false) only [go_sem]
      refine L.pdone ((hm.trans (hm2.trans ((Pw.put _ _ _).trans (hal.trans ((Pw.put _ _ _).trans hy))))).to ?_ (fun _=>?_) (by first | omega | (simp; omega) | simp))
      ·rw [hok,okLs_map]
       have d1:ks.dropLast=ks.take (ks.length - 1):=List.dropLast_eq_take
       have d2:ks.getLast?=some ks[ks.length - 1]:=by rw [List.getLast?_eq_getElem?,List.getElem?_eq_getElem]
       rw [d1,List.getLast?_map,d2]; simp
      ·have:=sL_map (n:=0) (p:=a) (t:=[]) (ks:=ks.take (ks.length - 1)) (x:=ks[ks.length - 1])
       rw [← hks] at this
       rw [this]; simp
    by_cases h15:k=15
    ·subst h15
     have hok:okL (.mk 15 [] 0 a ks)=(!ks.isEmpty && okMs ks):=hL
     have hgt:decide ((0:Int) < (ks.length:Int))= !ks.isEmpty:=by cases ks <;> simp <;> omega
     rw [sL_prod,hok]
     simp (implicitDefEqProofs:=false) only [go_sem,ca]
     refine L.pmustE (!ks.isEmpty) hgt fun H4 L hm2=>?_
     simp (implicitDefEqProofs:=false) only [go_sem]
     refine L.newS fun bz Hz L=>?_
     simp (implicitDefEqProofs:=false) only [go_sem]
     refine L.pput 0 [[123]] rfl (by simp) (by first | omega | (simp; omega) | simp) fun Hy Oy L=>?_
     have L:=L.drop (List.sublist_cons_self _ _) (fun _ h=>h)
     have ca:=L.cell 0 rfl
     have hq2:=hm.trans (hm2.trans (Pw.put _ _ [[123]].flatten))
     generalize hs5:s ++ [[123]].flatten=s5 at *
     generalize hb5:((false || !true) || !!ks.isEmpty)=b5 at *
     simp (implicitDefEqProofs:=false) only [go_sem,ca]
     refine vc_loop (fun (i:Nat) H'=>i≤ks.length∧∃ O' s' b' l,PL O H q O' s' b' H' l∧Pw s5 b5 s' b' (okMs (ks.take i)) (sMs true (ks.take i)) (wL (ks.take i)))
      (fun i=>[(0,.pointer (some ⟨q,0,none⟩)),(126,.slice aa ks.length cc),(127,.int .i64 ks.length),(128,.int .i64 i)]) (fun i=>ks.length - i) 0 ?_ ?_ ?_
     ·exact ⟨Nat.zero_le _,_,_,_,_,L,by simpa [sMs,okMs,wL] using Pw.refl s5 _⟩
     ·simp (implicitDefEqProofs:=false) only [go_sem]
     ·rintro i H1 ⟨hi,O1,s1,b1,l1,Li,hst⟩
      have hlen2:s5.length≤s.length + 1:=by simpa using hq2.len
      have hlen3:=hst.len
      rcases Nat.lt_or_ge i ks.length with hlt | hge
      ·have h0:(0:Int)≤(i:Int):=by omega
       have h1:(i:Int) < (ks.length:Int):=by omega
       have hwr:=wrap_at hlt hmx
       have hws:=wL_take ks i hlt
       have hwl:=wL_le ks (i + 1)
       have hoM:=okMs_take ks i hlt
       have hsM:=sMs_take true ks i hlt
       have hsi:=sizeL_get ks i hlt
       have hii:=inL_get ks i hlt hin.2.2
       obtain ⟨b,o,c,k1,t1,n1,a1,kks,kv1,e1,e2,⟨q0,q1,q2,q3,q4⟩,hrr,hone,hbO⟩:=kidO hk i hlt
       cases e1
       have L:=Li
       have q0:=cellB_fr q0 L.fr hbO
       have q1:=cellB_fr q1 L.fr hbO
       have q2:=cellB_fr q2 L.fr hbO
       have q3:=cellB_fr q3 L.fr hbO
       have q4:=cellB_fr q4 L.fr hbO
       simp only [Nat.add_zero] at q0
       unfold sv at q1
       rw [e2] at hrr hws hoM hsM hsi hii
       obtain ⟨a2,c2,hv2,hkk,hc2,hm2'⟩:=hrr.open
       simp only [Value.agg.injEq,Array.mk.injEq,List.cons.injEq,and_true,true_and] at hv2
       subst hv2
       simp only [sizeN,wN,inN] at hsi hws hii
       rw [okM_eq] at hoM
       simp (implicitDefEqProofs:=false) only [go_sem,h0,h1,q0,q1,q2,q3,q4]
       refine NewP_intro fun H5 hn5 hf5 _=>?_
       have L5:=L.push hf5 hn5
       simp (implicitDefEqProofs:=false) only [go_sem]
       refine Sto_all hn5 rfl (one_agg hone) fun H6 hn6 hf6 _=>?_
       have L:=L5.sto 0 rfl hf6 hn6
       simp only [List.set_cons_zero,List.set_cons_succ,List.set_nil,List.eraseIdx_cons_zero,List.eraseIdx_cons_succ] at L
       rcases Nat.eq_zero_or_pos i with hi0 | hpos
       ·have hg:¬ ((0:Int) < (i:Int)):=by omega
        have hpre:=Pw.refl s1 b1
        rw [if_pos hi0] at hsM
        simp (implicitDefEqProofs:=false) only [go_sem,hg]
        have ck:=L.cell 0 rfl
        unfold sv at ck
        simp (implicitDefEqProofs:=false) only [go_sem,ck]
        refine (bare_ok (t:=t1) 22 1).mono ?_
        rintro r Hb ⟨rfl,hfb⟩
        have L:=L.ext hfb
        have ck:=L.cell 0 rfl
        unfold sv at ck
        by_cases hM:k1=22∧kks.length=1
        ·obtain ⟨rfl,h2⟩:=hM
         match kks,h2 with
         | [y],_=>
         simp only [sizeL,wL,inL] at hsi hws hii
         simp (implicitDefEqProofs:=false) only [go_sem]
         refine L.pmustE true (by simp) fun Hc L hmm=>?_
         cases b1 with
         | true=>
           simp (implicitDefEqProofs:=false) only [go_sem,hwr]
           refine loopK_intro (i + 1) ?_ ?_ ⟨by omega,_,_,_,_,L,(hst.trans (hpre.trans hmm)).stop (fun h=>by rw [hoM] at h; simp only [Bool.and_eq_true] at h; simp [h.1]) (by first | omega | (simp; omega) | simp)⟩
           ·show ks.length - (i + 1) < ks.length - i
            omega
           ·simp (implicitDefEqProofs:=false) only [go_sem,hwr]
         | false=>
           have ck:=L.cell 0 rfl
           unfold sv at ck
           simp (implicitDefEqProofs:=false) only [go_sem,ck]
           refine L.pgo (name_pc (t:=t1) L.st) (by first | omega | (simp; omega) | simp) fun Hn On sn bn L hn=>?_
           have hln:=hn.len
           simp (implicitDefEqProofs:=false) only [go_sem]
           refine L.newS fun bz Hz L=>?_
           simp (implicitDefEqProofs:=false) only [go_sem]
           refine L.pput 0 [[58,32]] rfl (by simp) (by first | omega | (simp; omega) | simp) fun Hy Oy L=>?_
           have L:=L.drop (List.sublist_cons_self _ _) (fun _ h=>h)
           have ck:=L.cell 0 rfl
           unfold sv at ck
           obtain ⟨b,o',c,k2,t2,n2,a2,kks2,kv2,e3,e4,⟨p0,p1,p2,p3,p4⟩,hr2,hone2,hbO2⟩:=kidO hkk 0 (by simp)
           cases e3
           have p0:=cellB_fr p0 L.fr hbO2
           have p1:=cellB_fr p1 L.fr hbO2
           have p2:=cellB_fr p2 L.fr hbO2
           have p3:=cellB_fr p3 L.fr hbO2
           have p4:=cellB_fr p4 L.fr hbO2
           simp only [Nat.zero_mul,Nat.add_zero,Nat.zero_add] at p0 p1 p2 p3 p4
           unfold sv at p1
           simp (implicitDefEqProofs:=false) only [go_sem,ck,p0,p1,p2,p3,p4]
           refine L.pgo (ih y (by omega) hii.2.2.1 L.st (hp.glob hG L.fr) (L.pno hr2)) (by first | omega | (simp; omega) | simp) fun Hy Oy sy by_ L hy=>?_
           simp (implicitDefEqProofs:=false) only [go_sem,hwr]
           refine loopK_intro (i + 1) ?_ ?_ ⟨by omega,_,_,_,_,L,(hst.trans (hpre.trans (hmm.trans (hn.trans ((Pw.put _ _ _).trans hy))))).to ?_ (fun _=>?_) (by first | omega | (simp; omega) | simp)⟩
           ·show ks.length - (i + 1) < ks.length - i
            omega
           ·simp (implicitDefEqProofs:=false) only [go_sem,hwr]
           ·rw [hoM,okLs_map]; simp [okName,nameB] <;> grind
           ·rw [hsM,sM_eq]; simp
        ·have hno:okMs (ks.take (i + 1))=true→False:=fun h=>by
          rw [hoM] at h
          simp only [Bool.and_eq_true,decide_eq_true_eq] at h
          exact hM ⟨h.2.1.1.1.1,h.2.1.2⟩
         simp (implicitDefEqProofs:=false) only [go_sem]
         refine L.pmustE false (by grind) fun Hc L hmm=>?_
         simp (implicitDefEqProofs:=false) only [go_sem,hwr]
         refine loopK_intro (i + 1) ?_ ?_ ⟨by omega,_,_,_,_,L,(hst.trans (hpre.trans hmm)).nope (by simp) hno (by first | omega | (simp; omega) | simp)⟩
         ·show ks.length - (i + 1) < ks.length - i
          omega
         ·simp (implicitDefEqProofs:=false) only [go_sem,hwr]
       ·have hg:(0:Int) < (i:Int):=by omega
        rw [if_neg (by omega)] at hsM
        simp (implicitDefEqProofs:=false) only [go_sem,hg]
        refine L.newS fun bz Hz L=>?_
        simp (implicitDefEqProofs:=false) only [go_sem]
        refine L.pput 0 [[44,32]] rfl (by simp) (by first | omega | (simp; omega) | simp) fun Hy Oy L=>?_
        have L:=L.drop (List.sublist_cons_self _ _) (fun _ h=>h)
        have hpre:=Pw.put s1 b1 [[44,32]].flatten
        have hlp:(s1 ++ [[44,32]].flatten).length≤s1.length + 2:=by simp
        generalize hsp:s1 ++ [[44,32]].flatten=sp at *
        have ck:=L.cell 0 rfl
        unfold sv at ck
        simp (implicitDefEqProofs:=false) only [go_sem,ck]
        refine (bare_ok (t:=t1) 22 1).mono ?_
        rintro r Hb ⟨rfl,hfb⟩
        have L:=L.ext hfb
        have ck:=L.cell 0 rfl
        unfold sv at ck
        by_cases hM:k1=22∧kks.length=1
        ·obtain ⟨rfl,h2⟩:=hM
         match kks,h2 with
         | [y],_=>
         simp only [sizeL,wL,inL] at hsi hws hii
         simp (implicitDefEqProofs:=false) only [go_sem]
         refine L.pmustE true (by simp) fun Hc L hmm=>?_
         cases b1 with
         | true=>
           simp (implicitDefEqProofs:=false) only [go_sem,hwr]
           refine loopK_intro (i + 1) ?_ ?_ ⟨by omega,_,_,_,_,L,(hst.trans (hpre.trans hmm)).stop (fun h=>by rw [hoM] at h; simp only [Bool.and_eq_true] at h; simp [h.1]) (by first | omega | (simp; omega) | simp)⟩
           ·show ks.length - (i + 1) < ks.length - i
            omega
           ·simp (implicitDefEqProofs:=false) only [go_sem,hwr]
         | false=>
           have ck:=L.cell 0 rfl
           unfold sv at ck
           simp (implicitDefEqProofs:=false) only [go_sem,ck]
           refine L.pgo (name_pc (t:=t1) L.st) (by first | omega | (simp; omega) | simp) fun Hn On sn bn L hn=>?_
           have hln:=hn.len
           simp (implicitDefEqProofs:=false) only [go_sem]
           refine L.newS fun bz Hz L=>?_
           simp (implicitDefEqProofs:=false) only [go_sem]
           refine L.pput 0 [[58,32]] rfl (by simp) (by first | omega | (simp; omega) | simp) fun Hy Oy L=>?_
           have L:=L.drop (List.sublist_cons_self _ _) (fun _ h=>h)
           have ck:=L.cell 0 rfl
           unfold sv at ck
           obtain ⟨b,o',c,k2,t2,n2,a2,kks2,kv2,e3,e4,⟨p0,p1,p2,p3,p4⟩,hr2,hone2,hbO2⟩:=kidO hkk 0 (by simp)
           cases e3
           have p0:=cellB_fr p0 L.fr hbO2
           have p1:=cellB_fr p1 L.fr hbO2
           have p2:=cellB_fr p2 L.fr hbO2
           have p3:=cellB_fr p3 L.fr hbO2
           have p4:=cellB_fr p4 L.fr hbO2
           simp only [Nat.zero_mul,Nat.add_zero,Nat.zero_add] at p0 p1 p2 p3 p4
           unfold sv at p1
           simp (implicitDefEqProofs:=false) only [go_sem,ck,p0,p1,p2,p3,p4]
           refine L.pgo (ih y (by omega) hii.2.2.1 L.st (hp.glob hG L.fr) (L.pno hr2)) (by first | omega | (simp; omega) | simp) fun Hy Oy sy by_ L hy=>?_
           simp (implicitDefEqProofs:=false) only [go_sem,hwr]
           refine loopK_intro (i + 1) ?_ ?_ ⟨by omega,_,_,_,_,L,(hst.trans (hpre.trans (hmm.trans (hn.trans ((Pw.put _ _ _).trans hy))))).to ?_ (fun _=>?_) (by first | omega | (simp; omega) | simp)⟩
           ·show ks.length - (i + 1) < ks.length - i
            omega
           ·simp (implicitDefEqProofs:=false) only [go_sem,hwr]
           ·rw [hoM,okLs_map]; simp [okName,nameB] <;> grind
           ·rw [hsM,sM_eq]; simp
        ·have hno:okMs (ks.take (i + 1))=true→False:=fun h=>by
          rw [hoM] at h
          simp only [Bool.and_eq_true,decide_eq_true_eq] at h
          exact hM ⟨h.2.1.1.1.1,h.2.1.2⟩
         simp (implicitDefEqProofs:=false) only [go_sem]
         refine L.pmustE false (by grind) fun Hc L hmm=>?_
         simp (implicitDefEqProofs:=false) only [go_sem,hwr]
         refine loopK_intro (i + 1) ?_ ?_ ⟨by omega,_,_,_,_,L,(hst.trans (hpre.trans hmm)).nope (by simp) hno (by first | omega | (simp; omega) | simp)⟩
         ·show ks.length - (i + 1) < ks.length - i
          omega
         ·simp (implicitDefEqProofs:=false) only [go_sem,hwr]
      ·have h1:¬ ((i:Int) < (ks.length:Int)):=by omega
       obtain rfl:i=ks.length:=by omega
       rw [List.take_length] at hst hlen3
       have L:=Li
       simp (implicitDefEqProofs:=false) only [go_sem,h1]
       refine L.newS fun bz Hz L=>?_
       simp (implicitDefEqProofs:=false) only [go_sem]
       refine L.pput 0 [[125]] rfl (by simp) (by first | omega | (simp; omega) | simp) fun Hy Oy L=>?_
       have L:=L.drop (List.sublist_cons_self _ _) (fun _ h=>h)
       simp (implicitDefEqProofs:=false) only [go_sem]
       exact L.pdone ((hq2.trans (hst.trans (Pw.put _ _ _))).to (by simp) (fun _=>by simp) (by first | omega | (simp; omega) | simp))
    have hno:okL (.mk k [] 0 a ks)=true→False:=by
     intro h
     rw [hL] at h
     simp [h21,h10,h18,h13,h17,h14,h11,h12,h16,h15,h19] at h
    simp (implicitDefEqProofs:=false) only [go_sem,ca,h10,h18,h11,h12,h16,h13,h17,h14,h15,h19]
    refine L.pmust false fun H4 L hm2=>?_
    simp (implicitDefEqProofs:=false) only [go_sem]
    exact L.pdone (Pw.no hno)
 ·have hno:okL (.mk k t n a ks)=true→False:=by
   intro h
   rw [okL.eq_def] at h
   simp only [h21,if_false,Bool.and_eq_true,decide_eq_true_eq] at h
   exact hpl ⟨h.1.1,h.1.2⟩
  have hpf:(decide (t=[]) && decide (n=0))=false:=by grind
  rw [hpf] at hm L ⊢
  simp (implicitDefEqProofs:=false) only [go_sem]
  exact L.pdone (Pw.no hno)
theorem latW_all:∀ N,LatOk N
 | 0=>fun x h=>by cases x; simp only [sizeN] at h; omega
 | N + 1=>lat_step (latW_all N)
end Go.Proofs.YtmhdkbmnpekpoaaGreatDoor
end
section
set_option linter.unusedSimpArgs false
set_option linter.unusedVariables false
set_option maxRecDepth 8000
namespace Go.Proofs.YtmhdkbmnpekpoaaGreatDoor
open Gx Go
def FunOk:Prop:=∀ {k n a:Int} {t:Bs} {ks:List Nd},(k=4∨k=5)→inN (.mk k t n a ks)→∀ {H:Heap} {O:List Nat} {q:Nat} {s:Bs} {bad:Bool} (hp:Pr H O q s bad) (hG:GlobH H) {v:Value} (hx:NO H O (.mk k t n a ks) v),
 PC 59 [.pointer (some ⟨q,0,none⟩),v] H O q s bad (okD (.mk k t n a ks)) (sD (.mk k t n a ks)) (wN (.mk k t n a ks))
theorem decl_pc (hf:FunOk) (x:Nd) (hin:inN x) {H:Heap} {O:List Nat} {q:Nat} {s:Bs} {bad:Bool} (hp:Pr H O q s bad) (hG:GlobH H) {v:Value} (hx:NO H O x v) :
 PC 31 [.pointer (some ⟨q,0,none⟩),v] H O q s bad (okD x) (sD x) (wN x):=by
 intro hw
 have hx0:=hx
 obtain ⟨k,t,n,a,ks⟩:=x
 obtain ⟨aa,cc,rfl,hk,hcc,hmx⟩:=hx.open
 have hwn:wN (.mk k t n a ks)=t.length + 64 + wL ks:=rfl
 rw [hwn] at hw ⊢
 have hokE:=okD_eq k n a t ks
 refine calls_of_vc (args:=[_,_]) Tryz.func31 c31ok (Nat.le_of_ble_eq_true rfl) ?_
 have L:=PL.start hp
 simp (implicitDefEqProofs:=false) only [go_sem,c31]
 refine L.newP fun bx H1 L=>?_
 have ca:=L.cell 0 rfl
 by_cases h2:k=2
 ·subst h2
  simp (implicitDefEqProofs:=false) only [go_sem,ca]
  by_cases h1:ks.length=1
  ·match ks,h1 with
   | [y],_=>
   simp only [wL] at hw
   refine L.pmustE true (by simp) fun H4 L hm=>?_
   cases bad with
   | true=>
     simp (implicitDefEqProofs:=false) only [go_sem]
     exact L.pdone (hm.stop (fun _=>rfl) (by omega))
   | false=>
     have ca:=L.cell 0 rfl
     simp (implicitDefEqProofs:=false) only [go_sem,ca]
     refine L.newS fun bz Hz L=>?_
     simp (implicitDefEqProofs:=false) only [go_sem]
     refine L.pput 0 [[108,97,116,116,105,99,101,32]] rfl (by simp) (by first | omega | (simp; omega) | simp) fun Hy Oy L=>?_
     have L:=L.drop (List.sublist_cons_self _ _) (fun _ h=>h)
     have ca:=L.cell 0 rfl
     simp (implicitDefEqProofs:=false) only [go_sem,ca]
     refine L.pgo (name_pc L.st) (by first | omega | (simp; omega) | simp) fun H5 O5 s5 b5 L hn=>?_
     have hl5:=hn.len
     simp at hl5
     simp (implicitDefEqProofs:=false) only [go_sem]
     refine L.newS fun bz Hz L=>?_
     simp (implicitDefEqProofs:=false) only [go_sem]
     refine L.pput 0 [[32,61,32]] rfl (by simp) (by first | omega | (simp; omega) | simp) fun Hy Oy L=>?_
     have L:=L.drop (List.sublist_cons_self _ _) (fun _ h=>h)
     have ca:=L.cell 0 rfl
     obtain ⟨b,o',c,k1,t1,n1,a1,kks,kv1,e1,e2,⟨q0,q1,q2,q3,q4⟩,hr,hone,hbO⟩:=kidO hk 0 (by simp)
     cases e1
     have ca:=L.cell 0 rfl
     have q0:=cellB_fr q0 L.fr hbO
     have q1:=cellB_fr q1 L.fr hbO
     have q2:=cellB_fr q2 L.fr hbO
     have q3:=cellB_fr q3 L.fr hbO
     have q4:=cellB_fr q4 L.fr hbO
     unfold sv at q1
     simp only [Nat.zero_mul,Nat.one_mul,Nat.add_zero,Nat.reduceMul,Nat.reduceAdd] at q0 q1 q2 q3 q4
     simp (implicitDefEqProofs:=false) only [go_sem,ca,q0,q1,q2,q3,q4]
     refine L.pgo (latW_all _ y (Nat.le_refl _) hin.2.2.1 L.st (hp.glob hG L.fr) (L.pno hr)) (by first | omega | (simp; omega) | simp) fun H6 O6 s6 b6 L hy=>?_
     simp (implicitDefEqProofs:=false) only [go_sem]
     refine L.pdone ((hm.trans ((Pw.put _ _ _).trans (hn.trans ((Pw.put _ _ _).trans hy)))).to ?_ (fun _=>?_) (by first | omega | (simp [wL]; omega) | simp [wL]))
     ·rw [hokE]; simp [okName,nameB] <;> grind
     ·simp [sD]
  ·refine L.pmustE false (by grind) fun H4 L hm=>?_
   simp (implicitDefEqProofs:=false) only [go_sem]
   refine L.pdone (Pw.no fun h=>?_)
   rw [hokE] at h
   rcases ks with _ | ⟨y,_ | ⟨z,r⟩⟩
   ·simp at h
   ·exact h1 rfl
   ·simp at h
 by_cases h3:k=3
 ·subst h3
  simp (implicitDefEqProofs:=false) only [go_sem,ca]
  by_cases h1:ks.length=1
  ·match ks,h1 with
   | [y],_=>
   simp only [wL] at hw
   refine L.pmustE true (by simp) fun H4 L hm=>?_
   cases bad with
   | true=>
     simp (implicitDefEqProofs:=false) only [go_sem]
     exact L.pdone (hm.stop (fun _=>rfl) (by omega))
   | false=>
     have ca:=L.cell 0 rfl
     simp (implicitDefEqProofs:=false) only [go_sem,ca]
     refine L.newS fun bz Hz L=>?_
     simp (implicitDefEqProofs:=false) only [go_sem]
     refine L.pput 0 [[111,98,106,101,99,116,32]] rfl (by simp) (by first | omega | (simp; omega) | simp) fun Hy Oy L=>?_
     have L:=L.drop (List.sublist_cons_self _ _) (fun _ h=>h)
     have ca:=L.cell 0 rfl
     simp (implicitDefEqProofs:=false) only [go_sem,ca]
     refine L.pgo (name_pc L.st) (by first | omega | (simp; omega) | simp) fun H5 O5 s5 b5 L hn=>?_
     have hl5:=hn.len
     simp at hl5
     simp (implicitDefEqProofs:=false) only [go_sem]
     refine L.newS fun bz Hz L=>?_
     simp (implicitDefEqProofs:=false) only [go_sem]
     refine L.pput 0 [[58,32]] rfl (by simp) (by first | omega | (simp; omega) | simp) fun Hy Oy L=>?_
     have L:=L.drop (List.sublist_cons_self _ _) (fun _ h=>h)
     have ca:=L.cell 0 rfl
     obtain ⟨b,o',c,k1,t1,n1,a1,kks,kv1,e1,e2,⟨q0,q1,q2,q3,q4⟩,hr,hone,hbO⟩:=kidO hk 0 (by simp)
     cases e1
     have ca:=L.cell 0 rfl
     have q0:=cellB_fr q0 L.fr hbO
     have q1:=cellB_fr q1 L.fr hbO
     have q2:=cellB_fr q2 L.fr hbO
     have q3:=cellB_fr q3 L.fr hbO
     have q4:=cellB_fr q4 L.fr hbO
     unfold sv at q1
     simp only [Nat.zero_mul,Nat.one_mul,Nat.add_zero,Nat.reduceMul,Nat.reduceAdd] at q0 q1 q2 q3 q4
     simp (implicitDefEqProofs:=false) only [go_sem,ca,q0,q1,q2,q3,q4]
     refine L.pgo (latW_all _ y (Nat.le_refl _) hin.2.2.1 L.st (hp.glob hG L.fr) (L.pno hr)) (by first | omega | (simp; omega) | simp) fun H6 O6 s6 b6 L hy=>?_
     simp (implicitDefEqProofs:=false) only [go_sem]
     refine L.pdone ((hm.trans ((Pw.put _ _ _).trans (hn.trans ((Pw.put _ _ _).trans hy)))).to ?_ (fun _=>?_) (by first | omega | (simp [wL]; omega) | simp [wL]))
     ·rw [hokE]; simp [okName,nameB] <;> grind
     ·simp [sD]
  ·refine L.pmustE false (by grind) fun H4 L hm=>?_
   simp (implicitDefEqProofs:=false) only [go_sem]
   refine L.pdone (Pw.no fun h=>?_)
   rw [hokE] at h
   rcases ks with _ | ⟨y,_ | ⟨z,r⟩⟩
   ·simp at h
   ·exact h1 rfl
   ·simp at h
 by_cases h45:k=4∨k=5
 ·have e2:(k=2)=False:=eq_false h2
  have e3:(k=3)=False:=eq_false h3
  by_cases h4:k=4
  ·simp (implicitDefEqProofs:=false) only [go_sem,ca,e2,e3,eq_true h4]
   refine L.pgo (hf h45 hin L.st (hp.glob hG L.fr) (L.pno hx0)) (by rw [hwn]; omega) fun H6 O6 s6 b6 L hy=>?_
   simp (implicitDefEqProofs:=false) only [go_sem]
   exact L.pdone (hy.to rfl (fun _=>rfl) (by rw [hwn]; omega))
  ·have h5:k=5:=by omega
   simp (implicitDefEqProofs:=false) only [go_sem,ca,e2,e3,eq_false h4,eq_true h5]
   refine L.pgo (hf h45 hin L.st (hp.glob hG L.fr) (L.pno hx0)) (by rw [hwn]; omega) fun H6 O6 s6 b6 L hy=>?_
   simp (implicitDefEqProofs:=false) only [go_sem]
   exact L.pdone (hy.to rfl (fun _=>rfl) (by rw [hwn]; omega))
 ·have h4:¬ k=4:=fun h=>h45 (.inl h)
  have h5:¬ k=5:=fun h=>h45 (.inr h)
  have hno:okD (.mk k t n a ks)=true→False:=by
   intro h
   rw [hokE] at h
   simp [h2,h3,h4,h5] at h
  simp (implicitDefEqProofs:=false) only [go_sem,ca,h2,h3,h4,h5]
  refine L.pmust false fun H2 L hm=>?_
  simp (implicitDefEqProofs:=false) only [go_sem]
  exact L.pdone (Pw.no hno)
end Go.Proofs.YtmhdkbmnpekpoaaGreatDoor
end
section
set_option linter.unusedSimpArgs false
set_option linter.unusedVariables false
set_option maxRecDepth 8000
namespace Go.Proofs.YtmhdkbmnpekpoaaGreatDoor
open Gx Go
theorem sPs_take (f:Bool):∀ (ks:List Nd) (i:Nat) (h:i < ks.length),sPs f (ks.take (i + 1))=sPs f (ks.take i) ++ ((if i=0 then (if f then [] else [44,32]) else [44,32]) ++ sP1 ks[i])
 | x :: r,0,_=>by simp [sPs]
 | x :: r,i + 1,h=>by
   have:=sPs_take false r i (by simpa using h)
   simp only [List.take_succ_cons,sPs,List.getElem_cons_succ,this]
   cases i <;> simp
theorem at_end0 {α:Type} (x:α) (l:List α):(l ++ [x])[l.length]?=some x:=by simp
theorem fun_ok:FunOk:=by
 intro k n a t ks h45 hin H O q s bad hp hG v hx hw
 have hx0:=hx
 obtain ⟨aa,cc,rfl,hk,hcc,hmx⟩:=hx.open
 have hwn:wN (.mk k t n a ks)=t.length + 64 + wL ks:=rfl
 rw [hwn] at hw ⊢
 have hokE:=okD_eq k n a t ks
 refine calls_of_vc (args:=[_,_]) Tryz.func59 c59ok (Nat.le_of_ble_eq_true rfl) ?_
 have L:=PL.start hp
 simp (implicitDefEqProofs:=false) only [go_sem,c59]
 refine L.newP fun bx H1 L=>?_
 have ca:=L.cell 0 rfl
 by_cases h2:2≤ks.length
 ·have hwl2:IntKind.i64.wrap ((ks.length:Int) - 2)=((ks.length - 2:Nat):Int):=by
   unfold maxLen at hmx
   rw [wrap_i64_id _ (by omega) (by omega)]; omega
  have hl0:(0:Int)≤((ks.length - 2:Nat):Int):=by omega
  generalize hps:ks.take (ks.length - 2)=ps
  have hpl:ps.length=ks.length - 2:=by rw [← hps,List.length_take]; omega
  have hl2:((ks.length - 2:Nat):Int)≤(cc:Int):=by omega
  have hkt:Rep H O (kidsD ps) [.slice aa (ks.length - 2:Nat) cc]:=by
   have:=Rep.takeL hk (k:=ks.length - 2) (by simp)
   rw [← List.map_take,hps] at this; exact this
  have hpm:ps.length≤maxLen:=by omega
  have hps':ks.take ps.length=ps:=by rw [hpl]; exact hps
  have hp0:ps.length < ks.length:=by omega
  have hp1:ps.length + 1 < ks.length:=by omega
  have hwp:wL ps + wN ks[ps.length] + wN ks[ps.length + 1]=wL ks:=by
   have q1:=wL_take ks ps.length hp0
   have q2:=wL_take ks (ps.length + 1) hp1
   rw [show ps.length + 1 + 1=ks.length by omega,List.take_length] at q2
   rw [hps'] at q1
   omega
  have hks2:ks=ps ++ [ks[ps.length],ks[ps.length + 1]]:=by
   have q1:=List.take_succ_eq_append_getElem hp0
   have q2:=List.take_succ_eq_append_getElem hp1
   rw [show ps.length + 1 + 1=ks.length by omega,List.take_length,q1,hps'] at q2
   simpa using q2
  rw [← hpl] at hwl2 hl0 hl2 hkt
  rcases h45 with rfl | rfl
  ·simp (implicitDefEqProofs:=false) only [go_sem,ca,hwl2,hl0]
   refine L.pmust _ fun H4 L hm=>?_
   by_cases hn0:n=0
   ·subst hn0
    simp only [decide_true] at hm L ⊢
    cases bad with
    | true=>
      simp (implicitDefEqProofs:=false) only [go_sem]
      exact L.pdone (hm.stop (fun _=>rfl) (by omega))
    | false=>
      have ca:=L.cell 0 rfl
      simp (implicitDefEqProofs:=false) only [go_sem,ca]
      refine L.newS fun bz Hz L=>?_
      simp (implicitDefEqProofs:=false) only [go_sem]
      refine L.pput 0 [[117,112,100,97,116,101,32]] rfl (by simp) (by first | omega | (simp; omega) | simp) fun Hy Oy L=>?_
      have L:=L.drop (List.sublist_cons_self _ _) (fun _ h=>h)
      have ca:=L.cell 0 rfl
      simp (implicitDefEqProofs:=false) only [go_sem,ca]
      refine L.pgo (name_pc L.st) (by first | omega | (simp; omega) | simp) fun H5 O5 s5 b5 L hn=>?_
      have hl5:=hn.len
      simp at hl5
      simp (implicitDefEqProofs:=false) only [go_sem]
      refine L.newS fun bz Hz L=>?_
      simp (implicitDefEqProofs:=false) only [go_sem]
      refine L.pput 0 [[40]] rfl (by simp) (by first | omega | (simp; omega) | simp) fun Hy Oy L=>?_
      have L:=L.drop (List.sublist_cons_self _ _) (fun _ h=>h)
      have ca:=L.cell 0 rfl
      simp (implicitDefEqProofs:=false) only [go_sem,ca,hl0,hl2]
      have hq2:=hm.trans ((Pw.put _ _ _).trans (hn.trans (Pw.put _ _ [[40]].flatten)))
      generalize hs6:s5 ++ [[40]].flatten=s6 at *
      have hl6:s6.length≤s.length + (8 + t.length):=by have:=hq2.len; simp at this; omega
      refine vc_loop (fun (i:Nat) H'=>i≤ps.length∧∃ O' s' b' l,PL O H q O' s' b' H' (l ++ [.blk bx 24 [.int .i64 4,sv t,.int .i64 0,.int .i64 a,.slice aa ks.length cc]])∧Pw s6 b5 s' b' ((ps.take i).all okP) (sPs true (ps.take i)) (wL (ps.take i)))
       (fun i=>[(0,.pointer (some ⟨q,0,none⟩)),(3,.pointer (some ⟨bx,0,none⟩)),(4,.int .i64 ps.length),(43,.slice aa ps.length cc),(44,.int .i64 ps.length),(45,.int .i64 i)]) (fun i=>ps.length - i) 0 ?_ ?_ ?_
      ·exact ⟨Nat.zero_le _,_,_,_,[],L,by simpa [sPs,wL] using Pw.refl s6 _⟩
      ·simp (implicitDefEqProofs:=false) only [go_sem]
      ·rintro i H1 ⟨hi,O1,s1,b1,l1,Li,hst⟩
       have hlen3:=hst.len
       rcases Nat.lt_or_ge i ps.length with hlt | hge
       ·have h0:(0:Int)≤(i:Int):=by omega
        have h1:(i:Int) < (ps.length:Int):=by omega
        have hwr:=wrap_at hlt hpm
        have hws:=wL_take ps i hlt
        have hwl:=wL_le ps (i + 1)
        have hsP:=sPs_take true ps i hlt
        have hoP:=all_take okP ps i hlt
        obtain ⟨b,o,c,k1,t1,n1,a1,kks,kv1,e1,e2,⟨q0,q1,q2,q3,q4⟩,hrr,hone,hbO⟩:=kidO hkt i hlt
        cases e1
        have L:=Li
        have q0:=cellB_fr q0 L.fr hbO
        have q1:=cellB_fr q1 L.fr hbO
        have q2:=cellB_fr q2 L.fr hbO
        have q3:=cellB_fr q3 L.fr hbO
        have q4:=cellB_fr q4 L.fr hbO
        simp only [Nat.add_zero] at q0
        unfold sv at q1
        rw [e2] at hrr hws hsP hoP
        obtain ⟨a2,c2,hv2,hkk,hc2,hm2'⟩:=hrr.open
        simp only [Value.agg.injEq,Array.mk.injEq,List.cons.injEq,and_true,true_and] at hv2
        subst hv2
        simp only [wN] at hws
        simp only [sP1,okP,kindOf,textOf,kidsOf,numOf] at hsP hoP
        simp (implicitDefEqProofs:=false) only [go_sem,h0,h1,q0,q1,q2,q3,q4]
        refine NewP_intro fun H5 hn5 hf5 _=>?_
        have L5:=L.push hf5 hn5
        simp (implicitDefEqProofs:=false) only [go_sem]
        refine Sto_all hn5 rfl (one_agg hone) fun H6 hn6 hf6 _=>?_
        have L:=L5.sto 0 rfl hf6 hn6
        simp only [List.set_cons_zero,List.set_cons_succ,List.set_nil,List.eraseIdx_cons_zero,List.eraseIdx_cons_succ] at L
        rcases Nat.eq_zero_or_pos i with hi0 | hpos
        ·have hg:¬ ((0:Int) < (i:Int)):=by omega
         have hpre:=Pw.refl s1 b1
         rw [if_pos hi0] at hsP
         simp (implicitDefEqProofs:=false) only [go_sem,hg]
         have ck:=L.cell 0 rfl
         unfold sv at ck
         simp (implicitDefEqProofs:=false) only [go_sem,ck]
         refine (bare_ok (t:=t1) 6 0).mono ?_
         rintro r Hb ⟨rfl,hfb⟩
         have L:=L.ext hfb
         rw [show decide ((0:Int) < 0)=false from rfl,Bool.false_or,len_zero]
         simp (implicitDefEqProofs:=false) only [go_sem]
         refine L.pmust _ fun Hc L hmm=>?_
         have ck:=L.cell 0 rfl
         unfold sv at ck
         simp (implicitDefEqProofs:=false) only [go_sem,ck]
         refine L.pgo (name_pc (t:=t1) L.st) (by first | omega | (simp; omega) | simp) fun Hn On sn bn L hn2=>?_
         have hln:=hn2.len
         simp (implicitDefEqProofs:=false) only [go_sem]
         refine L.newS fun bz Hz L=>?_
         simp (implicitDefEqProofs:=false) only [go_sem]
         refine L.pput 0 [[58,32]] rfl (by simp) (by first | omega | (simp; omega) | simp) fun Hy Oy L=>?_
         have L:=L.drop (List.sublist_cons_self _ _) (fun _ h=>h)
         have ck:=L.cell 0 rfl
         unfold sv at ck
         simp (implicitDefEqProofs:=false) only [go_sem,ck]
         refine L.pgo (sort_pc L.st) (by first | omega | (simp; omega) | simp) fun Hy Oy sy by_ L hy=>?_
         simp (implicitDefEqProofs:=false) only [go_sem,hwr]
         refine loopK_intro (i + 1) ?_ ?_ ⟨by omega,_,_,_,_ :: l1,L,(hst.trans (hpre.trans (hmm.trans (hn2.trans ((Pw.put _ _ _).trans hy))))).to ?_ (fun _=>?_) (by first | omega | (simp; omega) | simp)⟩
         ·show ps.length - (i + 1) < ps.length - i
          omega
         ·simp (implicitDefEqProofs:=false) only [go_sem,hwr]
         ·rw [hoP]; simp [okName,nameB] <;> grind
         ·rw [hsP]; simp
        ·have hg:(0:Int) < (i:Int):=by omega
         rw [if_neg (by omega)] at hsP
         simp (implicitDefEqProofs:=false) only [go_sem,hg]
         refine L.newS fun bz Hz L=>?_
         simp (implicitDefEqProofs:=false) only [go_sem]
         refine L.pput 0 [[44,32]] rfl (by simp) (by first | omega | (simp; omega) | simp) fun Hy Oy L=>?_
         have L:=L.drop (List.sublist_cons_self _ _) (fun _ h=>h)
         have hpre:=Pw.put s1 b1 [[44,32]].flatten
         have hlp:(s1 ++ [[44,32]].flatten).length≤s1.length + 2:=by simp
         generalize hsp:s1 ++ [[44,32]].flatten=sp at *
         have ck:=L.cell 0 rfl
         unfold sv at ck
         simp (implicitDefEqProofs:=false) only [go_sem,ck]
         refine (bare_ok (t:=t1) 6 0).mono ?_
         rintro r Hb ⟨rfl,hfb⟩
         have L:=L.ext hfb
         rw [show decide ((0:Int) < 0)=false from rfl,Bool.false_or,len_zero]
         simp (implicitDefEqProofs:=false) only [go_sem]
         refine L.pmust _ fun Hc L hmm=>?_
         have ck:=L.cell 0 rfl
         unfold sv at ck
         simp (implicitDefEqProofs:=false) only [go_sem,ck]
         refine L.pgo (name_pc (t:=t1) L.st) (by first | omega | (simp; omega) | simp) fun Hn On sn bn L hn2=>?_
         have hln:=hn2.len
         simp (implicitDefEqProofs:=false) only [go_sem]
         refine L.newS fun bz Hz L=>?_
         simp (implicitDefEqProofs:=false) only [go_sem]
         refine L.pput 0 [[58,32]] rfl (by simp) (by first | omega | (simp; omega) | simp) fun Hy Oy L=>?_
         have L:=L.drop (List.sublist_cons_self _ _) (fun _ h=>h)
         have ck:=L.cell 0 rfl
         unfold sv at ck
         simp (implicitDefEqProofs:=false) only [go_sem,ck]
         refine L.pgo (sort_pc L.st) (by first | omega | (simp; omega) | simp) fun Hy Oy sy by_ L hy=>?_
         simp (implicitDefEqProofs:=false) only [go_sem,hwr]
         refine loopK_intro (i + 1) ?_ ?_ ⟨by omega,_,_,_,_ :: l1,L,(hst.trans (hpre.trans (hmm.trans (hn2.trans ((Pw.put _ _ _).trans hy))))).to ?_ (fun _=>?_) (by first | omega | (simp; omega) | simp)⟩
         ·show ps.length - (i + 1) < ps.length - i
          omega
         ·simp (implicitDefEqProofs:=false) only [go_sem,hwr]
         ·rw [hoP]; simp [okName,nameB] <;> grind
         ·rw [hsP]; simp
       ·have h1:¬ ((i:Int) < (ps.length:Int)):=by omega
        obtain rfl:i=ps.length:=by omega
        rw [List.take_length] at hst hlen3
        have hpn:((ps.length:Nat):Int) < (ks.length:Int):=by omega
        have hpn1:IntKind.i64.wrap ((ps.length:Int) + 1)=((ps.length + 1:Nat):Int):=wrap_at (n:=ks.length) (by omega) hmx
        have hpn2:((ps.length + 1:Nat):Int) < (ks.length:Int):=by omega
        have hpn3:(0:Int)≤((ps.length + 1:Nat):Int):=by omega
        have L:=Li
        simp (implicitDefEqProofs:=false) only [go_sem,h1]
        refine L.newS fun bz Hz L=>?_
        simp (implicitDefEqProofs:=false) only [go_sem]
        refine L.pput 0 [[41,32,111,110,32]] rfl (by simp) (by first | omega | (simp; omega) | simp) fun Hy Oy L=>?_
        have L:=L.drop (List.sublist_cons_self _ _) (fun _ h=>h)
        obtain ⟨b,o',c,k1,t1,n1,a1,kks,kv1,e1,e2,⟨r0,r1,r2,r3,r4⟩,hr,hone,hbO⟩:=kidO hk ps.length (by omega)
        cases e1
        rw [e2] at hr
        obtain ⟨a2,c2,hv2,hkk,hc2,hm2'⟩:=hr.open
        simp only [Value.agg.injEq,Array.mk.injEq,List.cons.injEq,and_true,true_and] at hv2
        subst hv2
        have hw1:t1.length + 64≤wN ks[ps.length]:=by rw [e2]; simp only [wN]; omega
        have ca:=L.cell l1.length (at_end0 _ _)
        unfold sv at ca
        have q0:=cellB_fr r0 L.fr hbO
        have q1:=cellB_fr r1 L.fr hbO
        have q2:=cellB_fr r2 L.fr hbO
        have q3:=cellB_fr r3 L.fr hbO
        have q4:=cellB_fr r4 L.fr hbO
        simp only [Nat.add_zero] at q0
        unfold sv at q1
        simp (implicitDefEqProofs:=false) only [go_sem,ca,hl0,hpn,q0,q1,q2,q3,q4]
        refine (bare_ok (t:=t1) 48 0).mono ?_
        rintro r Hb ⟨rfl,hfb⟩
        have L:=L.ext hfb
        rw [show decide ((0:Int) < 0)=false from rfl,Bool.false_or,len_zero]
        simp (implicitDefEqProofs:=false) only [go_sem]
        refine L.pmust _ fun Hc L hmm=>?_
        have ca:=L.cell l1.length (at_end0 _ _)
        unfold sv at ca
        have q0:=cellB_fr r0 L.fr hbO
        have q1:=cellB_fr r1 L.fr hbO
        have q2:=cellB_fr r2 L.fr hbO
        have q3:=cellB_fr r3 L.fr hbO
        have q4:=cellB_fr r4 L.fr hbO
        simp only [Nat.add_zero] at q0
        unfold sv at q1
        simp (implicitDefEqProofs:=false) only [go_sem,ca,hl0,hpn,q0,q1,q2,q3,q4]
        refine L.pgo (name_pc (t:=t1) L.st) (by simp; omega) fun Hn On sn bn L hn2=>?_
        have hln:=hn2.len
        simp at hln
        have ca:=L.cell l1.length (at_end0 _ _)
        unfold sv at ca
        simp (implicitDefEqProofs:=false) only [go_sem,ca]
        refine L.newS fun bz Hz L=>?_
        simp (implicitDefEqProofs:=false) only [go_sem]
        refine L.pput 0 [[32,61,32]] rfl (by simp) (by first | omega | (simp; omega) | simp) fun Hy Oy L=>?_
        have L:=L.drop (List.sublist_cons_self _ _) (fun _ h=>h)
        have ca:=L.cell l1.length (at_end0 _ _)
        unfold sv at ca
        obtain ⟨b3,o3,c3,k3,t3,n3,a3,kks3,kv3,e3,e4,⟨r0,r1,r2,r3,r4⟩,hr3,hone3,hbO⟩:=kidO hk (ps.length + 1) (by omega)
        cases e3
        have q0:=cellB_fr r0 L.fr hbO
        have q1:=cellB_fr r1 L.fr hbO
        have q2:=cellB_fr r2 L.fr hbO
        have q3:=cellB_fr r3 L.fr hbO
        have q4:=cellB_fr r4 L.fr hbO
        simp only [Nat.add_zero] at q0
        unfold sv at q1
        simp (implicitDefEqProofs:=false) only [go_sem,ca,hpn1,hpn2,hpn3,q0,q1,q2,q3,q4]
        refine L.pgo (expr_all _ _ (Nat.le_refl _) (inL_get ks (ps.length + 1) (by omega) hin.2.2) L.st (hp.glob hG L.fr) (L.pno hr3) 0 (by omega)) (by simp; omega) fun Hy Oy sy by_ L hy=>?_
        simp (implicitDefEqProofs:=false) only [go_sem]
        refine L.pdone ((hq2.trans (hst.trans ((Pw.put _ _ _).trans (hmm.trans (hn2.trans ((Pw.put _ _ _).trans hy)))))).to ?_ (fun _=>?_) ?_)
        ·have hoo:okO ks[ps.length]=(decide (k1=48) && nameB t1 && decide (n1=0) && kks.isEmpty):=by rw [e2]; rfl
         have hpk:=partsK_app ps ks[ps.length] ks[ps.length + 1]
         rw [← hks2] at hpk
         rw [hokE]
         simp only [hpk,hoo]
         simp [okName,nameB]
         grind
        ·have ht1:textOf ks[ps.length]=t1:=by rw [e2]; rfl
         have hsd:=sD_upd (n:=0) (p:=a) (t:=t) (ps:=ps) (o:=ks[ps.length]) (e:=ks[ps.length + 1])
         rw [← hks2,ht1] at hsd
         rw [hsd]; simp [sAt_zero]
        ·simp; omega
   ·have hnf:decide (n=0)=false:=by simpa using hn0
    have hpk:=partsK_app ps ks[ps.length] ks[ps.length + 1]
    rw [← hks2] at hpk
    rw [hnf] at hm L ⊢
    simp (implicitDefEqProofs:=false) only [go_sem]
    refine L.pdone (Pw.no fun h=>?_)
    rw [hokE] at h
    simp [hpk,hn0] at h
  ·simp (implicitDefEqProofs:=false) only [go_sem,ca,hwl2,hl0]
   refine L.pmustE true (by simp) fun H4 L hm=>?_
   cases bad with
   | true=>
     simp (implicitDefEqProofs:=false) only [go_sem]
     exact L.pdone (hm.stop (fun _=>rfl) (by omega))
   | false=>
     have ca:=L.cell 0 rfl
     simp (implicitDefEqProofs:=false) only [go_sem,ca]
     refine L.newS fun bz Hz L=>?_
     simp (implicitDefEqProofs:=false) only [go_sem]
     refine L.pput 0 [[113,117,101,114,121,32]] rfl (by simp) (by first | omega | (simp; omega) | simp) fun Hy Oy L=>?_
     have L:=L.drop (List.sublist_cons_self _ _) (fun _ h=>h)
     have ca:=L.cell 0 rfl
     simp (implicitDefEqProofs:=false) only [go_sem,ca]
     refine L.pgo (name_pc L.st) (by first | omega | (simp; omega) | simp) fun H5 O5 s5 b5 L hn=>?_
     have hl5:=hn.len
     simp at hl5
     simp (implicitDefEqProofs:=false) only [go_sem]
     refine L.newS fun bz Hz L=>?_
     simp (implicitDefEqProofs:=false) only [go_sem]
     refine L.pput 0 [[40]] rfl (by simp) (by first | omega | (simp; omega) | simp) fun Hy Oy L=>?_
     have L:=L.drop (List.sublist_cons_self _ _) (fun _ h=>h)
     have ca:=L.cell 0 rfl
     simp (implicitDefEqProofs:=false) only [go_sem,ca,hl0,hl2]
     have hq2:=hm.trans ((Pw.put _ _ _).trans (hn.trans (Pw.put _ _ [[40]].flatten)))
     generalize hs6:s5 ++ [[40]].flatten=s6 at *
     have hl6:s6.length≤s.length + (7 + t.length):=by have:=hq2.len; simp at this; omega
     refine vc_loop (fun (i:Nat) H'=>i≤ps.length∧∃ O' s' b' l,PL O H q O' s' b' H' (l ++ [.blk bx 24 [.int .i64 5,sv t,.int .i64 n,.int .i64 a,.slice aa ks.length cc]])∧Pw s6 b5 s' b' ((ps.take i).all okP) (sPs true (ps.take i)) (wL (ps.take i)))
      (fun i=>[(0,.pointer (some ⟨q,0,none⟩)),(3,.pointer (some ⟨bx,0,none⟩)),(4,.int .i64 ps.length),(43,.slice aa ps.length cc),(44,.int .i64 ps.length),(45,.int .i64 i)]) (fun i=>ps.length - i) 0 ?_ ?_ ?_
     ·exact ⟨Nat.zero_le _,_,_,_,[],L,by simpa [sPs,wL] using Pw.refl s6 _⟩
     ·simp (implicitDefEqProofs:=false) only [go_sem]
     ·rintro i H1 ⟨hi,O1,s1,b1,l1,Li,hst⟩
      have hlen3:=hst.len
      rcases Nat.lt_or_ge i ps.length with hlt | hge
      ·have h0:(0:Int)≤(i:Int):=by omega
       have h1:(i:Int) < (ps.length:Int):=by omega
       have hwr:=wrap_at hlt hpm
       have hws:=wL_take ps i hlt
       have hwl:=wL_le ps (i + 1)
       have hsP:=sPs_take true ps i hlt
       have hoP:=all_take okP ps i hlt
       obtain ⟨b,o,c,k1,t1,n1,a1,kks,kv1,e1,e2,⟨q0,q1,q2,q3,q4⟩,hrr,hone,hbO⟩:=kidO hkt i hlt
       cases e1
       have L:=Li
       have q0:=cellB_fr q0 L.fr hbO
       have q1:=cellB_fr q1 L.fr hbO
       have q2:=cellB_fr q2 L.fr hbO
       have q3:=cellB_fr q3 L.fr hbO
       have q4:=cellB_fr q4 L.fr hbO
       simp only [Nat.add_zero] at q0
       unfold sv at q1
       rw [e2] at hrr hws hsP hoP
       obtain ⟨a2,c2,hv2,hkk,hc2,hm2'⟩:=hrr.open
       simp only [Value.agg.injEq,Array.mk.injEq,List.cons.injEq,and_true,true_and] at hv2
       subst hv2
       simp only [wN] at hws
       simp only [sP1,okP,kindOf,textOf,kidsOf,numOf] at hsP hoP
       simp (implicitDefEqProofs:=false) only [go_sem,h0,h1,q0,q1,q2,q3,q4]
       refine NewP_intro fun H5 hn5 hf5 _=>?_
       have L5:=L.push hf5 hn5
       simp (implicitDefEqProofs:=false) only [go_sem]
       refine Sto_all hn5 rfl (one_agg hone) fun H6 hn6 hf6 _=>?_
       have L:=L5.sto 0 rfl hf6 hn6
       simp only [List.set_cons_zero,List.set_cons_succ,List.set_nil,List.eraseIdx_cons_zero,List.eraseIdx_cons_succ] at L
       rcases Nat.eq_zero_or_pos i with hi0 | hpos
       ·have hg:¬ ((0:Int) < (i:Int)):=by omega
        have hpre:=Pw.refl s1 b1
        rw [if_pos hi0] at hsP
        simp (implicitDefEqProofs:=false) only [go_sem,hg]
        have ck:=L.cell 0 rfl
        unfold sv at ck
        simp (implicitDefEqProofs:=false) only [go_sem,ck]
        refine (bare_ok (t:=t1) 6 0).mono ?_
        rintro r Hb ⟨rfl,hfb⟩
        have L:=L.ext hfb
        rw [show decide ((0:Int) < 0)=false from rfl,Bool.false_or,len_zero]
        simp (implicitDefEqProofs:=false) only [go_sem]
        refine L.pmust _ fun Hc L hmm=>?_
        have ck:=L.cell 0 rfl
        unfold sv at ck
        simp (implicitDefEqProofs:=false) only [go_sem,ck]
        refine L.pgo (name_pc (t:=t1) L.st) (by first | omega | (simp; omega) | simp) fun Hn On sn bn L hn2=>?_
        have hln:=hn2.len
        simp (implicitDefEqProofs:=false) only [go_sem]
        refine L.newS fun bz Hz L=>?_
        simp (implicitDefEqProofs:=false) only [go_sem]
        refine L.pput 0 [[58,32]] rfl (by simp) (by first | omega | (simp; omega) | simp) fun Hy Oy L=>?_
        have L:=L.drop (List.sublist_cons_self _ _) (fun _ h=>h)
        have ck:=L.cell 0 rfl
        unfold sv at ck
        simp (implicitDefEqProofs:=false) only [go_sem,ck]
        refine L.pgo (sort_pc L.st) (by first | omega | (simp; omega) | simp) fun Hy Oy sy by_ L hy=>?_
        simp (implicitDefEqProofs:=false) only [go_sem,hwr]
        refine loopK_intro (i + 1) ?_ ?_ ⟨by omega,_,_,_,_ :: l1,L,(hst.trans (hpre.trans (hmm.trans (hn2.trans ((Pw.put _ _ _).trans hy))))).to ?_ (fun _=>?_) (by first | omega | (simp; omega) | simp)⟩
        ·show ps.length - (i + 1) < ps.length - i
         omega
        ·simp (implicitDefEqProofs:=false) only [go_sem,hwr]
        ·rw [hoP]; simp [okName,nameB] <;> grind
        ·rw [hsP]; simp
       ·have hg:(0:Int) < (i:Int):=by omega
        rw [if_neg (by omega)] at hsP
        simp (implicitDefEqProofs:=false) only [go_sem,hg]
        refine L.newS fun bz Hz L=>?_
        simp (implicitDefEqProofs:=false) only [go_sem]
        refine L.pput 0 [[44,32]] rfl (by simp) (by first | omega | (simp; omega) | simp) fun Hy Oy L=>?_
        have L:=L.drop (List.sublist_cons_self _ _) (fun _ h=>h)
        have hpre:=Pw.put s1 b1 [[44,32]].flatten
        have hlp:(s1 ++ [[44,32]].flatten).length≤s1.length + 2:=by simp
        generalize hsp:s1 ++ [[44,32]].flatten=sp at *
        have ck:=L.cell 0 rfl
        unfold sv at ck
        simp (implicitDefEqProofs:=false) only [go_sem,ck]
        refine (bare_ok (t:=t1) 6 0).mono ?_
        rintro r Hb ⟨rfl,hfb⟩
        have L:=L.ext hfb
        rw [show decide ((0:Int) < 0)=false from rfl,Bool.false_or,len_zero]
        simp (implicitDefEqProofs:=false) only [go_sem]
        refine L.pmust _ fun Hc L hmm=>?_
        have ck:=L.cell 0 rfl
        unfold sv at ck
        simp (implicitDefEqProofs:=false) only [go_sem,ck]
        refine L.pgo (name_pc (t:=t1) L.st) (by first | omega | (simp; omega) | simp) fun Hn On sn bn L hn2=>?_
        have hln:=hn2.len
        simp (implicitDefEqProofs:=false) only [go_sem]
        refine L.newS fun bz Hz L=>?_
        simp (implicitDefEqProofs:=false) only [go_sem]
        refine L.pput 0 [[58,32]] rfl (by simp) (by first | omega | (simp; omega) | simp) fun Hy Oy L=>?_
        have L:=L.drop (List.sublist_cons_self _ _) (fun _ h=>h)
        have ck:=L.cell 0 rfl
        unfold sv at ck
        simp (implicitDefEqProofs:=false) only [go_sem,ck]
        refine L.pgo (sort_pc L.st) (by first | omega | (simp; omega) | simp) fun Hy Oy sy by_ L hy=>?_
        simp (implicitDefEqProofs:=false) only [go_sem,hwr]
        refine loopK_intro (i + 1) ?_ ?_ ⟨by omega,_,_,_,_ :: l1,L,(hst.trans (hpre.trans (hmm.trans (hn2.trans ((Pw.put _ _ _).trans hy))))).to ?_ (fun _=>?_) (by first | omega | (simp; omega) | simp)⟩
        ·show ps.length - (i + 1) < ps.length - i
         omega
        ·simp (implicitDefEqProofs:=false) only [go_sem,hwr]
        ·rw [hoP]; simp [okName,nameB] <;> grind
        ·rw [hsP]; simp
      ·have h1:¬ ((i:Int) < (ps.length:Int)):=by omega
       obtain rfl:i=ps.length:=by omega
       rw [List.take_length] at hst hlen3
       have hpn:((ps.length:Nat):Int) < (ks.length:Int):=by omega
       have hpn1:IntKind.i64.wrap ((ps.length:Int) + 1)=((ps.length + 1:Nat):Int):=wrap_at (n:=ks.length) (by omega) hmx
       have hpn2:((ps.length + 1:Nat):Int) < (ks.length:Int):=by omega
       have hpn3:(0:Int)≤((ps.length + 1:Nat):Int):=by omega
       have L:=Li
       simp (implicitDefEqProofs:=false) only [go_sem,h1]
       refine L.newS fun bz Hz L=>?_
       simp (implicitDefEqProofs:=false) only [go_sem]
       refine L.pput 0 [[41,32,111,110,32]] rfl (by simp) (by first | omega | (simp; omega) | simp) fun Hy Oy L=>?_
       have L:=L.drop (List.sublist_cons_self _ _) (fun _ h=>h)
       obtain ⟨b,o',c,k1,t1,n1,a1,kks,kv1,e1,e2,⟨r0,r1,r2,r3,r4⟩,hr,hone,hbO⟩:=kidO hk ps.length (by omega)
       cases e1
       rw [e2] at hr
       obtain ⟨a2,c2,hv2,hkk,hc2,hm2'⟩:=hr.open
       simp only [Value.agg.injEq,Array.mk.injEq,List.cons.injEq,and_true,true_and] at hv2
       subst hv2
       have hw1:t1.length + 64≤wN ks[ps.length]:=by rw [e2]; simp only [wN]; omega
       have ca:=L.cell l1.length (at_end0 _ _)
       unfold sv at ca
       have q0:=cellB_fr r0 L.fr hbO
       have q1:=cellB_fr r1 L.fr hbO
       have q2:=cellB_fr r2 L.fr hbO
       have q3:=cellB_fr r3 L.fr hbO
       have q4:=cellB_fr r4 L.fr hbO
       simp only [Nat.add_zero] at q0
       unfold sv at q1
       simp (implicitDefEqProofs:=false) only [go_sem,ca,hl0,hpn,q0,q1,q2,q3,q4]
       refine (bare_ok (t:=t1) 48 0).mono ?_
       rintro r Hb ⟨rfl,hfb⟩
       have L:=L.ext hfb
       rw [show decide ((0:Int) < 0)=false from rfl,Bool.false_or,len_zero]
       simp (implicitDefEqProofs:=false) only [go_sem]
       refine L.pmust _ fun Hc L hmm=>?_
       have ca:=L.cell l1.length (at_end0 _ _)
       unfold sv at ca
       have q0:=cellB_fr r0 L.fr hbO
       have q1:=cellB_fr r1 L.fr hbO
       have q2:=cellB_fr r2 L.fr hbO
       have q3:=cellB_fr r3 L.fr hbO
       have q4:=cellB_fr r4 L.fr hbO
       simp only [Nat.add_zero] at q0
       unfold sv at q1
       simp (implicitDefEqProofs:=false) only [go_sem,ca,hl0,hpn,q0,q1,q2,q3,q4]
       refine L.pgo (name_pc (t:=t1) L.st) (by simp; omega) fun Hn On sn bn L hn2=>?_
       have hln:=hn2.len
       simp at hln
       have ca:=L.cell l1.length (at_end0 _ _)
       unfold sv at ca
       simp (implicitDefEqProofs:=false) only [go_sem,ca]
       refine L.newS fun bz Hz L=>?_
       simp (implicitDefEqProofs:=false) only [go_sem]
       refine L.pput 0 [[58,32]] rfl (by simp) (by first | omega | (simp; omega) | simp) fun Hy Oy L=>?_
       have L:=L.drop (List.sublist_cons_self _ _) (fun _ h=>h)
       have ca:=L.cell l1.length (at_end0 _ _)
       unfold sv at ca
       simp (implicitDefEqProofs:=false) only [go_sem,ca]
       refine L.pgo (sort_pc L.st) (by simp; omega) fun Hs Os ss bs L hsrt=>?_
       have hls:=hsrt.len
       simp at hls
       simp (implicitDefEqProofs:=false) only [go_sem]
       refine L.newS fun bz Hz L=>?_
       simp (implicitDefEqProofs:=false) only [go_sem]
       refine L.pput 0 [[32,61,32]] rfl (by simp) (by first | omega | (simp; omega) | simp) fun Hy Oy L=>?_
       have L:=L.drop (List.sublist_cons_self _ _) (fun _ h=>h)
       have ca:=L.cell l1.length (at_end0 _ _)
       unfold sv at ca
       obtain ⟨b3,o3,c3,k3,t3,n3,a3,kks3,kv3,e3,e4,⟨r0,r1,r2,r3,r4⟩,hr3,hone3,hbO⟩:=kidO hk (ps.length + 1) (by omega)
       cases e3
       have q0:=cellB_fr r0 L.fr hbO
       have q1:=cellB_fr r1 L.fr hbO
       have q2:=cellB_fr r2 L.fr hbO
       have q3:=cellB_fr r3 L.fr hbO
       have q4:=cellB_fr r4 L.fr hbO
       simp only [Nat.add_zero] at q0
       unfold sv at q1
       simp (implicitDefEqProofs:=false) only [go_sem,ca,hpn1,hpn2,hpn3,q0,q1,q2,q3,q4]
       refine L.pgo (expr_all _ _ (Nat.le_refl _) (inL_get ks (ps.length + 1) (by omega) hin.2.2) L.st (hp.glob hG L.fr) (L.pno hr3) 0 (by omega)) (by simp; omega) fun Hy Oy sy by_ L hy=>?_
       simp (implicitDefEqProofs:=false) only [go_sem]
       refine L.pdone ((hq2.trans (hst.trans ((Pw.put _ _ _).trans (hmm.trans (hn2.trans ((Pw.put _ _ _).trans (hsrt.trans ((Pw.put _ _ _).trans hy)))))))).to ?_ (fun _=>?_) ?_)
       ·have hoo:okO ks[ps.length]=(decide (k1=48) && nameB t1 && decide (n1=0) && kks.isEmpty):=by rw [e2]; rfl
        have hpk:=partsK_app ps ks[ps.length] ks[ps.length + 1]
        rw [← hks2] at hpk
        rw [hokE]
        simp only [hpk,hoo]
        simp [okName,nameB]
        grind
       ·have ht1:textOf ks[ps.length]=t1:=by rw [e2]; rfl
        have hsd:=sD_qry (n:=n) (p:=a) (t:=t) (ps:=ps) (o:=ks[ps.length]) (e:=ks[ps.length + 1])
        rw [← hks2,ht1] at hsd
        rw [hsd]; simp [sAt_zero]
       ·simp; omega
 ·have hpk:partsK ks=none:=by
   rcases ks with _ | ⟨x,_ | ⟨y,r⟩⟩
   ·rfl
   ·rfl
   ·simp at h2
  have hwn2:decide ((0:Int)≤IntKind.i64.wrap ((ks.length:Int) - 2))=false:=by
   rcases ks with _ | ⟨x,_ | ⟨y,r⟩⟩
   ·rfl
   ·rfl
   ·simp at h2
  simp (implicitDefEqProofs:=false) only [go_sem,ca]
  refine L.pmustE false (by rw [hwn2]; rfl) fun H4 L hm=>?_
  simp (implicitDefEqProofs:=false) only [go_sem]
  refine L.pdone (Pw.no fun h=>?_)
  rw [hokE] at h
  rcases h45 with rfl | rfl <;> simp [hpk] at h
end Go.Proofs.YtmhdkbmnpekpoaaGreatDoor
end
section
set_option linter.unusedSimpArgs false
set_option linter.unusedVariables false
set_option maxRecDepth 8000
namespace Go.Proofs.YtmhdkbmnpekpoaaGreatDoor
open Gx Go
theorem declW (x:Nd) (hin:inN x) {H:Heap} {O:List Nat} {q:Nat} {s:Bs} {bad:Bool} (hp:Pr H O q s bad) (hG:GlobH H) {v:Value} (hx:NO H O x v) :
 PC 31 [.pointer (some ⟨q,0,none⟩),v] H O q s bad (okD x) (sD x) (wN x):=decl_pc fun_ok x hin hp hG hx
end Go.Proofs.YtmhdkbmnpekpoaaGreatDoor
end
section
set_option linter.unusedSimpArgs false
set_option linter.unusedVariables false
set_option maxRecDepth 8000
namespace Go.Proofs.YtmhdkbmnpekpoaaGreatDoor
open Gx Go
def fltV (R:Except Flt Nd):Value:=match R with
 | .error e=>.agg #[.int .i64 e.1,.int .i64 e.2]
 | .ok _=>.agg #[.int .i64 0,.int .i64 0]
theorem x1_ok (s:Bs) (hl:s.length≤maxLen) {H:Heap} (hG:GlobH H):HCalls Tryz.prog 25 #[sv s] H fun v H'=>v=fltV (srcP (exprP (loK 64)) s)∧Fr [] H H':=by
 refine calls_of_vc (args:=[_]) Tryz.func25 c25ok (Nat.le_of_ble_eq_true rfl) ?_
 have L:Lv [] H [] (fun _=>True) H [] []:=Lv.start (by simp) (fun _ _ _ _=>trivial)
 simp (implicitDefEqProofs:=false) only [go_sem,c25]
 refine L.newP fun b1 H1 L=>?_
 simp (implicitDefEqProofs:=false) only [go_sem]
 refine (pexpr_ok s hl (hG.ext L.fr)).mono ?_
 rintro v H3 ⟨hv,hf3⟩
 have L:=L.ext hf3
 cases e:srcP (exprP (loK 64)) s with
 | error e=>
   rw [e] at hv
   simp only [ResR] at hv
   subst hv
   simp (implicitDefEqProofs:=false) only [go_sem,zeroN,sv]
   refine L.newP fun b2 H4 L=>?_
   simp (implicitDefEqProofs:=false) only [go_sem]
   refine L.newP fun b3 H5 L=>?_
   simp (implicitDefEqProofs:=false) only [go_sem]
   refine L.stoAll 1 rfl rfl (by simp [Value.oneCell']) fun H6 L=>?_
   simp only [List.set_cons_zero,List.set_cons_succ,List.set_nil,List.eraseIdx_cons_zero,List.eraseIdx_cons_succ] at L
   simp (implicitDefEqProofs:=false) only [go_sem]
   refine L.stoAll 0 rfl rfl (by simp [Value.oneCell']) fun H7 L=>?_
   simp only [List.set_cons_zero,List.set_cons_succ,List.set_nil,List.eraseIdx_cons_zero,List.eraseIdx_cons_succ] at L
   have c0:=L.cell 0 rfl
   simp (implicitDefEqProofs:=false) only [go_sem,c0]
   refine L.stoAll 2 rfl rfl (by simp [Value.oneCell']) fun H8 L=>?_
   simp only [List.set_cons_zero,List.set_cons_succ,List.set_nil,List.eraseIdx_cons_zero,List.eraseIdx_cons_succ] at L
   have c2:=L.cell 2 rfl
   simp (implicitDefEqProofs:=false) only [go_sem,c2]
   exact ⟨rfl,L.fr⟩
 | ok n=>
   rw [e] at hv
   simp only [ResR] at hv
   obtain ⟨cs,rfl,hr⟩:=hv
   obtain ⟨kk,tt,nn,aa,ks⟩:=n
   obtain ⟨kv,rfl,hkv⟩:=RepP.nd_open hr
   have hone:=nd_one hkv
   simp (implicitDefEqProofs:=false) only [go_sem,zeroN,sv]
   refine L.newP fun b2 H4 L=>?_
   simp (implicitDefEqProofs:=false) only [go_sem]
   refine L.newP fun b3 H5 L=>?_
   simp (implicitDefEqProofs:=false) only [go_sem]
   refine L.stoAll 1 rfl rfl (one_agg hone) fun H6 L=>?_
   simp only [List.set_cons_zero,List.set_cons_succ,List.set_nil,List.eraseIdx_cons_zero,List.eraseIdx_cons_succ] at L
   simp (implicitDefEqProofs:=false) only [go_sem]
   refine L.stoAll 0 rfl rfl (by simp [Value.oneCell']) fun H7 L=>?_
   simp only [List.set_cons_zero,List.set_cons_succ,List.set_nil,List.eraseIdx_cons_zero,List.eraseIdx_cons_succ] at L
   have c0:=L.cell 0 rfl
   simp (implicitDefEqProofs:=false) only [go_sem,c0]
   refine L.stoAll 2 rfl rfl (by simp [Value.oneCell']) fun H8 L=>?_
   simp only [List.set_cons_zero,List.set_cons_succ,List.set_nil,List.eraseIdx_cons_zero,List.eraseIdx_cons_succ] at L
   have c2:=L.cell 2 rfl
   simp (implicitDefEqProofs:=false) only [go_sem,c2]
   exact ⟨rfl,L.fr⟩
theorem xp_ok (s:Bs) (hl:s.length≤maxLen) {H:Heap} (hG:GlobH H):HCalls Tryz.prog 33 #[sv s] H fun v H'=>v=fltV (srcP progP s)∧Fr [] H H':=by
 refine calls_of_vc (args:=[_]) Tryz.func33 c33ok (Nat.le_of_ble_eq_true rfl) ?_
 have L:Lv [] H [] (fun _=>True) H [] []:=Lv.start (by simp) (fun _ _ _ _=>trivial)
 simp (implicitDefEqProofs:=false) only [go_sem,c33]
 refine L.newP fun b1 H1 L=>?_
 simp (implicitDefEqProofs:=false) only [go_sem]
 refine (pparse_ok s hl (hG.ext L.fr)).mono ?_
 rintro v H3 ⟨hv,hf3⟩
 have L:=L.ext hf3
 cases e:srcP progP s with
 | error e=>
   rw [e] at hv
   simp only [ResR] at hv
   subst hv
   simp (implicitDefEqProofs:=false) only [go_sem,zeroN,sv]
   refine L.newP fun b2 H4 L=>?_
   simp (implicitDefEqProofs:=false) only [go_sem]
   refine L.newP fun b3 H5 L=>?_
   simp (implicitDefEqProofs:=false) only [go_sem]
   refine L.stoAll 1 rfl rfl (by simp [Value.oneCell']) fun H6 L=>?_
   simp only [List.set_cons_zero,List.set_cons_succ,List.set_nil,List.eraseIdx_cons_zero,List.eraseIdx_cons_succ] at L
   simp (implicitDefEqProofs:=false) only [go_sem]
   refine L.stoAll 0 rfl rfl (by simp [Value.oneCell']) fun H7 L=>?_
   simp only [List.set_cons_zero,List.set_cons_succ,List.set_nil,List.eraseIdx_cons_zero,List.eraseIdx_cons_succ] at L
   have c0:=L.cell 0 rfl
   simp (implicitDefEqProofs:=false) only [go_sem,c0]
   refine L.stoAll 2 rfl rfl (by simp [Value.oneCell']) fun H8 L=>?_
   simp only [List.set_cons_zero,List.set_cons_succ,List.set_nil,List.eraseIdx_cons_zero,List.eraseIdx_cons_succ] at L
   have c2:=L.cell 2 rfl
   simp (implicitDefEqProofs:=false) only [go_sem,c2]
   exact ⟨rfl,L.fr⟩
 | ok n=>
   rw [e] at hv
   simp only [ResR] at hv
   obtain ⟨cs,rfl,hr⟩:=hv
   obtain ⟨kk,tt,nn,aa,ks⟩:=n
   obtain ⟨kv,rfl,hkv⟩:=RepP.nd_open hr
   have hone:=nd_one hkv
   simp (implicitDefEqProofs:=false) only [go_sem,zeroN,sv]
   refine L.newP fun b2 H4 L=>?_
   simp (implicitDefEqProofs:=false) only [go_sem]
   refine L.newP fun b3 H5 L=>?_
   simp (implicitDefEqProofs:=false) only [go_sem]
   refine L.stoAll 1 rfl rfl (one_agg hone) fun H6 L=>?_
   simp only [List.set_cons_zero,List.set_cons_succ,List.set_nil,List.eraseIdx_cons_zero,List.eraseIdx_cons_succ] at L
   simp (implicitDefEqProofs:=false) only [go_sem]
   refine L.stoAll 0 rfl rfl (by simp [Value.oneCell']) fun H7 L=>?_
   simp only [List.set_cons_zero,List.set_cons_succ,List.set_nil,List.eraseIdx_cons_zero,List.eraseIdx_cons_succ] at L
   have c0:=L.cell 0 rfl
   simp (implicitDefEqProofs:=false) only [go_sem,c0]
   refine L.stoAll 2 rfl rfl (by simp [Value.oneCell']) fun H8 L=>?_
   simp only [List.set_cons_zero,List.set_cons_succ,List.set_nil,List.eraseIdx_cons_zero,List.eraseIdx_cons_succ] at L
   have c2:=L.cell 2 rfl
   simp (implicitDefEqProofs:=false) only [go_sem,c2]
   exact ⟨rfl,L.fr⟩
end Go.Proofs.YtmhdkbmnpekpoaaGreatDoor
end
section
set_option linter.unusedSimpArgs false
set_option linter.unusedVariables false
set_option maxRecDepth 8000
namespace Go.Proofs.YtmhdkbmnpekpoaaGreatDoor
open Gx Go
def finV (s:Bs) (bad:Bool) (R:Except Flt Nd):Bs × Int:=if bad then ([],1) else if 65536 < s.length then ([],6) else match R with
 | .ok _=>(s,0)
 | .error e=>if e.1=0 then (s,0) else ([],6)
theorem finish_ok {H:Heap} {O:List Nat} {q g:Nat} {s:Bs} {bad:Bool} (hp:Pr H O q s bad) (hG:GlobH H) (hl:s.length≤maxLen) (hg:hasBody Tryz.prog g=true) {R:Except Flt Nd}
 (hc:∀ {H:Heap},GlobH H→HCalls Tryz.prog g #[sv s] H fun v H'=>v=fltV R∧Fr [] H H') :
 HCalls Tryz.prog 24 #[.pointer (some ⟨q,0,none⟩),.func (.func g) #[] #[]] H fun r H'=>r= .tuple #[sv (finV s bad R).1,.int .i64 (finV s bad R).2]∧Fr O H H':=by
 obtain ⟨av,bv',hb⟩:=hp.blk
 have k2:=hb.cell 2
 refine calls_of_vc (args:=[_,_]) Tryz.func24 c24ok (Nat.le_of_ble_eq_true rfl) ?_
 simp (implicitDefEqProofs:=false) only [go_sem,c24,k2]
 cases bad with
 | true=>
   simp (implicitDefEqProofs:=false) only [go_sem]
   exact ⟨rfl,Fr.refl _ _⟩
 | false=>
   simp (implicitDefEqProofs:=false) only [go_sem]
   refine (str_ok hp).mono ?_
   rintro r H1 ⟨rfl,hf1⟩
   by_cases h:65536 < s.length
   ·have h1:(65536:Int) < (s.length:Int):=by omega
    simp (implicitDefEqProofs:=false) only [go_sem,sv,h1]
    exact ⟨by simp [finV,h],hf1⟩
   ·have h1:¬ (65536:Int) < (s.length:Int):=by omega
    simp (implicitDefEqProofs:=false) only [go_sem,sv,h1]
    refine ⟨hg,(hc (hp.glob hG hf1)).mono ?_⟩
    rintro r H2 ⟨rfl,hf2⟩
    have hf:Fr O H H2:=hf1.trans' hf2 (by simp)
    cases R with
    | ok n=>
      unfold fltV
      simp (implicitDefEqProofs:=false) only [go_sem]
      exact ⟨by simp [finV,h],hf⟩
    | error e=>
      unfold fltV
      by_cases he:e.1=0
      ·simp (implicitDefEqProofs:=false) only [go_sem,he]
       exact ⟨by simp [finV,h,he],hf⟩
      ·simp (implicitDefEqProofs:=false) only [go_sem,he]
       exact ⟨by simp [finV,h,he],hf⟩
end Go.Proofs.YtmhdkbmnpekpoaaGreatDoor
end
section
set_option linter.unusedSimpArgs false
set_option linter.unusedVariables false
set_option maxRecDepth 8000
namespace Go.Proofs.YtmhdkbmnpekpoaaGreatDoor
open Gx Go
theorem pr_new {H:Heap} {q:Nat} (hb:Blk H q 45 [.pointer none,.slice none 0 0,.bool false]) (h3:3≤q):Pr H [q] q [] false:=
 ⟨⟨_,_,none,hb,.inl rfl,Own.nil _ _ _,rfl⟩,fun x hx=>by simp at hx; omega⟩
theorem px_ok (x:Nd) (hin:inN x) {H:Heap} (hG:GlobH H) {v:Value} (hx:NO H [] x v) (hw:wN x≤140737488355328) :
 HCalls Tryz.prog 11 #[v] H fun r H'=>r= .tuple #[sv (finV (sB x) (!okB x) (srcP (exprP (loK 64)) (sB x))).1,.int .i64 (finV (sB x) (!okB x) (srcP (exprP (loK 64)) (sB x))).2]∧Fr [] H H':=by
 have hx0:=hx
 obtain ⟨k,t,n,a,ks⟩:=x
 obtain ⟨aa,cc,rfl,hk,hcc,hmx⟩:=hx.open
 refine calls_of_vc (args:=[_]) Tryz.func11 c11ok (Nat.le_of_ble_eq_true rfl) ?_
 simp (implicitDefEqProofs:=false) only [go_sem,c11]
 refine NewP_intro fun H1 hn1 hf1 hs1=>?_
 simp (implicitDefEqProofs:=false) only [go_sem]
 refine NewP_intro fun H2 hn2 hf2 hs2=>?_
 have h3:3≤H1.size:=by
  obtain ⟨⟨ev,h1,_⟩,_⟩:=hG
  have:=cellB_lt h1
  omega
 have hf12:Fr [] H H2:=hf1.trans hf2
 have hp:=pr_new hn2 h3
 have hG2:=hG.ext hf12
 have hno:NO H2 [H1.size] (.mk k t n a ks) (.agg #[.int .i64 k,sv t,.int .i64 n,.int .i64 a,.slice aa ks.length cc]):=by
  obtain ⟨cs,h1,h2⟩:=hx0
  refine ⟨cs,h1,h2.stay fun b hb _=>⟨fun hm=>?_,hf12.same b hb (by simp)⟩⟩
  simp at hm; omega
 have ca:=(hn1.ext hf2).cell
 unfold sv at ca
 simp (implicitDefEqProofs:=false) only [go_sem,ca]
 refine ((expr_all _ _ (Nat.le_refl _) hin hp hG2 hno 0 (by omega)) (by simp; omega)).mono ?_
 rintro r H3 ⟨rfl,O3,s3,b3,hp3,hf3,ho3,hst⟩
 have hG3:=hp.glob hG2 hf3
 have hlen:=hst.len
 have hb3:b3= !okB (.mk k t n a ks):=by rw [hst.bad]; simp
 have hs3:b3=false→s3=sB (.mk k t n a ks):=fun h=>by rw [hst.txt h,sAt_zero]; simp
 have hm3:s3.length≤maxLen:=by unfold maxLen; simp at hlen; omega
 simp (implicitDefEqProofs:=false) only [go_sem]
 refine (finish_ok hp3 hG3 hm3 (by kernel_rfl) (R:=srcP (exprP (loK 64)) s3) (fun hG=>x1_ok s3 hm3 hG)).mono ?_
 rintro r H4 ⟨rfl,hf4⟩
 have hF:Fr [] H H4:=(hf12.trans' hf3 (by simp; omega)).trans' hf4 (fun y hy=>.inr (by
  rcases ho3 y hy with h | h
  ·simp at h; omega
  ·have:=hf12.size; omega))
 have he:finV s3 b3 (srcP (exprP (loK 64)) s3)=finV (sB (.mk k t n a ks)) (!okB (.mk k t n a ks)) (srcP (exprP (loK 64)) (sB (.mk k t n a ks))):=by
  rw [← hb3]
  cases b3 with
  | true=>rfl
  | false=>rw [hs3 rfl]
 rw [he]
 simp (implicitDefEqProofs:=false) only [go_sem]
 exact hF
end Go.Proofs.YtmhdkbmnpekpoaaGreatDoor
end
section
set_option linter.unusedSimpArgs false
set_option linter.unusedVariables false
set_option maxRecDepth 8000
namespace Go.Proofs.YtmhdkbmnpekpoaaGreatDoor
open Gx Go
theorem sDs_take:∀ (ks:List Nd) (i:Nat) (h:i < ks.length),sDs (ks.take (i + 1))=sDs (ks.take i) ++ (sD ks[i] ++ [59,10])
 | x :: r,0,_=>by simp [sDs]
 | x :: r,i + 1,h=>by
   have:=sDs_take r i (by simpa using h)
   simp only [List.take_succ_cons,sDs,List.getElem_cons_succ,this]; simp
def okPg (x:Nd):Bool:=decide (kindOf x=1) && decide (textOf x=[]) && decide (numOf x=0) && (kidsOf x).all okD
theorem pp_ok (x:Nd) (hin:inN x) {H:Heap} (hG:GlobH H) {v:Value} (hx:NO H [] x v) (hw:wN x + 2 * (kidsOf x).length≤140737488355328) :
 HCalls Tryz.prog 14 #[v] H fun r H'=>r= .tuple #[sv (finV (sDs (kidsOf x)) (!okPg x) (srcP progP (sDs (kidsOf x)))).1,.int .i64 (finV (sDs (kidsOf x)) (!okPg x) (srcP progP (sDs (kidsOf x)))).2]∧Fr [] H H':=by
 have hx0:=hx
 obtain ⟨k,t,n,a,ks⟩:=x
 obtain ⟨aa,cc,rfl,hk,hcc,hmx⟩:=hx.open
 refine calls_of_vc (args:=[_]) Tryz.func14 c14ok (Nat.le_of_ble_eq_true rfl) ?_
 simp (implicitDefEqProofs:=false) only [go_sem,c14]
 refine NewP_intro fun H1 hn1 hf1 hs1=>?_
 simp (implicitDefEqProofs:=false) only [go_sem]
 refine NewP_intro fun H2 hn2 hf2 hs2=>?_
 have h3:3≤H1.size:=by
  obtain ⟨⟨ev,h1,_⟩,_⟩:=hG
  have:=cellB_lt h1
  omega
 have hf12:Fr [] H H2:=hf1.trans hf2
 have hp:=pr_new hn2 h3
 have hG2:=hG.ext hf12
 have ca:=(hn1.ext hf2).cell
 unfold sv at ca
 simp (implicitDefEqProofs:=false) only [go_sem,ca]
 refine (bare_ok (t:=t) 1 (-1)).mono ?_
 rintro r H3 ⟨rfl,hf3⟩
 have hf123:=hf12.trans hf3
 have hp3:=hp.stb hf3 (by simp)
 have hk3:Rep H3 [H1.size] (kidsD ks) [.slice aa ks.length cc]:=hk.stay fun b hb _=>⟨fun hm=>by simp at hm; omega,hf123.same b hb (by simp)⟩
 have hG3:=hG.ext hf123
 have ca:=(hn1.ext (hf2.trans hf3)).cell
 unfold sv at ca
 have hs:=str_nil_iff t
 have L:=PL.start hp3
 rw [show decide ((-1:Int) < 0)=true from rfl,Bool.true_or,Bool.and_true]
 simp (implicitDefEqProofs:=false) only [go_sem,ca]
 refine L.pmustE (decide (k=1) && decide (t=[]) && decide (n=0)) (by simp only [hs]; grind) fun H4 L hm=>?_
 have ca:=((hn1.ext (hf2.trans hf3)).fr L.fr (by simp; omega)).cell
 unfold sv at ca
 simp (implicitDefEqProofs:=false) only [go_sem,ca]
 generalize hb1:(false || !(decide (k=1) && decide (t=[]) && decide (n=0)))=b1 at *
 refine vc_loop (fun (i:Nat) H'=>i≤ks.length∧∃ O' s' b' l,PL [H1.size] H3 H1.size O' s' b' H' l∧Pw [] b1 s' b' ((ks.take i).all okD) (sDs (ks.take i)) (wL (ks.take i) + 2 * i))
  (fun i=>[(4,.pointer (some ⟨H1.size,0,none⟩)),(24,.slice aa ks.length cc),(25,.int .i64 ks.length),(26,.int .i64 i)]) (fun i=>ks.length - i) 0 ?_ ?_ ?_
 ·exact ⟨Nat.zero_le _,_,_,_,_,L,by simpa [sDs,wL] using Pw.refl [] _⟩
 ·simp (implicitDefEqProofs:=false) only [go_sem]
 ·rintro i H5 ⟨hi,O1,s1,b2,l1,Li,hst⟩
  have hlen:=hst.len
  simp only [kidsOf] at hw
  have hwn:wN (.mk k t n a ks)=t.length + 64 + wL ks:=rfl
  rw [hwn] at hw
  rcases Nat.lt_or_ge i ks.length with hlt | hge
  ·have h0:(0:Int)≤(i:Int):=by omega
   have h1:(i:Int) < (ks.length:Int):=by omega
   have hwr:=wrap_at hlt hmx
   have hws:=wL_take ks i hlt
   have hwl:=wL_le ks (i + 1)
   have hod:=all_take okD ks i hlt
   have hsd:=sDs_take ks i hlt
   obtain ⟨b,o,c,k1,t1,n1,a1,kks,kv1,e1,e2,⟨q0,q1,q2,q3,q4⟩,hrr,hone,hbO⟩:=kidO hk3 i hlt
   cases e1
   have L:=Li
   have q0:=cellB_fr q0 L.fr hbO
   have q1:=cellB_fr q1 L.fr hbO
   have q2:=cellB_fr q2 L.fr hbO
   have q3:=cellB_fr q3 L.fr hbO
   have q4:=cellB_fr q4 L.fr hbO
   simp only [Nat.add_zero] at q0
   unfold sv at q1
   simp (implicitDefEqProofs:=false) only [go_sem,h0,h1,q0,q1,q2,q3,q4]
   refine NewP_intro fun H6 hn6 hf6 _=>?_
   have L5:=L.push hf6 hn6
   simp (implicitDefEqProofs:=false) only [go_sem]
   refine Sto_all hn6 rfl (one_agg hone) fun H7 hn7 hf7 _=>?_
   have L:=L5.sto 0 rfl hf7 hn7
   simp only [List.set_cons_zero,List.set_cons_succ,List.set_nil,List.eraseIdx_cons_zero,List.eraseIdx_cons_succ] at L
   have ck:=L.cell 0 rfl
   unfold sv at ck
   simp (implicitDefEqProofs:=false) only [go_sem,ck]
   refine L.pgo (declW _ (inL_get ks i hlt hin.2.2) L.st (hp3.glob hG3 L.fr) (L.pno hrr)) (by simp at hlen; omega) fun Hy Oy sy by_ L hy=>?_
   have hly:=hy.len
   simp (implicitDefEqProofs:=false) only [go_sem]
   refine L.newS fun bz Hz L=>?_
   simp (implicitDefEqProofs:=false) only [go_sem]
   refine L.pput 0 [[59,10]] rfl (by simp) (by simp at hlen ⊢; omega) fun Hq Oq L=>?_
   simp (implicitDefEqProofs:=false) only [go_sem,hwr]
   refine loopK_intro (i + 1) ?_ ?_ ⟨by omega,_,_,_,_,L,(hst.trans (hy.trans (Pw.put _ _ _))).to (by rw [hod]; simp) (fun _=>by rw [hsd]; simp) (by simp; omega)⟩
   ·show ks.length - (i + 1) < ks.length - i
    omega
   ·simp (implicitDefEqProofs:=false) only [go_sem,hwr]
  ·have h1:¬ ((i:Int) < (ks.length:Int)):=by omega
   obtain rfl:i=ks.length:=by omega
   rw [List.take_length] at hst hlen
   have hm3:s1.length≤maxLen:=by unfold maxLen; simp at hlen; omega
   have hb3:b2= !okPg (.mk k t n a ks):=by
    rw [hst.bad,← hb1]
    simp only [okPg,kindOf,textOf,numOf,kidsOf]
    grind
   have hs3:b2=false→s1=sDs ks:=fun h=>by rw [hst.txt h]; simp
   have L:=Li
   simp (implicitDefEqProofs:=false) only [go_sem,h1]
   refine (finish_ok L.st (hp3.glob hG3 L.fr) hm3 (by kernel_rfl) (R:=srcP progP s1) (fun hG=>xp_ok s1 hm3 hG)).mono ?_
   rintro r H6 ⟨rfl,hf6⟩
   have hF:Fr [] H H6:=(hf123.trans' L.fr (by simp; omega)).trans' hf6 (fun y hy=>.inr (by
    rcases L.poo y hy with h | h
    ·simp at h; omega
    ·have:=hf123.size; omega))
   have he:finV s1 b2 (srcP progP s1)=finV (sDs ks) (!okPg (.mk k t n a ks)) (srcP progP (sDs ks)):=by
    rw [← hb3]
    cases b2 with
    | true=>rfl
    | false=>rw [hs3 rfl]
   rw [he]
   simp (implicitDefEqProofs:=false) only [go_sem]
   exact ⟨rfl,hF⟩
end Go.Proofs.YtmhdkbmnpekpoaaGreatDoor
end
section
set_option linter.unusedSimpArgs false
set_option linter.unusedVariables false
set_option maxRecDepth 8000
namespace Go.Proofs.YtmhdkbmnpekpoaaGreatDoor
open Gx Go
def Sz (x:Nd) (l:List Tk):Prop:=inN x∧wN x≤100 * l.length
def SzL (ks:List Nd) (n:Nat):Prop:=inL ks∧wL ks≤n
theorem Sz.mk {k n p:Int} {t:Bs} {ks:List Nd} {l:List Tk} (hn:-1000000000000000≤n∧n≤1000000000000000) (ht:t.length≤16) {m:Nat} (hk:SzL ks m) (hm:m + 80≤100 * l.length):Sz (.mk k t n p ks) l:=by
 refine ⟨?_,?_⟩
 ·rw [inN]; exact ⟨by omega,by omega,hk.1⟩
 ·rw [wN]
  have:=hk.2
  omega
theorem SzL.nil:SzL [] 0:=⟨trivial,Nat.le_refl _⟩
theorem SzL.cons {x:Nd} {r:List Nd} {l:List Tk} {n:Nat} (h:Sz x l) (h':SzL r n):SzL (x :: r) (100 * l.length + n):=by
 refine ⟨⟨h.1,h'.1⟩,?_⟩
 rw [wL]
 have:=h.2
 have:=h'.2
 omega
theorem SzL.app:∀ {a b:List Nd} {n m:Nat},SzL a n→SzL b m→SzL (a ++ b) (n + m)
 | [],b,n,m,h,h'=>⟨h'.1,by have:=h'.2; rw [List.nil_append]; omega⟩
 | x :: a,b,n,m,h,h'=>by
   obtain ⟨⟨h1,h2⟩,h3⟩:=h
   rw [wL] at h3
   have i:=SzL.app (a:=a) (b:=b) (n:=wL a) (m:=m) ⟨h2,Nat.le_refl _⟩ h'
   refine ⟨⟨h1,i.1⟩,?_⟩
   have:=i.2
   rw [List.cons_append,wL]
   omega
theorem wrap_len (b:Bool) (l:List Tk):l.length≤(wrapP b l).length:=by
 cases b with
 | false=>exact Nat.le_refl _
 | true=>show l.length≤(opT :: (l ++ [clT])).length; simp; omega
theorem at_len (x:Nd) (q:Nat):(tkB x).length≤(tkAt x q).length:=wrap_len _ _
theorem name_len {t:Bs} (h:nameB t=true):t.length≤16:=by
 unfold nameB at h
 rw [Bool.and_eq_true] at h
 exact valid_len h.1
theorem fn_len {t:Bs} (h:t ∈ fnList):t.length≤16:=by
 have:∀ g ∈ fnList,g.length≤16:=by decide
 exact this t h
theorem z15:-1000000000000000≤(0:Int)∧(0:Int)≤1000000000000000:=by decide
section
variable {N:Nat} (ih:∀ x,sizeN x≤N→okB x=true→Sz x (tkB x))
include ih
theorem sz_arg {fn:Bs} {x:Nd} (hs:sizeN x≤N) (ho:okJ fn x=true):Sz x (tkG fn x):=by
 rcases okJ_cases ho with ⟨rfl,t,p,z,rfl,ht,hz⟩ | ⟨rfl,p,z,z',rfl,hz,hz'⟩ | ⟨h1,h2,h3⟩
 ·simp only [sizeN,sizeL] at hs
  have e:=ih z (by omega) hz
  rw [tkG_rec.1]
  exact Sz.mk z15 (name_len ht) (SzL.cons e SzL.nil) (by simp; omega)
 ·simp only [sizeN,sizeL] at hs
  have e:=ih z (by omega) hz
  have e':=ih z' (by omega) hz'
  rw [tkG_map.1]
  exact Sz.mk z15 (by simp) (SzL.cons e (SzL.cons e' SzL.nil)) (by simp; omega)
 ·rw [(okJ_other h1 h2 x).2.2]
  exact ih x hs h3
theorem sz_args {fn:Bs}:∀ {ks:List Nd},sizeL ks≤N→okA fn ks=true→∀ b,SzL ks (100 * (tkA fn b ks).length)
 | [],hs,ho,b=>⟨trivial,Nat.zero_le _⟩
 | x :: r,hs,ho,b=>by
   simp only [sizeL] at hs
   rw [okA,Bool.and_eq_true] at ho
   have a:=sz_arg ih (by omega) ho.1
   have i:=sz_args (ks:=r) (by omega) ho.2 false
   refine ⟨⟨a.1,i.1⟩,?_⟩
   have:=a.2
   have:=i.2
   rw [wL,tkA_cons]
   simp only [List.length_append]
   omega
end
theorem sz_all:∀ (N:Nat) (x:Nd),sizeN x≤N→okB x=true→Sz x (tkB x)
 | 0,x,h,_=>by cases x; simp only [sizeN] at h; omega
 | N + 1,x,hs,ho=>by
   have ih:=sz_all N
   cases ok_cases ho with
   | @bin k n p t a b o lv l r hb ht hn ha hb'=>
     subst ht hn
     simp only [sizeN,sizeL] at hs
     have e:=ih a (by omega) ha
     have e':=ih b (by omega) hb'
     have l1:=at_len a l
     have l2:=at_len b r
     rw [tkB_bin hb]
     exact Sz.mk z15 (by simp) (SzL.cons e (SzL.cons e' SzL.nil)) (by simp only [List.length_append,List.length_cons]; omega)
   | @cond n p t a b c ht hn ha hb hc=>
     subst ht hn
     simp only [sizeN,sizeL] at hs
     have e1:=ih a (by omega) ha
     have e2:=ih b (by omega) hb
     have e3:=ih c (by omega) hc
     rw [tkB_if]
     exact Sz.mk z15 (by simp) (SzL.cons e1 (SzL.cons e2 (SzL.cons e3 SzL.nil))) (by simp only [List.length_append,List.length_cons]; omega)
   | @not n p t a ht hn ha=>
     subst ht hn
     simp only [sizeN,sizeL] at hs
     have e:=ih a (by omega) ha
     have l1:=at_len a 3
     rw [tkB_not]
     exact Sz.mk z15 (by simp) (SzL.cons e SzL.nil) (by simp only [List.length_append,List.length_cons]; omega)
   | @field n p t a ht hn ha=>
     subst hn
     simp only [sizeN,sizeL] at hs
     have e:=ih a (by omega) ha
     have l1:=at_len a 7
     rw [tkB_field]
     exact Sz.mk z15 (name_len ht) (SzL.cons e SzL.nil) (by simp only [List.length_append,List.length_cons]; omega)
   | @index n p t a b ht hn ha hb=>
     subst ht hn
     simp only [sizeN,sizeL] at hs
     have e:=ih a (by omega) ha
     have e':=ih b (by omega) hb
     have l1:=at_len a 7
     rw [tkB_index]
     exact Sz.mk z15 (by simp) (SzL.cons e (SzL.cons e' SzL.nil)) (by simp only [List.length_append,List.length_cons]; omega)
   | int ht h1 h2=>
     subst ht
     rw [tkB_int]
     refine Sz.mk ⟨h1,h2⟩ (by simp) SzL.nil ?_
     unfold intTk
     split <;> simp
   | quote ht hn=>
     subst hn
     rw [tkB_quote]
     exact Sz.mk z15 (valid_len ht) SzL.nil (by simp)
   | name ht hn=>
     subst hn
     rw [tkB_name]
     exact Sz.mk z15 (name_len ht) SzL.nil (by simp)
   | @call n p t ks ht hn hk=>
     subst hn
     simp only [sizeN] at hs
     have e:=sz_args ih (by omega) hk true
     rw [tkB_call]
     exact Sz.mk z15 (fn_len ht) e (by simp only [List.length_append,List.length_cons]; omega)
   | @word k n p t s hs' hb ht hn=>
     subst ht hn
     rw [tkB_word hs']
     exact Sz.mk z15 (by simp) SzL.nil (by simp)
theorem sz_expr {x:Nd} (ho:okB x=true):Sz x (tkB x):=sz_all _ x (Nat.le_refl _) ho
theorem sz_qs:∀ {qs:List Nd} (b:Bool),qs.all okQ=true→SzL qs (100 * (tkQs b qs).length)
 | [],b,_=>⟨trivial,Nat.zero_le _⟩
 | q :: r,b,ho=>by
   rw [List.all_cons,Bool.and_eq_true] at ho
   obtain ⟨t,p,rfl,ht⟩:=okQ_inv ho.1
   have i:=sz_qs (qs:=r) false ho.2
   have hq:Sz (.mk 47 t 0 p []) [qtT t]:=Sz.mk z15 (valid_len ht) SzL.nil (by simp)
   have:=SzL.cons hq i
   refine ⟨this.1,Nat.le_trans this.2 ?_⟩
   rw [tkQs]
   simp only [List.length_append,List.length_cons,List.length_nil]
   omega
theorem all_len (qs:List Nd):(tkQs true qs).length≤(tkAll qs).length:=by
 unfold tkAll
 split
 ·rename_i h
  rw [List.isEmpty_iff] at h
  subst h
  exact Nat.le_refl _
 ·simp; omega
theorem sz_allow {qs:List Nd} (ho:qs.all okQ=true):SzL qs (100 * (tkAll qs).length):=by
 have:=sz_qs true ho
 have l:=all_len qs
 exact ⟨this.1,by have:=this.2; omega⟩
theorem tkR_app {k n p:Int} {t:Bs} (ps:List Nd) (q:Nd):tkR (.mk k t n p (ps ++ [q]))=sgT [59] :: (tkQs true ps ++ [sgT [61,62],qtT (textOf q)]):=by
 unfold tkR
 have e1:(kidsOf (.mk k t n p (ps ++ [q]))).dropLast=ps:=by show (ps ++ [_]).dropLast=ps; rw [List.dropLast_concat]
 have e2:((kidsOf (.mk k t n p (ps ++ [q]))).getLast?.map textOf).getD []=textOf q:=by
  show (((ps ++ [_]).getLast?).map textOf).getD []=_
  rw [List.getLast?_append]; rfl
 rw [e1,e2]
theorem sz_rule {x:Nd} (ho:okR x=true):Sz x (tkR x):=by
 obtain ⟨p,ps,q,rfl,h1,h2⟩:=okR_inv ho
 obtain ⟨t,p',rfl,ht⟩:=okQ_inv h2
 have i:=sz_qs true h1
 have hq:Sz (.mk 47 t 0 p' []) [qtT t]:=Sz.mk z15 (valid_len ht) SzL.nil (by simp)
 rw [tkR_app]
 exact Sz.mk z15 (by simp) (i.app (SzL.cons hq SzL.nil)) (by simp only [List.length_append,List.length_cons,List.length_nil]; omega)
theorem sz_rules:∀ {rs:List Nd},rs.all okR=true→SzL rs (100 * (tkRs rs).length)
 | [],_=>⟨trivial,Nat.zero_le _⟩
 | x :: r,ho=>by
   rw [List.all_cons,Bool.and_eq_true] at ho
   have:=SzL.cons (sz_rule ho.1) (sz_rules (rs:=r) ho.2)
   refine ⟨this.1,Nat.le_trans this.2 ?_⟩
   rw [tkRs,List.length_append]; omega
section
variable {N:Nat} (ih:∀ x,sizeN x≤N→okL x=true→Sz x (tkL x))
include ih
theorem sz_mem {x:Nd} (hs:sizeN x≤N) (ho:okM x=true):Sz x (tkM x):=by
 obtain ⟨t,p,z,rfl,h1,h2⟩:=okM_inv ho
 simp only [sizeN,sizeL] at hs
 have e:=ih z (by omega) h2
 rw [tkM_eq]
 exact Sz.mk z15 (name_len h1) (SzL.cons e SzL.nil) (by simp only [List.length_append,List.length_cons]; omega)
theorem sz_mems:∀ {ks:List Nd},sizeL ks≤N→okMs ks=true→∀ b,SzL ks (100 * (tkMs b ks).length)
 | [],hs,ho,b=>⟨trivial,Nat.zero_le _⟩
 | x :: r,hs,ho,b=>by
   simp only [sizeL] at hs
   rw [okMs,Bool.and_eq_true] at ho
   have:=SzL.cons (sz_mem ih (by omega) ho.1) (sz_mems (ks:=r) (by omega) ho.2 false)
   refine ⟨this.1,Nat.le_trans this.2 ?_⟩
   rw [tkMs]
   simp only [List.length_append]
   omega
end
theorem int_one (n:Int):1≤(intTk n).length:=by
 unfold intTk
 split <;> simp
theorem sz_int {x:Nd} (h:okI x=true):Sz x (intTk (numOf x)):=by
 obtain ⟨n1,p1,rfl,a1,a2⟩:=okI_inv h
 have:=int_one n1
 exact Sz.mk ⟨a1,a2⟩ (by simp) SzL.nil (by show 0 + 80≤100 * (intTk n1).length; omega)
theorem sz_allL:∀ (N:Nat) (x:Nd),sizeN x≤N→okL x=true→Sz x (tkL x)
 | 0,x,h,_=>by cases x; simp only [sizeN] at h; omega
 | N + 1,x,hs,ho=>by
   have ih:=sz_allL N
   cases lat_cases ho with
   | named ht hn=>
     subst hn
     rw [tkL_named]
     exact Sz.mk z15 (name_len ht) SzL.nil (by simp)
   | flag ht hn=>
     subst ht hn
     rw [tkL_flag]
     exact Sz.mk z15 (by simp) SzL.nil (by simp)
   | register ht hn=>
     subst ht hn
     rw [tkL_register]
     exact Sz.mk z15 (by simp) SzL.nil (by simp)
   | set ht hn hk=>
     subst ht hn
     rw [tkL_set]
     exact Sz.mk z15 (by simp) (sz_allow hk) (by simp only [List.length_append,List.length_cons]; omega)
   | flat ht hn hk=>
     subst ht hn
     rw [tkL_flat]
     exact Sz.mk z15 (by simp) (sz_allow hk) (by simp only [List.length_append,List.length_cons]; omega)
   | @map n p t ks x ht hn hk hx=>
     subst ht hn
     have hsx:sizeN x≤N:=by
      have:=sizeL_in (x:=x) (ks:=ks ++ [x]) (by simp)
      simp only [sizeN] at hs
      omega
     have e:=ih x hsx hx
     rw [tkL_map]
     exact Sz.mk z15 (by simp) ((sz_allow hk).app (SzL.cons e SzL.nil)) (by simp only [List.length_append,List.length_cons]; omega)
   | @max n p t a b ht hn ha hb=>
     subst ht hn
     rw [tkL_max]
     exact Sz.mk z15 (by simp) (SzL.cons (sz_int ha) (SzL.cons (sz_int hb) SzL.nil)) (by simp only [List.length_append,List.length_cons]; omega)
   | @min n p t a b ht hn ha hb=>
     subst ht hn
     rw [tkL_min]
     exact Sz.mk z15 (by simp) (SzL.cons (sz_int ha) (SzL.cons (sz_int hb) SzL.nil)) (by simp only [List.length_append,List.length_cons]; omega)
   | @lex n p t a b ht hn ha hb=>
     subst ht hn
     simp only [sizeN,sizeL] at hs
     have e:=ih a (by omega) ha
     have e':=ih b (by omega) hb
     rw [tkL_lex]
     exact Sz.mk z15 (by simp) (SzL.cons e (SzL.cons e' SzL.nil)) (by simp only [List.length_append,List.length_cons]; omega)
   | @prod n p t a ks ht hn ha hk=>
     subst ht hn
     simp only [sizeN] at hs
     have hm:okMs (a :: ks)=true:=by rw [okMs,ha,hk]; rfl
     have i:=sz_mems ih (by omega) hm true
     rw [tkL_prod]
     exact Sz.mk z15 (by simp) i (by simp only [List.length_append,List.length_cons]; omega)
   | @closed n p t ks ht hn h1 h2=>
     subst ht hn
     have i:=(sz_qs true h1).app (sz_rules h2)
     rw [← split_q] at i
     rw [tkL_closed]
     exact Sz.mk z15 (by simp) i (by simp only [List.length_append,List.length_cons]; omega)
theorem sz_lat {x:Nd} (ho:okL x=true):Sz x (tkL x):=sz_allL _ x (Nat.le_refl _) ho
theorem okS_bd {n:Int} (h:okS n=true):-1000000000000000≤n∧n≤1000000000000000:=by
 unfold okS at h
 simp only [Bool.and_eq_true,decide_eq_true_eq] at h
 omega
theorem sz_ps:∀ {ps:List Nd} (b:Bool),ps.all okP=true→SzL ps (100 * (tkPs b ps).length)
 | [],b,_=>⟨trivial,Nat.zero_le _⟩
 | q :: r,b,ho=>by
   rw [List.all_cons,Bool.and_eq_true] at ho
   obtain ⟨t,n,p,rfl,ht,hn⟩:=okP_inv ho.1
   have hq:Sz (.mk 6 t n p []) (tkP1 (.mk 6 t n p [])):=Sz.mk (okS_bd hn) (name_len ht) SzL.nil (by simp [tkP1])
   have:=SzL.cons hq (sz_ps (ps:=r) false ho.2)
   refine ⟨this.1,Nat.le_trans this.2 ?_⟩
   rw [tkPs]
   simp only [List.length_append]
   omega
theorem sz_dec {x:Nd} (ho:okD x=true):Sz x (tkD x):=by
 cases dec_cases ho with
 | lat ht hy=>
   rw [tkD_lat]
   exact Sz.mk z15 (name_len ht) (SzL.cons (sz_lat hy) SzL.nil) (by simp only [List.length_append,List.length_cons]; omega)
 | obj ht hy=>
   rw [tkD_obj]
   exact Sz.mk z15 (name_len ht) (SzL.cons (sz_lat hy) SzL.nil) (by simp only [List.length_append,List.length_cons]; omega)
 | upd ht hp ho' he=>
   obtain ⟨t2,p2,rfl,ht2⟩:=okO_inv ho'
   have h2:Sz (.mk 48 t2 0 p2 []) [nmT t2]:=Sz.mk z15 (name_len ht2) SzL.nil (by simp)
   rw [tkD_upd]
   exact Sz.mk z15 (name_len ht) ((sz_ps true hp).app (SzL.cons h2 (SzL.cons (sz_expr he) SzL.nil))) (by simp only [List.length_append,List.length_cons,List.length_nil]; omega)
 | qry ht hp ho' he hn=>
   obtain ⟨t2,p2,rfl,ht2⟩:=okO_inv ho'
   have h2:Sz (.mk 48 t2 0 p2 []) [nmT t2]:=Sz.mk z15 (name_len ht2) SzL.nil (by simp)
   rw [tkD_qry]
   exact Sz.mk (okS_bd hn) (name_len ht) ((sz_ps true hp).app (SzL.cons h2 (SzL.cons (sz_expr he) SzL.nil))) (by simp only [List.length_append,List.length_cons,List.length_nil]; omega)
theorem sz_decs:∀ {ds:List Nd},(∀ x ∈ ds,okD x=true)→SzL ds (100 * (tkDs ds).length)
 | [],_=>⟨trivial,Nat.zero_le _⟩
 | x :: r,ho=>by
   have:=SzL.cons (sz_dec (ho x (by simp))) (sz_decs (ds:=r) fun y hy=>ho y (by simp [hy]))
   refine ⟨this.1,Nat.le_trans this.2 ?_⟩
   rw [tkDs]
   simp only [List.length_append,List.length_cons]
   omega
theorem cost_one:∀ l:List Tk,cost (fun _=>1) l=l.length
 | []=>rfl
 | t :: r=>by rw [cost,cost_one r,List.length_cons]; omega
theorem one_wo:Wo (fun _=>1):=fun _ _ _=>rfl
theorem lex_count {s:Bs} {T:List Tk} (h:lexT s= .ok T):T.length≤65537:=(lexT_len h).1
theorem expr_src {s:Bs} {n:Nd} (h:srcP (exprP (loK 64)) s= .ok n):okB n=true∧opB n≤64∧(sB n).length≤3 * s.length∧inN n∧wN n≤10000000:=by
 unfold srcP at h
 cases e:lexT s with
 | bad c k=>rw [e] at h; cases h
 | ok T=>
   rw [e] at h
   simp only [topP] at h
   cases e2:exprP (loK 64) T with
   | error e'=>rw [e2] at h; cases h
   | ok q=>
     obtain ⟨m,r⟩:=q
     rw [e2] at h
     simp only at h
     split at h
     ·cases h
      obtain ⟨h1,h2,h3,_⟩:=expr_min lenT_wo (lex_gt e) e2
      obtain ⟨_,_,h4,_⟩:=expr_min one_wo (lex_gt e) e2
      have h5:=wt_expr lenT_wt h1
      rw [wtS_len] at h5
      have h6:=lenT_src e
      rw [cost_one,cost_one,cost_one] at h4
      have h7:=lex_count e
      obtain ⟨h8,h9⟩:=sz_expr h1
      exact ⟨h1,h2,by omega,h8,by omega⟩
     ·cases h
theorem prog_src {s:Bs} {n:Nd} (h:srcP progP s= .ok n):∃ ds,n= .mk 1 [] 0 0 ds∧(∀ x ∈ ds,okD x=true∧opD x≤64)∧(sDs ds).length≤3 * s.length∧inN n∧wN n≤10000000∧ds.length≤65537:=by
 unfold srcP at h
 cases e:lexT s with
 | bad c k=>rw [e] at h; cases h
 | ok T=>
   rw [e] at h
   obtain ⟨ds,r,h1,h2,rfl⟩:=prog_open h
   obtain ⟨ds',e1,h3,h4,_⟩:=prog_min lenT_wo _ _ _ _ _ (lex_gt e) h1
   obtain ⟨ds2,e2,_,h5,_⟩:=prog_min one_wo _ _ _ _ _ (lex_gt e) h1
   rw [List.nil_append] at e1 e2
   subst e1
   subst e2
   have h6:=wt_prog lenT_wt (by show (1:Nat)≤2 * 1; omega) fun x hx=>(h3 x hx).1
   rw [wtS_len] at h6
   have h7:=lenT_src e
   rw [cost_one,cost_one,cost_one] at h5
   have h8:=lex_count e
   obtain ⟨h9,h10⟩:=sz_decs fun x hx=>(h3 x hx).1
   have h11:=tkDs_len ds
   refine ⟨ds,rfl,h3,by omega,?_,?_,by omega⟩
   ·rw [inN]; exact ⟨by omega,by omega,h9⟩
   ·rw [wN]
    simp only [List.length_nil]
    omega
end Go.Proofs.YtmhdkbmnpekpoaaGreatDoor
end
section
set_option linter.unusedSimpArgs false
set_option linter.unusedVariables false
set_option maxRecDepth 8000
namespace Go.Proofs.YtmhdkbmnpekpoaaGreatDoor
open Gx Go
def ndOf:Except Flt Nd→Nd
 | .error _=>.mk 0 [] 0 0 []
 | .ok n=>n
def ftOf:Except Flt Nd→Flt
 | .error e=>e
 | .ok _=>(0,0)
theorem ResR.open {A:Except Flt Nd} {v:Value} {H H':Heap} (h:ResR A v H H'):∃ k t n a ks kv,ndOf A= .mk k t n a ks∧v= .tuple #[.agg #[.int .i64 k,sv t,.int .i64 n,.int .i64 a,kv],.agg #[.int .i64 (ftOf A).1,.int .i64 (ftOf A).2]]∧RepP H' (fun x=>x < H.size) (kidsD ks) [kv]:=by
 cases A with
 | error e=>
   simp only [ResR] at h
   exact ⟨0,[],0,0,[],_,rfl,h,zeroKids⟩
 | ok m=>
   simp only [ResR] at h
   obtain ⟨cs,rfl,hr⟩:=h
   obtain ⟨k,t,n,a,ks⟩:=m
   obtain ⟨kv,rfl,hkv⟩:=RepP.nd_open hr
   exact ⟨k,t,n,a,ks,kv,rfl,rfl,hkv⟩
def outR (ok:Bool) (d:Nat) (s:Bs):Bs × Int:=if ok=true then (if d≤64∧s.length≤65536 then (s,0) else ([],6)) else ([],1)
def opDs:List Nd→Nat
 | []=>0
 | x :: r=>max (opD x) (opDs r)
theorem opDs_le:∀ {ds:List Nd} {k:Nat},opDs ds≤k↔∀ x ∈ ds,opD x≤k
 | [],k=>⟨fun _ x hx=>by simp at hx,fun _=>Nat.zero_le _⟩
 | x :: r,k=>by
   rw [opDs,Nat.max_le,opDs_le (ds:=r)]
   constructor
   ·rintro ⟨h1,h2⟩ y hy
    rcases List.mem_cons.1 hy with rfl | hy
    ·exact h1
    ·exact h2 y hy
   ·exact fun h=>⟨h x (by simp),fun y hy=>h y (by simp [hy])⟩
theorem fin_of {s:Bs} {ok:Bool} {d:Nat} {R:Except Flt Nd} {x:Nd} (h:ok=true→s.length≤65536→Back (d≤64) R x):finV s (!ok) R=outR ok d s:=by
 unfold finV outR
 cases ok with
 | false=>rfl
 | true=>
   rw [if_neg (by decide),if_pos rfl]
   by_cases hl:65536 < s.length
   ·rw [if_pos hl,if_neg (fun q=>by have:=q.2; omega)]
   ·rw [if_neg hl]
    rcases h rfl (by omega) with ⟨h1,x',rfl,_⟩ | ⟨h1,o,rfl⟩
    ·rw [if_pos ⟨h1,by omega⟩]
    ·rw [if_neg (fun q=>h1 q.1)]; rfl
def xR (x:Nd):Bs × Int:=outR (okB x) (opB x) (sB x)
def gR (x:Nd):Bs × Int:=outR (okPg x) (opDs (kidsOf x)) (sDs (kidsOf x))
theorem okPg_kids {x:Nd} (h:okPg x=true):kindOf x=1∧textOf x=[]∧numOf x=0∧∀ y ∈ kidsOf x,okD y=true:=by
 unfold okPg at h
 simp only [Bool.and_eq_true,decide_eq_true_eq] at h
 exact ⟨h.1.1.1,h.1.1.2,h.1.2,List.all_eq_true.1 h.2⟩
theorem pg_back {x:Nd} (h:okPg x=true) (hl:(sDs (kidsOf x)).length≤65536):Back (opDs (kidsOf x)≤64) (srcP progP (sDs (kidsOf x))) x:=by
 obtain ⟨k,t,n,p,ks⟩:=x
 obtain ⟨h1,h2,h3,h4⟩:=okPg_kids h
 obtain rfl:k=1:=h1
 obtain rfl:t=[]:=h2
 obtain rfl:n=0:=h3
 have:=prog_back (p:=p) h4 hl
 unfold Back at this ⊢
 rw [opDs_le]
 exact this
section
variable {x:Nd} (hin:inN x) {H:Heap} (hG:GlobH H) {v:Value} (hx:NO H [] x v)
include hin hG hx
theorem px (hw:wN x≤140737488355328):HCalls Tryz.prog 11 #[v] H fun r H'=>r= .tuple #[sv (xR x).1,.int .i64 (xR x).2]∧Fr [] H H':=by
 have h:=px_ok x hin hG hx hw
 rw [fin_of fun h hl=>expr_back h hl] at h
 exact h
theorem pp (hw:wN x + 2 * (kidsOf x).length≤140737488355328):HCalls Tryz.prog 14 #[v] H fun r H'=>r= .tuple #[sv (gR x).1,.int .i64 (gR x).2]∧Fr [] H H':=by
 have h:=pp_ok x hin hG hx hw
 rw [fin_of fun h hl=>pg_back h hl] at h
 exact h
end
set_option maxHeartbeats 1000000 in
theorem again_ok {s t:Bs} {m:Nd} (h:srcP (exprP (loK 64)) s= .ok m) (hx:xR m=(t,0)) (hl:s.length≤maxLen) {H:Heap} (hG:GlobH H):HCalls Tryz.prog 21 #[sv s] H fun v H'=>v=sv t∧Fr [] H H':=by
 refine calls_of_vc (args:=[_]) Tryz.func21 c21ok (Nat.le_of_ble_eq_true rfl) ?_
 have L:=L0 H
 obtain ⟨_,_,_,h4,h5⟩:=expr_src h
 simp (implicitDefEqProofs:=false) only [go_sem,c21]
 refine (pexpr_ok s hl (hG.ext L.fr)).mono ?_
 rintro v H1 ⟨hv,hf1⟩
 rw [h] at hv
 obtain ⟨xk,xt,xn,xa,xks,xkv,xe,rfl,hkv⟩:=hv.open
 have L:=(L.ext hf1).add (L.built hkv)
 simp (implicitDefEqProofs:=false) only [go_sem]
 refine L.newP fun xx H2 L=>?_
 simp (implicitDefEqProofs:=false) only [go_sem]
 refine L.newP fun xy H3 L=>?_
 simp (implicitDefEqProofs:=false) only [go_sem]
 refine L.stoAll 1 rfl rfl (one_agg (nd_one (L.dat (kidsD xks,[xkv]) (by simp)))) fun H4 L=>?_
 simp only [List.set_cons_zero,List.set_cons_succ,List.set_nil,List.eraseIdx_cons_zero,List.eraseIdx_cons_succ] at L
 simp (implicitDefEqProofs:=false) only [go_sem]
 refine L.stoAll 0 rfl rfl (by simp [Value.oneCell']) fun H5 L=>?_
 simp only [List.set_cons_zero,List.set_cons_succ,List.set_nil,List.eraseIdx_cons_zero,List.eraseIdx_cons_succ] at L
 have c0:=L.cell 0 rfl
 have c1:=L.cell 1 rfl
 obtain rfl:m= .mk xk xt xn xa xks:=xe
 simp (implicitDefEqProofs:=false) only [go_sem,c0,c1,ftOf]
 have hp:=px h4 (hG.ext L.fr) (NA.mk (k:=xk) (t:=xt) (n:=xn) (a:=xa) (L.dat (kidsD xks,[xkv]) (by simp)).rep) (by omega)
 rw [hx] at hp
 unfold sv at hp
 refine hp.mono ?_
 rintro v H6 ⟨rfl,hf6⟩
 have L:=L.ext hf6
 simp (implicitDefEqProofs:=false) only [go_sem,sv]
 exact L.fr
end Go.Proofs.YtmhdkbmnpekpoaaGreatDoor
end
section
set_option linter.unusedSimpArgs false
set_option linter.unusedVariables false
set_option maxRecDepth 8000
namespace Go.Proofs.YtmhdkbmnpekpoaaGreatDoor
open Gx Go
theorem xR_src {s t:Bs} {n:Nd} (h:srcP (exprP (loK 64)) s= .ok n) (hs:sB n=t) (hl:t.length≤65536):xR n=(t,0):=by
 obtain ⟨h1,h2,_⟩:=expr_src h
 unfold xR outR
 rw [if_pos h1,hs,if_pos ⟨h2,hl⟩]
theorem bk40:binK 40=some (sgT [43],6,6,7):=rfl
theorem bk41:binK 41=some (sgT [45],6,6,7):=rfl
theorem bk31:binK 31=some (kwT [111,114],1,1,2):=rfl
theorem dd1:Lib.itoa (-1)=[45,49]:=by
 have:Lib.itoa (-1)=45 :: Lib.decDigits 1:=rfl
 rw [this,dd_small (by decide)]; rfl
theorem exa0:∃ n,srcP progP [111,98,106,101,99,116,32,97,58,115,101,116,40,39,120,39,44,39,121,39,41,59]= .ok n∧gR n=([111,98,106,101,99,116,32,97,58,32,115,101,116,40,39,120,39,44,32,39,121,39,41,59] ++ [10],0):=by
 have h:srcP progP [111,98,106,101,99,116,32,97,58,115,101,116,40,39,120,39,44,39,121,39,41,59]= .ok (.mk 1 [] 0 0 [.mk 3 [97] 0 0 [.mk 13 [] 0 9 [.mk 47 [120] 0 13 [],.mk 47 [121] 0 17 []]]]):=by kernel_rfl
 refine ⟨_,h,?_⟩
 obtain ⟨ds,e,h1,_⟩:=prog_src h
 simp only [Nd.mk.injEq,true_and] at e
 subst e
 have ho:okPg (.mk 1 [] 0 0 [.mk 3 [97] 0 0 [.mk 13 [] 0 9 [.mk 47 [120] 0 13 [],.mk 47 [121] 0 17 []]]])=true:=by
  unfold okPg
  simp only [Bool.and_eq_true,decide_eq_true_eq]
  exact ⟨⟨⟨rfl,rfl⟩,rfl⟩,List.all_eq_true.2 fun x hx=>(h1 x hx).1⟩
 have hd:opDs (kidsOf (.mk 1 [] 0 0 [.mk 3 [97] 0 0 [.mk 13 [] 0 9 [.mk 47 [120] 0 13 [],.mk 47 [121] 0 17 []]]]))≤64:=opDs_le.2 fun x hx=>(h1 x hx).2
 unfold gR outR
 have hs:sDs (kidsOf (.mk 1 [] 0 0 [.mk 3 [97] 0 0 [.mk 13 [] 0 9 [.mk 47 [120] 0 13 [],.mk 47 [121] 0 17 []]]]))=[111,98,106,101,99,116,32,97,58,32,115,101,116,40,39,120,39,44,32,39,121,39,41,59] ++ [10]:=by
  show sDs [.mk 3 [97] 0 0 [.mk 13 [] 0 9 [.mk 47 [120] 0 13 [],.mk 47 [121] 0 17 []]]]=_
  rw [sDs,sD_obj,sL_set]; rfl
 rw [if_pos ho,hs,if_pos ⟨hd,by decide⟩]
theorem exa1:∃ n,srcP (exprP (loK 64)) [40,40,97,41,43,40,98,32,45,32,99,41,41]= .ok n∧xR n=([97,32,43,32,40,98,32,45,32,99,41],0):=by
 have h:srcP (exprP (loK 64)) [40,40,97,41,43,40,98,32,45,32,99,41,41]= .ok (.mk 40 [] 0 4 [.mk 48 [97] 0 2 [],.mk 41 [] 0 8 [.mk 48 [98] 0 6 [],.mk 48 [99] 0 10 []]]):=by kernel_rfl
 refine ⟨_,h,xR_src h ?_ (by decide)⟩
 rw [sB_bin bk40,sAt,sAt,sB_bin bk41,sAt,sAt,sB_name,sB_name,sB_name]; rfl
theorem exa2:∃ n,srcP (exprP (loK 64)) [40,97,32,45,32,98,41,45,99]= .ok n∧xR n=([97,32,45,32,98,32,45,32,99],0):=by
 have h:srcP (exprP (loK 64)) [40,97,32,45,32,98,41,45,99]= .ok (.mk 41 [] 0 7 [.mk 41 [] 0 3 [.mk 48 [97] 0 1 [],.mk 48 [98] 0 5 []],.mk 48 [99] 0 8 []]):=by kernel_rfl
 refine ⟨_,h,xR_src h ?_ (by decide)⟩
 rw [sB_bin bk41,sAt,sAt,sB_bin bk41,sAt,sAt,sB_name,sB_name,sB_name]; rfl
theorem exa3:∃ n,srcP (exprP (loK 64)) [110,111,116,32,40,97,32,111,114,32,98,41]= .ok n∧xR n=([110,111,116,32,40,97,32,111,114,32,98,41],0):=by
 have h:srcP (exprP (loK 64)) [110,111,116,32,40,97,32,111,114,32,98,41]= .ok (.mk 33 [] 0 0 [.mk 31 [] 0 7 [.mk 48 [97] 0 5 [],.mk 48 [98] 0 10 []]]):=by kernel_rfl
 refine ⟨_,h,xR_src h ?_ (by decide)⟩
 rw [sB_not,sAt,sB_bin bk31,sAt,sAt,sB_name,sB_name]; rfl
theorem exa4:∃ n,srcP (exprP (loK 64)) [40,105,102,32,97,32,116,104,101,110,32,98,32,101,108,115,101,32,99,41,32,43,32,45,32,49]= .ok n∧xR n=([40,105,102,32,97,32,116,104,101,110,32,98,32,101,108,115,101,32,99,41,32,43,32,45,49],0):=by
 have h:srcP (exprP (loK 64)) [40,105,102,32,97,32,116,104,101,110,32,98,32,101,108,115,101,32,99,41,32,43,32,45,32,49]= .ok (.mk 40 [] 0 21 [.mk 30 [] 0 1 [.mk 48 [97] 0 4 [],.mk 48 [98] 0 11 [],.mk 48 [99] 0 18 []],.mk 44 [] (-1) 23 []]):=by kernel_rfl
 refine ⟨_,h,xR_src h ?_ (by decide)⟩
 rw [sB_bin bk40,sAt,sAt,sB_if,sB_int,dd1,sB_name,sB_name,sB_name]; rfl
theorem exa5 (p:Int):gR (.mk 45 [] 0 p [])=([],1):=by
 unfold gR outR
 rw [if_neg (by unfold okPg; simp [kindOf])]
set_option maxHeartbeats 2000000 in
theorem awake_ok {H:Heap} (hG:GlobH H):HCalls Tryz.prog 9 #[] H fun v H'=>v= .bool true∧Fr [] H H':=by
 refine calls_of_vc (args:=[]) Tryz.func9 c9ok (Nat.le_of_ble_eq_true rfl) ?_
 have L:=L0 H
 obtain ⟨m0,h0,g0⟩:=exa0
 obtain ⟨m1,h1,g1⟩:=exa1
 obtain ⟨m2,h2,g2⟩:=exa2
 obtain ⟨m3,h3,g3⟩:=exa3
 obtain ⟨m4,h4,g4⟩:=exa4
 obtain ⟨ds,hm0,_,_,q4,q5,q6⟩:=prog_src h0
 have hc:=pparse_ok [111,98,106,101,99,116,32,97,58,115,101,116,40,39,120,39,44,39,121,39,41,59] (by decide) (hG.ext L.fr)
 have a1:=fun {H:Heap} (hG:GlobH H)=>again_ok h1 g1 (by decide) hG
 have a2:=fun {H:Heap} (hG:GlobH H)=>again_ok h2 g2 (by decide) hG
 have a3:=fun {H:Heap} (hG:GlobH H)=>again_ok h3 g3 (by decide) hG
 have a4:=fun {H:Heap} (hG:GlobH H)=>again_ok h4 g4 (by decide) hG
 rw [h0] at hc
 unfold sv at hc a1 a2 a3 a4
 simp (implicitDefEqProofs:=false) only [go_sem,c9]
 refine hc.mono ?_
 rintro v H1 ⟨hv,hf1⟩
 obtain ⟨xk,xt,xn,xa,xks,xkv,xe,rfl,hkv⟩:=hv.open
 have L:=(L.ext hf1).add (L.built hkv)
 simp (implicitDefEqProofs:=false) only [go_sem]
 refine L.newP fun b1 H2 L=>?_
 simp (implicitDefEqProofs:=false) only [go_sem]
 refine L.newP fun b2 H3 L=>?_
 simp (implicitDefEqProofs:=false) only [go_sem]
 refine L.stoAll 1 rfl rfl (one_agg (nd_one (L.dat (kidsD xks,[xkv]) (by simp)))) fun H4 L=>?_
 simp only [List.set_cons_zero,List.set_cons_succ,List.set_nil,List.eraseIdx_cons_zero,List.eraseIdx_cons_succ] at L
 simp (implicitDefEqProofs:=false) only [go_sem]
 refine L.stoAll 0 rfl rfl (by simp [Value.oneCell']) fun H5 L=>?_
 simp only [List.set_cons_zero,List.set_cons_succ,List.set_nil,List.eraseIdx_cons_zero,List.eraseIdx_cons_succ] at L
 have c0:=L.cell 0 rfl
 have c1:=L.cell 1 rfl
 obtain rfl:m0= .mk xk xt xn xa xks:=xe
 have hk:xks.length≤65537:=by
  cases hm0; exact q6
 have hp:=pp q4 (hG.ext L.fr) (NA.mk (k:=xk) (t:=xt) (n:=xn) (a:=xa) (L.dat (kidsD xks,[xkv]) (by simp)).rep) (by show wN _ + 2 * xks.length≤_; omega)
 rw [g0] at hp
 unfold sv at hp
 unfold sv at c1
 simp (implicitDefEqProofs:=false) only [go_sem,c0,c1,ftOf]
 refine hp.mono ?_
 rintro v H6 ⟨rfl,hf6⟩
 have L:=L.ext hf6
 have hp2:=pp (x:=.mk 45 [] 0 0 []) (by rw [inN]; exact ⟨by decide,by decide,trivial⟩) (hG.ext L.fr) (NA.mk (k:=45) (t:=[]) (n:=0) (a:=0) (zeroKids (B:=fun _=>False) [] (by simp))) (by decide)
 rw [exa5] at hp2
 unfold sv at hp2
 simp (implicitDefEqProofs:=false) only [go_sem]
 refine hp2.mono ?_
 rintro v H7 ⟨rfl,hf7⟩
 have L:=L.ext hf7
 have c0:=L.cell 0 rfl
 simp (implicitDefEqProofs:=false) only [go_sem,c0,sv,ba_eq,ftOf]
 refine (a1 (hG.ext L.fr)).mono ?_
 rintro v H8 ⟨rfl,hf8⟩
 have L:=L.ext hf8
 simp (implicitDefEqProofs:=false) only [go_sem]
 refine (a2 (hG.ext L.fr)).mono ?_
 rintro v H9 ⟨rfl,hf9⟩
 have L:=L.ext hf9
 simp (implicitDefEqProofs:=false) only [go_sem]
 refine (a3 (hG.ext L.fr)).mono ?_
 rintro v H10 ⟨rfl,hf10⟩
 have L:=L.ext hf10
 simp (implicitDefEqProofs:=false) only [go_sem]
 refine (a4 (hG.ext L.fr)).mono ?_
 rintro v H11 ⟨rfl,hf11⟩
 have L:=L.ext hf11
 simp (implicitDefEqProofs:=false) only [go_sem]
 exact L.fr
end Go.Proofs.YtmhdkbmnpekpoaaGreatDoor
end
section
set_option linter.unusedSimpArgs false
set_option linter.unusedVariables false
set_option maxRecDepth 8000
namespace Go.Proofs.YtmhdkbmnpekpoaaGreatDoor
open Gx Go
theorem okPg_mk {p:Int} {ds:List Nd} (h:∀ x ∈ ds,okD x=true):okPg (.mk 1 [] 0 p ds)=true:=by
 unfold okPg
 simp only [Bool.and_eq_true,decide_eq_true_eq]
 exact ⟨⟨⟨rfl,rfl⟩,rfl⟩,List.all_eq_true.2 h⟩
theorem gR_mk {p:Int} {ds:List Nd} (h:∀ x ∈ ds,okD x=true∧opD x≤64) (hl:(sDs ds).length≤65536):gR (.mk 1 [] 0 p ds)=(sDs ds,0):=by
 unfold gR outR
 rw [if_pos (okPg_mk fun x hx=>(h x hx).1)]
 exact if_pos ⟨opDs_le.2 fun x hx=>(h x hx).2,hl⟩
end Go.Proofs.YtmhdkbmnpekpoaaGreatDoor
end
section
set_option linter.unusedSimpArgs false
set_option linter.unusedVariables false
set_option maxRecDepth 8000
namespace Go.Proofs.YtmhdkbmnpekpoaaGreatDoor
open Gx Go
theorem wL_kids:∀ ks:List Nd,64 * ks.length≤wL ks
 | []=>Nat.zero_le _
 | x :: r=>by
   obtain ⟨k,t,n,a,ks⟩:=x
   have:=wL_kids r
   rw [wL,wN,List.length_cons]; omega
theorem wN_pp {x:Nd} (hw:wN x≤100000000):wN x≤140737488355328∧wN x + 2 * (kidsOf x).length≤140737488355328:=by
 obtain ⟨k,t,n,a,ks⟩:=x
 have:=wL_kids ks
 rw [wN] at hw ⊢
 show _∧_ + 2 * ks.length≤_
 omega
end Go.Proofs.YtmhdkbmnpekpoaaGreatDoor
end
section
set_option linter.unusedSimpArgs false
set_option linter.unusedVariables false
set_option maxRecDepth 8000
namespace Go.Proofs.YtmhdkbmnpekpoaaGreatDoor
open Gx Go
theorem _root_.Gx.RepP.list_open {H:Heap} {B:Nat→Prop} {m:Nat} {dl:List Dat} {v:Value} (h:RepP H B (.list m dl) [v]):∃ a c css,v= .slice a dl.length c∧dl.length≤c∧RepsP H B dl css∧(∀ x ∈ css,x.length=m)∧CsR H a css.flatten:=by
 classical
 obtain ⟨a,c,css,h1,h2,h3,h4,h5,h6⟩:=(by simpa only [Rep] using h ((List.range H.size).filter (fun b=>decide (B b))) (fun x hx=>by simpa using (List.mem_filter.1 hx).2):∃ a c css,_)
 simp only [List.cons.injEq,and_true] at h1
 refine ⟨a,c,css,h1,h2,fun M hM=>Reps.to (fun b hb hn=>⟨fun hm=>hn (List.mem_filter.2 ⟨List.mem_range.2 hb,by simpa using hM b hm⟩),rfl⟩) dl css h4,h5,h6.csR⟩
theorem nds_one {H:Heap}:∀ (ks:List Nd) (css:List (List Value)),Reps H [] (ks.map Nd.dat) css→∀ x ∈ css,∀ u ∈ x,u.oneCell'=true
 | [],css,h,x,hx=>by
   simp only [List.map_nil,Reps] at h
   subst h; simp at hx
 | k :: ks,css,h,x,hx=>by
   simp only [List.map_cons,Reps] at h
   obtain ⟨y,ys,rfl,h1,h2⟩:=h
   rcases List.mem_cons.1 hx with rfl | hx
   ·obtain ⟨kk,t,n,a,l⟩:=k
    obtain ⟨v,rfl,hv⟩:=nd_rep.1 h1
    obtain ⟨ad,c,rfl,_⟩:=Rep.slice hv
    intro u hu
    simp only [List.mem_cons,List.not_mem_nil,or_false] at hu
    rcases hu with rfl | rfl | rfl | rfl | rfl <;> rfl
   ·exact nds_one ks ys h2 x hx
theorem app_nds {H:Heap} {N:Nat} {R:Value→Heap→Prop} {kv v:Value} {g:Option Nat} {ns ks:List Nd} (hrow:LsO H (fun b=>N≤b) 24 5 v (ns.map Nd.dat) g) (hdat:RepP H (fun b=>N≤b) (kidsD ks) [kv]) (hg:∀ b,g=some b→N≤b) (hN:N≤H.size) (h63:ns.length + ks.length≤10485760)
 (hR:∀ a c g' H',LsO H' (fun b=>N≤b) 24 5 (.slice a (ns ++ ks).length c) ((ns ++ ks).map Nd.dat) g'→Fr g.toList H H'→(∀ b,g'=some b→g=some b∨H.size≤b)→R (.slice a (ns ++ ks).length c) H') :
 App Tryz.prog 22 22 22 H v kv R:=by
 obtain ⟨css,ho,h2,h3⟩:=hrow
 rw [List.length_map] at ho
 unfold kidsD at hdat
 obtain ⟨a,c,css',rfl,hc,h4,h5,h6⟩:=RepP.list_open hdat
 have hlen:css'.length=ks.length:=by rw [Reps.length (h4 [] (by simp)),List.length_map]
 have hone:=nds_one ks css' (h4 [] (by simp))
 have hfl:css'.flatten.length=ks.length * 5:=by rw [flatten_len h5,hlen]
 have hone':∀ u ∈ css'.flatten,u.oneCell'=true:=fun u hu=>by
  obtain ⟨x,hx,hu⟩:=List.mem_flatten.1 hu
  exact hone x hx u hu
 have hsrc:SrcH Tryz.prog H 5 22 (.slice a (ks.map Nd.dat).length c) ks.length css'.flatten:=by
  rw [List.length_map]
  rcases h6 with h6 | ⟨b,o,rfl,h7⟩
  ·have:ks=[]:=by
    rw [h6] at hfl
    exact List.eq_nil_of_length_eq_zero (by simp at hfl; omega)
   subst this
   rw [h6]
   exact SrcH.empty Tryz.underlying22 a c
  ·refine SrcH.cells Tryz.underlying22 hfl (fun j u hj=>?_) hone'
   have hlt:j < css'.flatten.length:=by
    rcases Nat.lt_or_ge j css'.flatten.length with h | h
    ·exact h
    ·rw [List.getElem?_eq_none h] at hj; cases hj
   rw [add_mk,cellAt_mk,h7 j hlt,← List.getElem?_eq_getElem hlt]; exact hj
 refine App_own ENd ho hsrc (by unfold maxLen; omega) (by omega) fun a' c' H' g' ho' hf hg'=>?_
 have e:ns.length + ks.length=(ns ++ ks).length:=by rw [List.length_append]
 rw [e] at ho' ⊢
 have hgN:∀ b,g'=some b→N≤b:=fun b hb=>by
  rcases hg' b hb with q | q
  ·exact hg b q
  ·omega
 refine hR a' c' g' H' ⟨css ++ css',by rw [List.length_map,List.flatten_append]; exact ho',fun x hx=>?_,?_⟩ hf hg'
 ·rcases List.mem_append.1 hx with hx | hx
  ·exact h2 x hx
  ·exact h5 x hx
 ·have hm:∀ x ∈ g.toList,N≤x:=fun x hx=>hg x (by simpa using hx)
  have hst:StaysP H (fun b=>N≤b) H' (fun b=>N≤b∨g'=some b):=StaysP.fr hf (fun x hx=>.inl (hm x hx)) fun x hx=>by
   rcases hx with hx | hx
   ·exact .inl hx
   ·exact .inl (hgN x hx)
  rw [List.map_append]
  exact RepsP.append ((h3.more fun x hx=>.inl (.inl hx)).to hst) (h4.to hst)
theorem old_rep {H H':Heap} {d:Dat} {cs:List Value} (h:Rep H [] d cs) (hf:Fr [] H H'):RepP H' (fun b=>H.size≤b) d cs:=
 ((RepP.of_rep h).ext (B':=fun b=>H.size≤b) (Fr.refl [] _) (fun x hx=>.inr hx)).ext hf fun x hx=>.inl hx
def SN (N:Nat) (v:Value) (ns:List Nd) (g:Option Nat):Heap→Prop:=fun H=>LsO H (fun b=>N≤b) 24 5 v (ns.map Nd.dat) g
abbrev LN (H0:Heap) (v:Value) (ns:List Nd) (g:Option Nat) (H:Heap) (l:List Ent):Prop:=Lv [] H0 g.toList (SN H0.size v ns g) H l []
theorem sn_stb {H0 H:Heap} {v:Value} {ns:List Nd} {g:Option Nat} (h:SN H0.size v ns g H):∀ (M:List Nat) (H':Heap),Fr M H H'→(∀ x ∈ M,H0.size≤x∧x ∉ g.toList)→SN H0.size v ns g H':=fun M H' hf hM=>
 LsO.fr h hf (fun x hx=>.inl (hM x hx).1) (fun b hb hm=>(hM b hm).2 (by simp [hb])) fun x hx=>.inl hx
theorem LN.new {H0 H:Heap} {l:List Ent} {R:Value→Heap→Prop} (L:Lv [] H0 [] (fun _=>True) H l []) (h:∀ b H',LN H0 (.slice (some ⟨b,0,none⟩) 0 0) [] (some b) H' l→R (.slice (some ⟨b,0,none⟩) 0 0) H'):NewS H 24 0 [] R:=
 NewS_intro fun H' hn hf hs=>h _ H' (L.step hf (by simp) (fun x hx=>by
  simp only [Option.toList_some,List.mem_singleton] at hx
  subst hx
  exact ⟨hn.lt,.inr (Nat.le_refl _)⟩) (sn_stb ⟨[],Own.of_blk (n:=0) hn rfl (by simp [maxLen]),by simp,RepsP.nil⟩))
theorem LN.app {H0 H:Heap} {l:List Ent} {R:Value→Heap→Prop} {kv v:Value} {g:Option Nat} {ns ks:List Nd} (L:LN H0 v ns g H l) (hk:Rep H0 [] (kidsD ks) [kv]) (h63:ns.length + ks.length≤10485760)
 (h:∀ a c g' H',LN H0 (.slice a (ns ++ ks).length c) (ns ++ ks) g' H' l→R (.slice a (ns ++ ks).length c) H'):App Tryz.prog 22 22 22 H v kv R:=by
 have hd:RepP H (fun b=>H0.size≤b) (kidsD ks) [kv]:=old_rep hk L.fr
 refine app_nds L.st hd (fun b hb=>?_) L.fr.size h63 fun a c g' H' h1 h2 h3=>h a c g' H' (L.step h2 (fun x hx=>.inl hx) (fun x hx=>?_) (sn_stb h1))
 ·rcases (L.own b (by simp [hb])).2 with q | q
  ·simp at q
  ·exact q
 ·simp only [Option.mem_toList] at hx
  refine ⟨?_,?_⟩
  ·exact LsO.lt h1 hx
  ·exact (h3 x hx).imp (fun q=>by simp [q]) id
theorem LN.na {H0 H:Heap} {l:List Ent} {v:Value} {g:Option Nat} {ns:List Nd} {k n a:Int} {t:Bs} (L:LN H0 v ns g H l):NA H (.mk k t n a ns) (.agg #[.int .i64 k,sv t,.int .i64 n,.int .i64 a,v]):=
 NA.mk (LsO.rep (LsO.ext L.st (Fr.refl [] _) (B':=fun _=>False) fun x hx=>hx.elim) fun b _ h=>h).rep
theorem sDs_app:∀ (a b:List Nd),sDs (a ++ b)=sDs a ++ sDs b
 | [],b=>rfl
 | x :: a,b=>by rw [List.cons_append,sDs,sDs,sDs_app a b]; simp
theorem inL_app:∀ {a b:List Nd},inL a→inL b→inL (a ++ b)
 | [],b,_,h=>h
 | x :: a,b,h,h'=>⟨h.1,inL_app h.2 h'⟩
theorem gR_ok {x:Nd} (h:(gR x).2=0):gR x=(sDs (kidsOf x),0)∧(∀ y ∈ kidsOf x,okD y=true∧opD y≤64)∧(sDs (kidsOf x)).length≤65536:=by
 unfold gR outR at h ⊢
 by_cases h1:okPg x=true
 ·rw [if_pos h1] at h ⊢
  by_cases h2:opDs (kidsOf x)≤64∧(sDs (kidsOf x)).length≤65536
  ·rw [if_pos h2]
   exact ⟨rfl,fun y hy=>⟨(okPg_kids h1).2.2.2 y hy,opDs_le.1 h2.1 y hy⟩,h2.2⟩
  ·rw [if_neg h2] at h
   exact absurd h (show (6:Int)≠0 by decide)
 ·rw [if_neg h1] at h
  exact absurd h (show (1:Int)≠0 by decide)
set_option maxHeartbeats 4000000 in
theorem concats_law (x y:Nd) (hin:inN x) (hin':inN y) (hw:wN x≤100000000) (hw':wN y≤100000000) {H:Heap} (hG:GlobH H) {v v':Value} (hx:NA H x v) (hy:NA H y v'):HCalls Tryz.prog 5 #[v,v'] H fun v H'=>v= .bool true∧Fr [] H H':=by
 have hx0:=hx
 have hy0:=hy
 obtain ⟨hw1,hw2⟩:=wN_pp hw
 obtain ⟨hw3,hw4⟩:=wN_pp hw'
 obtain ⟨k,t,n,a,ks⟩:=x
 obtain ⟨k',t',n',a',ks'⟩:=y
 obtain ⟨kv,rfl,hk⟩:=hx.open
 obtain ⟨kv',rfl,hk'⟩:=hy.open
 obtain ⟨aa,cc,rfl,hcc,hmx⟩:=kids_len hk
 obtain ⟨aa',cc',rfl,hcc',hmx'⟩:=kids_len hk'
 refine calls_of_vc (args:=[_,_]) Tryz.func5 c5ok (Nat.le_of_ble_eq_true rfl) ?_
 have L:=L0 H
 simp (implicitDefEqProofs:=false) only [go_sem,c5]
 refine L.newP fun bx H1 L=>?_
 simp (implicitDefEqProofs:=false) only [go_sem]
 refine L.newP fun bb H2 L=>?_
 simp (implicitDefEqProofs:=false) only [go_sem]
 refine (awake_ok (hG.ext L.fr)).mono ?_
 rintro v H3 ⟨rfl,hf⟩
 have L:=L.ext hf
 have ca:=L.cell 1 rfl
 have cb:=L.cell 0 rfl
 simp (implicitDefEqProofs:=false) only [go_sem,ca,cb]
 refine (small_ok _ (by decide) (hx0.ext L.fr)).mono ?_
 rintro v H4 ⟨rfl,hf⟩
 have L:=L.ext hf
 have ca:=L.cell 1 rfl
 have cb:=L.cell 0 rfl
 by_cases e1:sizeN (.mk k t n a ks)≤200
 case neg=>
  simp (implicitDefEqProofs:=false) only [go_sem,e1]
  exact L.fr
 simp (implicitDefEqProofs:=false) only [go_sem,e1,ca,cb]
 refine (small_ok _ (by decide) (hy0.ext L.fr)).mono ?_
 rintro v H5 ⟨rfl,hf⟩
 have L:=L.ext hf
 have ca:=L.cell 1 rfl
 have cb:=L.cell 0 rfl
 by_cases e2:sizeN (.mk k' t' n' a' ks')≤200
 case neg=>
  simp (implicitDefEqProofs:=false) only [go_sem,e2]
  exact L.fr
 simp (implicitDefEqProofs:=false) only [go_sem,e2,ca,cb]
 refine (pp hin (hG.ext L.fr) (hx0.ext L.fr) hw2).mono ?_
 rintro v H6 ⟨rfl,hf⟩
 have L:=L.ext hf
 have ca:=L.cell 1 rfl
 have cb:=L.cell 0 rfl
 simp (implicitDefEqProofs:=false) only [go_sem,ca,cb]
 refine (pp hin' (hG.ext L.fr) (hy0.ext L.fr) hw4).mono ?_
 rintro v H7 ⟨rfl,hf⟩
 have L:=L.ext hf
 have ca:=L.cell 1 rfl
 have cb:=L.cell 0 rfl
 by_cases q1:(gR (.mk k t n a ks)).2=0
 case neg=>
  simp (implicitDefEqProofs:=false) only [go_sem,q1,sv,ba_size]
  exact L.fr
 by_cases q2:(gR (.mk k' t' n' a' ks')).2=0
 case neg=>
  simp (implicitDefEqProofs:=false) only [go_sem,q1,q2,sv,ba_size]
  exact L.fr
 obtain ⟨g1,o1,l1⟩:=gR_ok q1
 obtain ⟨g2,o2,l2⟩:=gR_ok q2
 have g1:gR (.mk k t n a ks)=(sDs ks,0):=g1
 have g2:gR (.mk k' t' n' a' ks')=(sDs ks',0):=g2
 have l1:(sDs ks).length≤65536:=l1
 have l2:(sDs ks').length≤65536:=l2
 have hwr:IntKind.i64.wrap (((sDs ks).length:Int) + ((sDs ks').length:Int))=(((sDs ks).length + (sDs ks').length:Nat):Int):=by rw [wrap_i64_id _ (by omega) (by omega)]; omega
 by_cases h65:(65536:Int) < (((sDs ks).length + (sDs ks').length:Nat):Int)
 ·simp (implicitDefEqProofs:=false) only [go_sem,g1,g2,sv,ba_size,hwr,h65]
  exact L.fr
 have g3:gR (.mk 1 [] 0 0 (ks ++ ks'))=(sDs ks ++ sDs ks',0):=by
  rw [← sDs_app]
  refine gR_mk (fun z hz=>?_) (by rw [sDs_app,List.length_append]; omega)
  rcases List.mem_append.1 hz with hz | hz
  ·exact o1 z hz
  ·exact o2 z hz
 rw [inN] at hin hin'
 rw [wN] at hw hw'
 have hl1:=wL_kids ks
 have hl2:=wL_kids ks'
 have hin3:inN (.mk 1 [] 0 0 (ks ++ ks')):=by
  rw [inN]; exact ⟨by omega,by omega,inL_app hin.2.2 hin'.2.2⟩
 have hw5:wN (.mk 1 [] 0 0 (ks ++ ks')) + 2 * (kidsOf (.mk 1 [] 0 0 (ks ++ ks'))).length≤140737488355328:=by
  rw [wN,wL_app]
  show _ + 2 * (ks ++ ks').length≤_
  simp only [List.length_nil,List.length_append]; omega
 simp (implicitDefEqProofs:=false) only [go_sem,g1,g2,sv,ba_size,hwr,h65,ca,cb]
 refine ⟨LN.new L fun b H8 L=>?_,?_⟩
 ·have ca:=L.cell 1 rfl
  have cb:=L.cell 0 rfl
  simp (implicitDefEqProofs:=false) only [go_sem,ca,cb]
  refine ⟨LN.app (ns:=[]) L hk (by simp; omega) fun a1 c1 g1' H9 L=>?_,?_⟩
  ·have ca:=L.cell 1 rfl
   have cb:=L.cell 0 rfl
   simp (implicitDefEqProofs:=false) only [go_sem,ca,cb]
   refine ⟨LN.app (ns:=[] ++ ks) L hk' (by simp; omega) fun a2 c2 g2' H10 L=>?_,?_⟩
   ·simp (implicitDefEqProofs:=false) only [go_sem]
    refine L.newP fun b9 H11 L=>?_
    simp (implicitDefEqProofs:=false) only [go_sem]
    refine L.stoAll 0 rfl rfl (by simp [Value.oneCell']) fun H12 L=>?_
    simp only [List.set_cons_zero,List.set_cons_succ,List.set_nil,List.eraseIdx_cons_zero,List.eraseIdx_cons_succ] at L
    have c9:=L.cell 0 rfl
    simp (implicitDefEqProofs:=false) only [go_sem,c9]
    have hp:=pp hin3 (hG.ext L.fr) (LN.na (k:=1) (t:=[]) (n:=0) (a:=0) L) hw5
    rw [List.nil_append,g3] at hp
    unfold sv at hp
    refine hp.mono ?_
    rintro v HF ⟨rfl,hfF⟩
    have L:=L.ext hfF
    simp (implicitDefEqProofs:=false) only [go_sem,sv,ba_size,ba_app,ba_eq]
    exact ⟨by omega,L.fr⟩
   ·refine L.newP fun b9 H10 L=>?_
    have ca:=L.cell 2 rfl
    have cb:=L.cell 1 rfl
    simp (implicitDefEqProofs:=false) only [go_sem,ca,cb]
    refine LN.app (ns:=[] ++ ks) L hk' (by simp; omega) fun a2 c2 g2' H10 L=>?_
    simp (implicitDefEqProofs:=false) only [go_sem]
    refine L.stoAll 0 rfl rfl (by simp [Value.oneCell']) fun H12 L=>?_
    simp only [List.set_cons_zero,List.set_cons_succ,List.set_nil,List.eraseIdx_cons_zero,List.eraseIdx_cons_succ] at L
    have c9:=L.cell 0 rfl
    simp (implicitDefEqProofs:=false) only [go_sem,c9]
    have hp:=pp hin3 (hG.ext L.fr) (LN.na (k:=1) (t:=[]) (n:=0) (a:=0) L) hw5
    rw [List.nil_append,g3] at hp
    unfold sv at hp
    refine hp.mono ?_
    rintro v HF ⟨rfl,hfF⟩
    have L:=L.ext hfF
    simp (implicitDefEqProofs:=false) only [go_sem,sv,ba_size,ba_app,ba_eq]
    exact ⟨by omega,L.fr⟩
  ·refine L.newP fun b9 H9 L=>?_
   have ca:=L.cell 2 rfl
   have cb:=L.cell 1 rfl
   simp (implicitDefEqProofs:=false) only [go_sem,ca,cb]
   refine LN.app (ns:=[]) L hk (by simp; omega) fun a1 c1 g1' H9 L=>?_
   have ca:=L.cell 2 rfl
   have cb:=L.cell 1 rfl
   simp (implicitDefEqProofs:=false) only [go_sem,ca,cb]
   refine LN.app (ns:=[] ++ ks) L hk' (by simp; omega) fun a2 c2 g2' H10 L=>?_
   simp (implicitDefEqProofs:=false) only [go_sem]
   refine L.stoAll 0 rfl rfl (by simp [Value.oneCell']) fun H12 L=>?_
   simp only [List.set_cons_zero,List.set_cons_succ,List.set_nil,List.eraseIdx_cons_zero,List.eraseIdx_cons_succ] at L
   have c9:=L.cell 0 rfl
   simp (implicitDefEqProofs:=false) only [go_sem,c9]
   have hp:=pp hin3 (hG.ext L.fr) (LN.na (k:=1) (t:=[]) (n:=0) (a:=0) L) hw5
   rw [List.nil_append,g3] at hp
   unfold sv at hp
   refine hp.mono ?_
   rintro v HF ⟨rfl,hfF⟩
   have L:=L.ext hfF
   simp (implicitDefEqProofs:=false) only [go_sem,sv,ba_size,ba_app,ba_eq]
   exact ⟨by omega,L.fr⟩
 ·refine L.newP fun b9 H8 L=>?_
  have ca:=L.cell 2 rfl
  have cb:=L.cell 1 rfl
  simp (implicitDefEqProofs:=false) only [go_sem,ca,cb]
  refine LN.new L fun b H9 L=>?_
  have ca:=L.cell 2 rfl
  have cb:=L.cell 1 rfl
  simp (implicitDefEqProofs:=false) only [go_sem,ca,cb]
  refine LN.app (ns:=[]) L hk (by simp; omega) fun a1 c1 g1' H9 L=>?_
  have ca:=L.cell 2 rfl
  have cb:=L.cell 1 rfl
  simp (implicitDefEqProofs:=false) only [go_sem,ca,cb]
  refine LN.app (ns:=[] ++ ks) L hk' (by simp; omega) fun a2 c2 g2' H10 L=>?_
  simp (implicitDefEqProofs:=false) only [go_sem]
  refine L.stoAll 0 rfl rfl (by simp [Value.oneCell']) fun H12 L=>?_
  simp only [List.set_cons_zero,List.set_cons_succ,List.set_nil,List.eraseIdx_cons_zero,List.eraseIdx_cons_succ] at L
  have c9:=L.cell 0 rfl
  simp (implicitDefEqProofs:=false) only [go_sem,c9]
  have hp:=pp hin3 (hG.ext L.fr) (LN.na (k:=1) (t:=[]) (n:=0) (a:=0) L) hw5
  rw [List.nil_append,g3] at hp
  unfold sv at hp
  refine hp.mono ?_
  rintro v HF ⟨rfl,hfF⟩
  have L:=L.ext hfF
  simp (implicitDefEqProofs:=false) only [go_sem,sv,ba_size,ba_app,ba_eq]
  exact ⟨by omega,L.fr⟩
end Go.Proofs.YtmhdkbmnpekpoaaGreatDoor
end
section
set_option linter.unusedSimpArgs false
set_option linter.unusedVariables false
set_option maxRecDepth 8000
namespace Go.Proofs.YtmhdkbmnpekpoaaGreatDoor
open Gx Go Go.ChangeShapes Go.WideShapes Go.ChangeAt Go.RowKit
def laidL:List (String × DataW Unit):=Rows.printerFewestRow.laid
theorem own:ownKnob Tryz.prog.godebug=none:=by kernel_rfl
theorem laidOut:laidOutB Tryz.prog=true:=by kernel_rfl
theorem heap_of_var {P:Program} {W:World} {name:String} {g:Nat} {cs:Array Value} (hg:P.globalNamed name=some g) (h:W.var? P name=some cs):∃ t fr,W.heap[g]?=some (.cells cs t fr):=by
 unfold World.var? at h
 rw [hg,Option.bind_some] at h
 split at h
 ·rename_i c t fr he
  simp only [Option.some.injEq] at h
  subst h
  exact ⟨t,fr,he⟩
 ·cases h
theorem glob_of_laid {W:World} (h:laidMetH Tryz.prog laidL W):GlobH W.heap:=by
 rw [MakeChecks.laidMetH_plain _ _ _ (by kernel_rfl)] at h
 obtain ⟨ps,⟨g0,t0,cs0,f0,p0,q0,hg0,ht0,hv0,hd0,⟨g1,t1,cs1,f1,p1,q1,hg1,ht1,hv1,hd1,⟨g2,t2,cs2,f2,p2,q2,hg2,ht2,hv2,hd2,⟨g3,t3,cs3,f3,p3,q3,hg3,ht3,hv3,hd3,_,_⟩,_⟩,_⟩,_⟩,_,_⟩:=h
 obtain rfl:=Option.some.inj (gTab.symm.trans hg2)
 obtain rfl:=Option.some.inj (gErr.symm.trans hg3)
 have e2:(Tryz.prog.globals[0]?).map (·.type)=some 137:=by kernel_rfl
 have e3:(Tryz.prog.globals[2]?).map (·.type)=some 79:=by kernel_rfl
 obtain rfl:=Option.some.inj (e2.symm.trans ht2)
 obtain rfl:=Option.some.inj (e3.symm.trans ht3)
 obtain ⟨t2',fr2,hh2⟩:=heap_of_var hg2 hv2
 obtain ⟨t3',fr3,hh3⟩:=heap_of_var hg3 hv3
 have hc:=Lib.cells_of_tab (k:=.u64) (zs:=Lib.pow10Tab) Tryz.underlying137 Tryz.underlying129 (by kernel_rfl) (by kernel_rfl) hd2
 obtain ⟨_,u,v,hcs3,_,_⟩:=iface_of_trod Tryz.underlying79 hd3
 refine ⟨⟨.iface u v,?_,.inr ⟨u,v,rfl⟩⟩,t2',fr2,?_⟩
 ·unfold cellB
  rw [hh3]
  show cs3[0]?=_
  rw [← Array.getElem?_toList,hcs3]; rfl
 ·rw [hh2,← hc]
theorem door_met (os:Os) (args:Array Value):laidMetH Tryz.prog laidL ((World.doorLaid Tryz.prog 400 os).forCall (fun _ _=>0) ⟨#[],args,[]⟩).memory:=
 laidMetH_of_parts3 (fuel:=8) (laidMet_of_run' 8 (by kernel_rfl) (by kernel_rfl)) (by kernel_rfl) (by kernel_rfl)
theorem law_row_upto {H:Type} {enc:TypeId × Value→H} {os:Os} {f:FuncId} {fn:Func} {s:ChangeSpec} {tb:TypeId} {F:Stop.Interp} (started:os.Started) (noInit:Tryz.prog.inits.idxOf? f=none) (hf:Tryz.prog.funcs[f]?=some fn)
 (hpar:fn.params.toList.all (fun t=>Tryz.prog.readableRec t && decide (t < Tryz.prog.types.size))=true) (hres:fn.resultTypes=#[tb]) (htb:Tryz.prog.underlying tb=some .bool) (hv:s.vars=[])
 (hfn:∀ (K:Type) (ds:List (DataW K)),ds.length=fn.params.size→s.fn K ds={ results:=[.lit (.bool true)],args:=ds })
 (witness:∃ (w:World) (tape:Tape) (i:Input),w.os=os∧(w.forCall tape i).Shaped Tryz.prog∧i.vars=[]∧Input.okWide Tryz.prog (w.forCall tape i) .any w.heap.size f i∧
  (Rows.OpenSpec.upto s).preRow enc Tryz.prog fn [] false laidL (w.forCall tape i).memory i.args∧
  Assume.holds {} Tryz.prog (Go.lone (Frame.enter Tryz.prog f i.args .normal) [] (w.forCall tape i)))
 (contract:∀ (W:World) (base:Nat) (args:Array Value) (ds:List (DataW H)) (ps:List MemPlace),
  (∀ (j:Nat) t v,fn.params[j]?=some t→args[j]?=some v→Value.okWide Tryz.prog W .any base t v)→
  DataW.TrodAll enc Tryz.prog W 0 (fun _=>true) true fn.params.toList args.toList ds ps→Rows.uptoBulkAll ds≤1048576→GlobH W.heap→HCalls Tryz.prog f args W.heap fun v H'=>v= .bool true∧Fr [] W.heap H') :
 ReturnsInHanded {} Tryz.checked os f .any ((Rows.OpenSpec.upto s).preRow enc Tryz.prog fn [] false laidL) (((Rows.OpenSpec.upto s).at F).post enc Tryz.prog fn false true false false):=by
 refine returnsInHanded_of_row (C:=Tryz.checked) (s:=Rows.OpenSpec.upto s) own started noInit hf witness ?_
 intro W base args ds gs before hval hW _ hcond _ hL _ _
 have hW':DataW.Whole enc Tryz.prog fn.params.toList s.vars false W args.toList ds gs before:=hW
 have hk:=hcond _ rfl
 obtain ⟨p,q,hA,hV,rfl,hz,hn⟩:=hW'
 have hW':DataW.Whole enc Tryz.prog fn.params.toList s.vars false W args.toList ds gs _:=hW
 have hV':=hV
 rw [hv] at hV'
 obtain ⟨rfl,rfl⟩:=trodVars_none hV'
 rw [List.append_nil] at hk
 have hk:Rows.uptoBulkAll ds≤1048576:=of_decide_eq_true hk
 refine ((contract W base args ds p hval hA hk (glob_of_laid hL)).out W rfl).mono fun e W' ⟨v,he,⟨hvt,hfr⟩,hs⟩=>?_
 subst hvt
 refine ⟨_,he,law_post laidOut hpar hres htb hv ?_ hW' (below_of hs hfr)⟩
 rw [List.append_nil]
 exact hfn H ds (by have:=trodAll_len hA; simpa using this)
def OpensB (P:Program) (F:Nat) (t:TypeId) {α:Type} (R:α→Nat→List Value→Heap→Prop):Prop:=
 ∀ {H:Type} {enc:TypeId × Value→H} {W:World} {base:Nat} {sp:Nat→Bool} {held:Bool} {fuel:Nat} {cs:List Value} {x:DataW H × List MemPlace},
   fuel≤F→DataW.trod enc P W base sp held fuel t cs=some x→∃ a,R a (Rows.uptoBulk x.1) cs W.heap
theorem bulk_sum {H:Type}:∀ (l:List (DataW H × List MemPlace)),Rows.uptoBulkAll (l.map (·.1))=(l.map fun y=>Rows.uptoBulk y.1).sum
 | []=>rfl
 | y :: l=>by rw [List.map_cons,Rows.uptoBulkAll,bulk_sum l,List.map_cons,List.sum_cons]
theorem opensB_slice {P:Program} {t e m F:Nat} {α:Type} {R:α→Nat→List Value→Heap→Prop} (ht:P.underlying t=some (.slice e)) (hc:P.cellsOf e=m) (hm:0 < m) (he:OpensB P F e R) :
 OpensB P (F + 1) t (fun (l:List (α × Nat)) b cs H=>SlR (fun (p:α × Nat) cs H=>R p.1 p.2 cs H) m l cs H∧(l.map (·.2)).sum≤b):=by
 intro H enc W base sp held fuel cs x hF h
 rcases DataW.trod_slice ht h with ⟨h0,_⟩ | ⟨a,len,cap,elems,rest,n,hn,rfl,rfl,hb,hl,hmx,hlen,hel,_,_⟩
 ·exact ⟨[],⟨none,0,h0,by simp,by simp [maxLen],.inl rfl⟩,Nat.zero_le _⟩
 ·have hi:∀ i,i < len→∃ y:α × Nat,(∀ h:i < elems.length,y.2=Rows.uptoBulk elems[i].1)∧∃ vs,vs.length=m∧(∀ j,j < m→cellAt W.heap (a.add (i * m + j))=vs[j]?)∧R y.1 y.2 vs W.heap:=by
   intro i hi
   have h1:=hel i hi
   have h2:elems[i]?=some elems[i]:=List.getElem?_eq_getElem (by omega)
   rw [h2,Option.bind_eq_some_iff] at h1
   obtain ⟨vs,hv,hr⟩:=h1
   obtain ⟨h3,h4,h5⟩:=World.cells?_some hv
   obtain ⟨y,hy⟩:=he (by omega) hr
   rw [hc] at h4 h5 hv
   refine ⟨(y,Rows.uptoBulk elems[i].1),fun _=>rfl,vs,h4,fun j hj=>?_,hy⟩
   have:=h5 j hj
   rw [← this]
   show _=cellAt W.heap _
   congr 1
   simp only [Addr.add]
   repeat' split
   all_goals first | rfl | omega | simp_all [Nat.add_assoc]
  obtain ⟨l,hl1,hl2⟩:=list_of (β:=Unit) hi
  refine ⟨l,⟨some a,cap,by rw [hl1],by omega,hmx,?_⟩,?_⟩
  ·rcases Nat.eq_zero_or_pos l.length with h0 | h0
   ·exact .inl (List.eq_nil_of_length_eq_zero h0)
   ·have hspot:a.spot=none:=by
     obtain ⟨_,vs,h1,h2,_⟩:=hl2 0 h0
     have h3:=h2 0 hm
     rw [List.getElem?_eq_getElem (by omega)] at h3
     unfold cellAt at h3
     split at h3
     ·split at h3
      ·cases h3
      ·rename_i hs; simpa [Addr.add] using hs
     ·cases h3
    obtain ⟨b,o,s⟩:=a
    simp only at hspot
    subst hspot
    refine .inr ⟨b,o,rfl,fun j hj=>?_⟩
    obtain ⟨_,vs,h1,h2,h3⟩:=hl2 j hj
    refine ⟨vs,h1,fun i hi=>?_,h3⟩
    rw [← h2 i hi,add_mk,cellAt_mk,Nat.add_assoc]
  ·have e:l.map (·.2)=elems.map fun y=>Rows.uptoBulk y.1:=by
    refine List.ext_getElem (by simp [hl1,hlen]) fun i h1 h2=>?_
    simp only [List.length_map] at h1 h2
    rw [List.getElem_map,List.getElem_map]
    exact (hl2 i h1).1 h2
   show (l.map (·.2)).sum≤Rows.uptoBulk (.slice (elems.map (·.1)) (rest.map (·.1)))
   rw [e,← bulk_sum,Rows.uptoBulk]
   omega
theorem Reps.of {H:Heap} {M:List Nat}:∀ {ds:List Dat} {css:List (List Value)},css.length=ds.length→(∀ (i:Nat) (h:i < css.length) (h':i < ds.length),Rep H M ds[i] css[i])→Reps H M ds css
 | [],[],_,_=>by simp [Reps]
 | d :: ds,c :: css,hl,h=>by
   simp only [Reps]
   exact ⟨c,css,rfl,h 0 (by simp) (by simp),Reps.of (by simpa using hl) fun i hi hi'=>h (i + 1) (by simpa using hi) (by simpa using hi')⟩
 | [],_ :: _,hl,_=>by simp at hl
 | _ :: _,[],hl,_=>by simp at hl
theorem flat_get {m:Nat} {css:List (List Value)} (h:∀ x ∈ css,x.length=m) {q r:Nat} (hq:q < css.length) (hr:r < m):css.flatten[q * m + r]?=css[q][r]?:=by
 have h1:=flatten_drop q h
 have h2:css.flatten[q * m + r]?=(css.flatten.drop (q * m))[r]?:=by simp
 rw [h2,h1,List.drop_eq_getElem_cons hq,List.flatten_cons,List.getElem?_append_left (by rw [h _ (List.getElem_mem hq)]; exact hr)]
theorem rep_of_SlR {α:Type} {R:α→List Value→Heap→Prop} {D:α→Dat} {m:Nat} (h0:0 < m) {H:Heap} (hR:∀ x vs,R x vs H→Rep H [] (D x) vs) {l:List α} {cs:List Value} (h:SlR R m l cs H):Rep H [] (.list m (l.map D)) cs:=by
 obtain ⟨a,c,rfl,h1,h2,h3⟩:=h
 simp only [Rep]
 rcases h3 with h3 | ⟨b,o,h4,h5⟩
 ·subst h3
  exact ⟨a,c,[],rfl,by simp,h2,by simp [Reps],by simp,.inl rfl⟩
 ·have hq:∀ i,i < l.length→∃ vs:List Value,vs.length=m∧(∀ k,k < m→cellB H b (o + i * m + k)=vs[k]?)∧∀ hi:i < l.length,Rep H [] (D l[i]) vs:=fun i hi=>by
   obtain ⟨vs,q1,q2,q3⟩:=h5 i hi
   exact ⟨vs,q1,q2,fun _=>hR _ _ q3⟩
  obtain ⟨css,e1,e2⟩:=list_of (β:=Unit) hq
  have hm:∀ x ∈ css,x.length=m:=fun x hx=>by
   obtain ⟨i,hi,rfl⟩:=List.getElem_of_mem hx
   exact (e2 i hi).1
  refine ⟨a,c,css,by simp,by simpa using h1,h2,Reps.of (by simpa using e1) fun i hi hi'=>?_,hm,.inr ⟨b,o,h4,by simp,fun j hj=>?_⟩⟩
  ·rw [List.getElem_map]
   exact (e2 i hi).2.2 (by omega)
  ·have hlen:css.flatten.length=css.length * m:=flatten_len hm
   have hqj:j / m < css.length:=by rw [hlen] at hj; exact (Nat.div_lt_iff_lt_mul h0).2 hj
   have hrj:j % m < m:=Nat.mod_lt _ h0
   have e:j=j / m * m + j % m:=by rw [Nat.mul_comm,Nat.div_add_mod]
   have h8:=(e2 _ hqj).2.1 _ hrj
   rw [← flat_get hm hqj hrj,← e,Nat.add_assoc,← e] at h8
   rw [h8,List.getElem?_eq_getElem hj]
def NdB (n:Nd) (b:Nat) (cs:List Value) (H:Heap):Prop:=Rep H [] n.dat cs∧inN n∧wN n≤64 * b
theorem kids_bulk {H:Heap} {m:Nat}:∀ {l:List (Nd × Nat)},(∀ (j:Nat) (h:j < l.length),∃ vs,NdB l[j].1 l[j].2 vs H)→inL (l.map (·.1))∧wL (l.map (·.1))≤64 * (l.map (·.2)).sum
 | [],_=>⟨trivial,Nat.zero_le _⟩
 | p :: l,h=>by
   obtain ⟨vs,h1,h2,h3⟩:=h 0 (by simp)
   obtain ⟨i1,i2⟩:=kids_bulk (m:=m) (l:=l) fun j hj=>h (j + 1) (by simpa using hj)
   simp only [List.getElem_cons_zero] at h2 h3
   refine ⟨⟨h2,i1⟩,?_⟩
   rw [List.map_cons,wL,List.map_cons,List.sum_cons]
   omega
theorem five {α:Type}:∀ {l:List α},l.length=5→∃ a b c d e,l=[a,b,c,d,e]
 | [a,b,c,d,e],_=>⟨a,b,c,d,e,rfl⟩
 | [],h=>by simp at h
 | [_],h=>by simp at h
 | [_,_],h=>by simp at h
 | [_,_,_],h=>by simp at h
 | [_,_,_,_],h=>by simp at h
 | _ :: _ :: _ :: _ :: _ :: _ :: _,h=>by simp at h
theorem opensB_nd:∀ F:Nat,OpensB Tryz.prog F 24 NdB:=by
 intro F
 induction F using Nat.strongRecOn with
 | _ F ihF=>
   intro H enc W base sp held fuel cs x hF h
   obtain ⟨xs,n,hn,rfl,hl,hx,hf⟩:=DataW.trod_struct Tryz.underlying24 h
   have hc:Tryz.prog.cellsOf 24=5:=by kernel_rfl
   rw [hc] at hl
   obtain ⟨x0,x1,x2,x3,x4,rfl⟩:=five (l:=xs) (by rw [hx]; rfl)
   obtain ⟨v0,v1,v2,v3,v4,rfl⟩:=five hl
   have f0:=hf 0 _ rfl
   have f1:=hf 1 _ rfl
   have f2:=hf 2 _ rfl
   have f3:=hf 3 _ rfl
   have f4:=hf 4 _ rfl
   have c1:Tryz.prog.cellsOf 3=1:=by kernel_rfl
   have c2:Tryz.prog.cellsOf 9=1:=by kernel_rfl
   have c3:Tryz.prog.cellsOf 2=1:=by kernel_rfl
   have c4:Tryz.prog.cellsOf 22=1:=by kernel_rfl
   change DataW.trod enc Tryz.prog W base sp held n 3 (([v0,v1,v2,v3,v4].drop 0).take (Tryz.prog.cellsOf 3))=some x0 at f0
   change DataW.trod enc Tryz.prog W base sp held n 9 (([v0,v1,v2,v3,v4].drop 1).take (Tryz.prog.cellsOf 9))=some x1 at f1
   change DataW.trod enc Tryz.prog W base sp held n 2 (([v0,v1,v2,v3,v4].drop 2).take (Tryz.prog.cellsOf 2))=some x2 at f2
   change DataW.trod enc Tryz.prog W base sp held n 3 (([v0,v1,v2,v3,v4].drop 3).take (Tryz.prog.cellsOf 3))=some x3 at f3
   change DataW.trod enc Tryz.prog W base sp held n 22 (([v0,v1,v2,v3,v4].drop 4).take (Tryz.prog.cellsOf 22))=some x4 at f4
   rw [c1] at f0 f3
   rw [c2] at f1
   rw [c3] at f2
   rw [c4] at f4
   obtain ⟨k,e0,q0,w0⟩:=DataW.trod_int (k:=.i64) Tryz.underlying3 f0
   obtain ⟨t,e1,q1,w1⟩:=DataW.trod_string Tryz.underlying9 f1
   obtain ⟨m,e2,q2,w2⟩:=DataW.trod_int (k:=.i64) Tryz.underlying2 f2
   obtain ⟨a,e3,q3,w3⟩:=DataW.trod_int (k:=.i64) Tryz.underlying3 f3
   have hks:∃ l:List (Nd × Nat),SlR (fun (p:Nd × Nat) cs H=>NdB p.1 p.2 cs H) 5 l [v4] W.heap∧(l.map (·.2)).sum≤Rows.uptoBulk x4.1:=by
    rcases Nat.eq_zero_or_pos n with h0 | h0
    ·rw [h0] at f4
     simp [DataW.trod] at f4
    ·obtain ⟨n',rfl⟩:∃ n',n=n' + 1:=⟨n - 1,by omega⟩
     exact opensB_slice (F:=n') (m:=5) Tryz.underlying22 hc (by decide) (ihF n' (by omega)) (Nat.le_refl _) f4
   obtain ⟨l,hl1,hl2⟩:=hks
   simp only [List.drop_zero,List.drop_succ_cons,List.take_succ_cons,List.take_zero,List.cons.injEq,and_true] at e0 e1 e2 e3
   subst e0 e1 e2 e3
   subst q0 q1 q2 q3
   have hall:∀ (j:Nat) (h:j < l.length),∃ vs,NdB l[j].1 l[j].2 vs W.heap:=by
    obtain ⟨_,_,_,_,_,h3⟩:=hl1
    rcases h3 with rfl | ⟨_,_,_,h5⟩
    ·intro j hj; simp at hj
    ·intro j hj
     obtain ⟨vs,_,_,h6⟩:=h5 j hj
     exact ⟨vs,h6⟩
   obtain ⟨i1,i2⟩:=kids_bulk (m:=5) hall
   have hr:=rep_of_SlR (D:=fun (p:Nd × Nat)=>p.1.dat) (by decide) (fun x vs hx=>hx.1) hl1
   have hr':Rep W.heap [] (kidsD (l.map (·.1))) [v4]:=by
    unfold kidsD
    rw [List.map_map]
    exact hr
   refine ⟨.mk k t.data.toList m a (l.map (·.1)),nd_rep.2 ⟨v4,rfl,hr'⟩,?_,?_⟩
   ·rw [inN]
    refine ⟨?_,?_,i1⟩
    ·simp [Lit.wf,IntKind.min,IntKind.max,IntKind.signed,IntKind.bits] at w2
     omega
    ·simp [Lit.wf,IntKind.min,IntKind.max,IntKind.signed,IntKind.bits] at w2
     omega
   ·rw [wN]
    show _≤64 * Rows.uptoBulk (.agg [.lit (.int .i64 k),.lit (.string t.data.toList),.lit (.int .i64 m),.lit (.int .i64 a),x4.1])
    simp only [Rows.uptoBulk,Rows.uptoBulkAll]
    omega
theorem arg_nd {H:Type} {enc:TypeId × Value→H} {W:World} {b0:Nat} {sp:Nat→Bool} {held:Bool} {base:Nat} {v:Value} {d:DataW H} {ps:List MemPlace} (hval:Value.okWide Tryz.prog W .any b0 24 v) (h:DataW.Trod enc Tryz.prog W base sp held 24 v d ps) :
 ∃ n,NA W.heap n v∧inN n∧wN n≤64 * Rows.uptoBulk d:=by
 obtain ⟨fuel,hf⟩:=h
 obtain ⟨cs,rfl,_⟩:=okWide_struct Tryz.underlying24 hval
 obtain ⟨n,h1,h2,h3⟩:=opensB_nd fuel (Nat.le_refl _) hf
 exact ⟨n,⟨cs.toList,by simp,h1⟩,h2,h3⟩
theorem arg2_nd {H:Type} {enc:TypeId × Value→H} {W:World} {fn:Func} {b0:Nat} {args:Array Value} {ds:List (DataW H)} {ps:List MemPlace} (hp:fn.params=#[24,24])
 (hval:∀ (j:Nat) t v,fn.params[j]?=some t→args[j]?=some v→Value.okWide Tryz.prog W .any b0 t v) (h:DataW.TrodAll enc Tryz.prog W 0 (fun _=>true) true fn.params.toList args.toList ds ps) (hk:Rows.uptoBulkAll ds≤1048576) :
 ∃ v n v' n',args=#[v,v']∧NA W.heap n v∧inN n∧wN n≤100000000∧NA W.heap n' v'∧inN n'∧wN n'≤100000000:=by
 rw [hp] at h hval
 obtain ⟨v0,vs0,d0,ds0,p0,q0,hargs,rfl,rfl,h0,r0⟩:=trodAll_cons h
 obtain ⟨v1,vs1,d1,ds1,p1,q1,rfl,rfl,rfl,h1,r1⟩:=trodAll_cons r0
 obtain ⟨rfl,rfl,rfl⟩:=trodAll_nil r1
 obtain rfl:args=#[v0,v1]:=by cases args; simp_all
 obtain ⟨n,a1,a2,a3⟩:=arg_nd (hval 0 24 v0 rfl rfl) h0
 obtain ⟨n',b1,b2,b3⟩:=arg_nd (hval 1 24 v1 rfl rfl) h1
 simp only [Rows.uptoBulkAll] at hk
 exact ⟨v0,n,v1,n',rfl,a1,a2,by omega,b1,b2,by omega⟩
end Go.Proofs.YtmhdkbmnpekpoaaGreatDoor
end
