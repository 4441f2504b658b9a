import Derived.Test.YtmhdkbmnpekpoaaGreatDoorB2
import Derived.Lib.AppendIntMem
import Derived.Lib.SmallJoins
open Bool renaming and_eq_true→ae5,false_eq_true→ae6,or_eq_true→afl,true_and→ahG,false_and→ahN
open Go.Proofs.Tryz renaming prog→afI,underlying22→ahS,underlying70→ahX
open Nat renaming le_of_ble_eq_true→ahi,le_refl→afJ,add_zero→ahl,zero_le→ahn,lt_or_ge→ae8,lt_of_lt_of_le→afS,zero_add→afT
open List renaming sublist_cons_self→ahj,length_cons→afK,eraseIdx→ahk,cons_append→ahm,length_pos_iff→aho,set→ahp,mem_cons→afa,all_cons→afb,take_succ_cons→ahq,takeWhile_cons→ahr,length_drop→ahs,length_nil→aht,mem_append→ahu,nil_append→ahv,drop_eq_getElem_cons→afM,flatMap_cons→afN,append_assoc→ahw,drop_eq_nil_of_le→afO,map_cons→afi,drop_succ_cons→afQ,not_mem_nil→ahy,mem_of_getElem?→afR,dropWhile_cons→ahz,mem_flatMap→ahA,cons→afV,take_zero→ahB,drop_drop→ahC,getElem_mem→ahD,flatMap_append→ahF,take_left→afX,length→ahI,take_append_drop→ahK,getElem_of_mem→ahL,all_takeWhile→ahM,nodup_append→ahO,mem_filter→afv,toArray→ahP,drop_take→ahQ,nodup_cons→ahT,take→ahV,tail_drop→ahY,drop→ahZ,map→ah0
open Option renaming some→ae9,mem_toList→ahH
open Go.IntKind renaming i64→afd
open Prod renaming mk→aff
open List.Sublist renaming refl→ahx
open Go.Value renaming int→ahE,slice→ahU,string→ahW
open Go.Lib renaming parseUintM→ahJ,parseIntB→af4
open Int renaming toNat_natCast→ahR
set_option linter.unusedSimpArgs false
set_option linter.unusedVariables false
set_option maxRecDepth 8000
namespace Gx
open Go
universe yi u_2
@[go_sem] theorem aeA:∀ (n:Nat),0 + n=n:=@afT
@[go_sem] theorem aeB:∀ (n:Nat),n + 0=n:=@ahl
@[go_sem] theorem aeC:∀ (n:Nat),Nat.succ n≠0:=@Nat.succ_ne_zero
@[go_sem] theorem aeD:0≠1:=@Nat.zero_ne_one
@[go_sem] theorem aeE:(!true)=false:=@Bool.not_true
@[go_sem] theorem aeF:(!false)=true:=@Bool.not_false
@[go_sem] theorem aeG:(true=false)=False:=@Bool.true_eq_false
@[go_sem] theorem acE:∀ {α:Type yi} (val QQ:α),(some val=some QQ)=(val=QQ):=@ae9.injEq
@[go_sem] theorem acF:∀ {α:Type yi} {β:Type u_2} {f:α→β} {a:α} {l:List α},ah0 f (a :: l)=f a :: ah0 f l:=@afi
@[go_sem] theorem acG:∀ {α:Type yi} {β:Type u_2} {f:α→β},ah0 f []=[]:=@List.map_nil
@[go_sem] theorem acH:∀ {α:Type yi} {a:α} {zs:List α},ahI (a :: zs)=ahI zs + 1:=@afK
@[go_sem] theorem acI:∀ {α:Type yi} {a:α} {l:List α},(a :: l)[0]?=some a:=@List.getElem?_cons_zero
@[go_sem] theorem acJ:∀ {α:Type yi} {a:α} {i:Nat} {l:List α},(a :: l)[i + 1]?=l[i]?:=@List.getElem?_cons_succ
@[go_sem] theorem acK:∀ {α:Type yi} {x:α} {xs:List α} {a:α},ahp (x :: xs) 0 a=a :: xs:=@List.set_cons_zero
@[go_sem] theorem acL:∀ {α:Type yi} {x:α} {xs:List α} {i:Nat} {a:α},ahp (x :: xs) (i + 1) a=x :: ahp xs i a:=@List.set_cons_succ
@[go_sem] theorem acM:∀ (b:Bool),(b || false)=b:=@Bool.or_false
@[go_sem] theorem acN:∀ (b:Bool),(false || b)=b:=@Bool.false_or
@[go_sem] theorem acO:∀ (b:Bool),(b || true)=true:=@Bool.or_true
@[go_sem] theorem acP:∀ (b:Bool),(true || b)=true:=@Bool.true_or
@[go_sem] theorem acQ:∀ {α:Type yi} (l₁ l₂:List α),ahP l₁ ++ ahP l₂=ahP (l₁ ++ l₂):=@List.append_toArray
@[go_sem] theorem acR:∀ {α:Type yi} (zs:List α),[] ++ zs=zs:=@ahv
@[go_sem] theorem acS:∀ {α:Type yi} {a:α} {zs bs:List α},a :: zs ++ bs=a :: (zs ++ bs):=@ahm
@[go_sem] theorem acT:∀ {α:Type yi} {zs:List α},Array.size (ahP zs)=ahI zs:=@List.size_toArray
@[go_sem] theorem acU:∀ {α:Type yi} {xs:Array α},xs ++ #[]=xs:=@Array.append_empty
@[go_sem] theorem acV:∀ (n:Nat),Int.toNat ↑n=n:=@ahR
@[go_sem] theorem acW:∀ (n:Nat),n * 1=n:=@Nat.mul_one
@[go_sem] theorem acX:∀ (n:Nat),1 * n=n:=@Nat.one_mul
@[go_sem] theorem acY:∀ {p:Prop} [inst:Decidable p],(decide p=true)=p:=@decide_eq_true_eq
@[go_sem] theorem acZ:∀ {p:Prop} {x:Decidable p},decide p=false↔¬p:=@decide_eq_false_iff_not
@[go_sem] theorem ac0:∀ (a b:Bool),((a && b)=true)=(a=true∧b=true):=@ae5
@[go_sem] theorem ac1:∀ (b:Bool),((!b)=true)=(b=false):=@Bool.not_eq_true'
@[go_sem] theorem ac2:∀ {a b:Int},¬a < b↔b≤a:=@Int.not_lt
@[go_sem] theorem ac3:∀ {α:Sort yi} (a b:α),(a≠b)= ¬a=b:=@ne_eq
@[go_sem] theorem ac4:(¬True)=False:=@not_true_eq_false
@[go_sem] theorem ac5:(¬False)=True:=@not_false_eq_true
@[go_sem] theorem ac6:∀ (p:Prop),(p∧p)=p:=@and_self
@[go_sem] theorem ac7:∀ (h:Decidable True),decide True=true:=@decide_true
@[go_sem] theorem ac8:∀ (h:Decidable False),decide False=false:=@decide_false
@[go_sem] theorem ac9:∀ {α:Sort yi} (a b:α),(bif true then a else b)=a:=@cond_true
@[go_sem] theorem ada:∀ {α:Sort yi} (a b:α),(bif false then a else b)=b:=@cond_false
@[go_sem] theorem adb:∀ {α:Type yi} {l:List α},ahV 0 l=[]:=@ahB
@[go_sem] theorem ade:∀ {α:Type yi} {l:List α},ahZ 0 l=l:=@List.drop_zero
@[go_sem] theorem adf:∀ {α:Type yi} {a:α} {zs:List α} {i:Nat},ahV (i + 1) (a :: zs)=a :: ahV i zs:=@ahq
@[go_sem] theorem adg:∀ {α:Type yi} {a:α} {l:List α} {i:Nat},ahZ (i + 1) (a :: l)=ahZ i l:=@afQ
@[go_sem] theorem adh:∀ {α:Type yi} (zs:List α),zs ++ []=zs:=@List.append_nil
@[go_sem] theorem adi:∀ {α:Type yi} {xs:List α} {i:Nat},(ahP xs)[i]?=xs[i]?:=@List.getElem?_toArray
@[go_sem] theorem adj:∀ (b:Bool),(true && b)=b:=@ahG
@[go_sem] theorem adk:∀ (b:Bool),(false && b)=false:=@ahN
@[go_sem] theorem adl:∀ (b:Bool),(b && true)=b:=@Bool.and_true
@[go_sem] theorem adm:∀ (b:Bool),(b && false)=false:=@Bool.and_false
@[go_sem] theorem adn:∀ (p:Prop),(False∧p)=False:=@false_and
@[go_sem] theorem ado:∀ (p:Prop),(p∧False)=False:=@and_false
attribute [go_sem] Nat.reduceAdd Nat.reduceSub Nat.reduceMul Nat.reduceEqDiff Nat.reduceLT Nat.reduceLeDiff Nat.reduceBEq reduceCtorEq Int.reduceLE Int.reduceLT Int.reduceEq Int.reduceNeg Int.reduceToNat Int.reduceAdd Int.reduceSub
attribute [go_sem ↓] reduceIte ae6
attribute [go_sem] Value.cells ae6 Int.cast_ofNat_Int List.drop_nil List.elem_cons aht List.take_nil Option.isNone_none Option.isSome_none
def aD (H:Heap) (B:Nat→Prop) (d:iH) (cs:List Value):Prop:=∀ M:List Nat,(∀ x ∈ M,B x)→dA H M d cs
def fq (H:Heap) (B:Nat→Prop) (l:List iH) (css:List (List Value)):Prop:=∀ M:List Nat,(∀ x ∈ M,B x)→cS H M l css
def gU (H:Heap) (B:Nat→Prop) (H':Heap) (B':Nat→Prop):Prop:=∀ b,b < H.size→¬ B b→¬ B' b∧H'[b]?=H[b]?
section
variable {H H':Heap} {B B':Nat→Prop} {M:List Nat} {d:iH} {cs:List Value} {l:List iH} {css:List (List Value)}
theorem gU.list (hs:gU H B H' B') {M':List Nat} (hM:∀ x ∈ M',B' x):∃ M,(∀ x ∈ M,B x)∧nI H M H' M':=by
 classical
 refine ⟨(List.range H.size).filter (fun b=>decide (B b)),fun x hx=>by simpa using (afv.1 hx).2,fun b hb hn=>?_⟩
 have hB:¬ B b:=fun h=>hn (afv.2 ⟨List.mem_range.2 hb,by simpa using h⟩)
 obtain ⟨h1,h2⟩:=hs b hb hB
 exact ⟨fun hm=>h1 (hM b hm),h2⟩
theorem aD.to (h:aD H B d cs) (hs:gU H B H' B'):aD H' B' d cs:=fun M' hM=>by
 obtain ⟨M,h1,h2⟩:=hs.list hM
 exact dA.to h2 d cs (h M h1)
theorem fq.to (h:fq H B l css) (hs:gU H B H' B'):fq H' B' l css:=fun M' hM=>by
 obtain ⟨M,h1,h2⟩:=hs.list hM
 exact cS.to h2 l css (h M h1)
theorem gU.fr (hf:Fr M H H') (hm:∀ x ∈ M,B x∨H.size≤x) (hb:∀ x,B' x→B x∨H.size≤x):gU H B H' B':=fun b yj hn=>
 ⟨fun h=>by rcases hb b h with q | q; exact hn q; omega,hf.same b yj fun h=>by rcases hm b h with q | q; exact hn q; omega⟩
theorem gU.ext (hf:Fr [] H H') (hb:∀ x,B' x→B x∨H.size≤x):gU H B H' B':=gU.fr hf (by simp) hb
theorem aD.fr (h:aD H B d cs) (hf:Fr M H H') (hm:∀ x ∈ M,B x∨H.size≤x) (hb:∀ x,B' x→B x∨H.size≤x):aD H' B' d cs:=h.to (gU.fr hf hm hb)
theorem aD.ext (h:aD H B d cs) (hf:Fr [] H H') (hb:∀ x,B' x→B x∨H.size≤x):aD H' B' d cs:=h.to (gU.ext hf hb)
theorem aD.more (h:aD H B d cs) (hb:∀ x,B' x→B x∨H.size≤x):aD H B' d cs:=h.ext (Fr.refl _ _) hb
theorem fq.more (h:fq H B l css) (hb:∀ x,B' x→B x∨H.size≤x):fq H B' l css:=h.to (gU.ext (Fr.refl _ _) hb)
theorem aD.rep (h:aD H B d cs):dA H [] d cs:=h [] (by simp)
theorem fq.nil:fq H B [] []:=fun M _=>by simp[cS]
theorem fq.cons {x:List Value} (h:aD H B d x) (hs:fq H B l css):fq H B (d :: l) (x :: css):=fun M hM=>by
 simp only[cS]; exact ⟨x,css,rfl,h M hM,hs M hM⟩
theorem fq.append {l':List iH} {BH:List (List Value)} (h:fq H B l css) (h':fq H B l' BH):fq H B (l ++ l') (css ++ BH):=fun M hM=>cS.append (h M hM) (h' M hM)
theorem aD.nil (m:Nat):aD H B (.list m []) [.slice none 0 0]:=fun M _=>dA.nil m
def vd (H:Heap) (B:Nat→Prop) (e m:Nat) (v:Value) (ds:List iH) (g:Option Nat):Prop:=
 ∃ css,Own H e m v ds.length css.flatten g∧(∀ x ∈ css,x.length=m)∧fq H (fun b=>B b∨g=some b) ds css
variable {e m:Nat} {v:Value} {ds:List iH} {g:Option Nat}
theorem vd.nil:vd H B e m (.slice none 0 0) [] none:=⟨[],Own.nil _ _ _,by simp,fq.nil⟩
theorem vd.fr (h:vd H B e m v ds g) (hf:Fr M H H') (hm:∀ x ∈ M,B x∨H.size≤x) (hg:∀ b,g=some b→b ∉ M) (hb:∀ x,B' x→B x∨H.size≤x):vd H' B' e m v ds g:=by
 obtain ⟨css,h1,h2,h3⟩:=h
 refine ⟨css,h1.fr hf hg,h2,h3.to (gU.fr hf (fun x hx=>(hm x hx).imp .inl id) fun x hx=>?_)⟩
 rcases hx with hx | hx
 ·exact (hb x hx).imp .inl id
 ·exact .inl (.inr hx)
theorem vd.ext (h:vd H B e m v ds g) (hf:Fr [] H H') (hb:∀ x,B' x→B x∨H.size≤x):vd H' B' e m v ds g:=h.fr hf (by simp) (by simp) hb
theorem vd.lt (h:vd H B e m v ds g) {b:Nat} (hg:g=some b):b < H.size:=by
 obtain ⟨css,h1,_⟩:=h
 exact h1.lt hg
theorem vd.slice (h:vd H B e m v ds g):∃ a c,v= .slice a ds.length c∧ds.length≤c∧c≤maxLen:=by
 obtain ⟨css,h1,_⟩:=h
 rcases h1.2 with ⟨_,rfl,h0⟩ | ⟨b,cap,cur,_,rfl,_,h4,h5,_⟩
 ·rw[h0]; exact ⟨none,0,rfl,afJ _,ahn _⟩
 ·exact ⟨_,_,rfl,h4,h5⟩
theorem vd.rep (h:vd H B e m v ds g) (hg:∀ b,g=some b→¬ B b):aD H B (.list m ds) [v]:=fun M hM=>by
 obtain ⟨css,h1,h2,h3⟩:=h
 have hr:cS H M ds css:=h3 M fun x hx=>.inl (hM x hx)
 have yk:=h1
 rcases h1.2 with ⟨_,rfl,h0⟩ | ⟨b,cap,cur,hb,rfl,hc,h4,h5,h6,h7⟩
 ·have:ds=[]:=List.eq_nil_of_length_eq_zero h0
  subst this
  exact dA.nil m
 ·simp only[dA]
  refine ⟨_,cap,css,rfl,h4,h5,hr,h2,?_⟩
  rcases Own.csR yk with h8 | ⟨b',o,h8,h9⟩
  ·exact .inl h8
  ·simp at h8; obtain ⟨rfl,rfl⟩:=h8
   exact .inr ⟨b,0,rfl,fun hm=>hg b hb (hM b hm),h9⟩
theorem TG {P:Program} {t tx bytes tn nb n1 c1:Nat} {z:Value} {R:Value→Heap→Prop} (hE:qo P t e m bytes z) (h:vd H B e m v ds g) {ex:Nat} (hk:P.underlying tx=some (.slice ex)) (hn:eg H nb tn cs) (hl:cs.length=m)
 (hc:∀ u ∈ cs,u.oneCell'=true) (hd:aD H (fun b=>B b∨g=some b) d cs) (h1:n1=1) (Iz:ds.length + 1≤maxLen) (hb:(ds.length + 1) * bytes≤140737488355328)
 (hR:∀ a c H' g',vd H' B e m (.slice a (ds.length + 1) c) (ds ++ [d]) g'→Fr g.toList H H'→(∀ b,g'=some b→g=some b∨H.size≤b)→R (.slice a (ds.length + 1) c) H'):App P t tx t H v (.slice (some ⟨nb,0,none⟩) n1 c1) R:=by
 subst h1
 obtain ⟨css,ho,h2,h3⟩:=h
 refine vq hE ho (m:=1) (tw.dz hk hn (by omega) hc) Iz hb fun a c H' g' u3 hf QR=>?_
 refine hR a c H' g' ⟨css ++ [cs],?_,?_,?_⟩ hf QR
 ·rw[List.flatten_append]
  simpa using u3
 ·intro x hx
  rcases ahu.1 hx with hx | hx
  ·exact h2 x hx
  ·simp at hx; subst hx; exact hl
 ·have eZ:gU H (fun b=>B b∨g=some b) H' (fun b=>B b∨g'=some b):=gU.fr hf (fun x hx=>.inl (.inr (by simpa using hx))) fun x hx=>by
   rcases hx with hx | hx
   ·exact .inl (.inl hx)
   ·exact (QR x hx).imp .inr id
  exact (h3.to eZ).append ((fq.nil.cons hd).to eZ)
end
theorem aD.elems {H:Heap} {B:Nat→Prop} {m:Nat} {l:List iH} {v:Value} (h:aD H B (.list m l) [v]):∃ a c,v= .slice a l.length c∧l.length≤c∧c≤maxLen:=dA.slice h.rep
end Gx
namespace Go.Proofs.YtmhdkbmnpekpoaaGreatDoor
open Gx Go
abbrev Bs:=List UInt8
def sv (s:Bs):Value:=.string ⟨⟨s⟩⟩
theorem cM (a b:Bs):((⟨⟨a⟩⟩:ByteArray)=⟨⟨b⟩⟩)=(a=b):=by
 apply propext
 constructor
 ·intro h
  have:=congrArg (fun x=>x.data.toList) h
  simpa using this
 ·rintro rfl; rfl
theorem aI (a:Bs):ByteArray.size ⟨⟨a⟩⟩=a.length:=rfl
theorem Ac (l:Bs) (i j:Nat):ByteArray.extract ⟨⟨l⟩⟩ i j=⟨⟨(l.take j).drop i⟩⟩:=by
 apply ByteArray.ext
 simp[ByteArray.data_extract,ahQ]
theorem fU (a b:Bs):(⟨⟨a⟩⟩ ++ ⟨⟨b⟩⟩:ByteArray)=⟨⟨a ++ b⟩⟩:=by
 apply ByteArray.ext
 simp[ByteArray.data_append]
theorem nK (i n:Nat) (h:i < n) (hn:n≤maxLen):afd.wrap ((i:Int) + 1)=((i + 1:Nat):Int):=by
 unfold maxLen at hn
 rw[aV _ (by omega) (by omega)]; omega
theorem z0:((0:Nat):Int)=0:=rfl
theorem n1:((1:Nat):Int)=1:=rfl
theorem gV {H H1 H2:Heap} (bY:Fr [] H H1) (cQ:Fr [H.size] H1 H2):Fr [] H H2:=bY.trans' cQ (by simp)
def fV (c:UInt8):Bool:=decide ((97:Int)≤c.toNat) && decide ((c.toNat:Int)≤122)
def dh (c:UInt8):Bool:=decide ((48:Int)≤c.toNat) && decide ((c.toNat:Int)≤57)
def bg (c:UInt8):Bool:=fV c || (dh c || decide ((c.toNat:Int)=45))
def cN (c:UInt8):Bool:=decide ((c.toNat:Int)=32) || (decide ((c.toNat:Int)=9) || (decide ((c.toNat:Int)=10) || decide ((c.toNat:Int)=13)))
def j7 (c:UInt8):Bool:=!decide ((c.toNat:Int)=10)
def bM (s:Bs):Bool:=decide (0 < s.length) && (decide (s.length≤16) && (fV (s.getD 0 0) && s.all bg))
def la:List Bs:=[
 [97,110,100],[98,111,111,108],[98,111,116,116,111,109],[99,108,111,115,101,100],[99,111,110,102,108,105,99,116],[101,108,115,101],[102,97,108,115,101],[102,105,114,115,116],[102,108,97,103],[102,108,97,116],[105,102],[105,110],[105,110,116],[106,111,105,110],[107,101,121,115],
 [108,97,116,116,105,99,101],[108,101,113],[108,101,120],[109,97,112],[109,97,120],[109,105,110],[110,97,109,101],[110,97,109,101,115],[110,111,116],[110,117,109],[110,117,109,98,101,114],[111,98,106,101,99,116],[111,110],[111,110,101],[111,114],[112,97,105,114],
 [113,117,101,114,121],[114,101,99],[114,101,103,105,115,116,101,114],[115],[115,101,99,111,110,100],[115,101,116],[115,105,122,101],[115,117,109],[116,104,101,110],[116,114,117,101],[117,112,100,97,116,101],[118,97,108,117,101,115],[119,114,105,116,101]]
def eP:List Bs:=[[61],[58],[59],[44],[40],[41],[123],[125],[91],[93],[46],[43],[45],[60],[60,61],[61,61],[61,62]]
def ve (s:Bs):Bool:=decide (s ∈ la)
def cj (s:Bs):Bool:=decide (s ∈ eP)
structure Tk where
 kind:Int
 text:Bs
 n:Int
 at_:Int
 deriving DecidableEq
def jD (t:Tk):List Value:=[.int .i64 t.kind,sv t.text,.int .i64 t.n,.int .i64 t.at_]
theorem Ad (t:Tk):(jD t).length=4:=rfl
def ew:Bool→Bs→Nat
 | _,[]=>0
 | false,c :: r=>if cN c then ew false r + 1 else if (c.toNat:Int)=35 then ew true r + 1 else 0
 | true,c :: r=>if j7 c then ew true r + 1 else ew false r + 1
def my:Nat→Bs→Nat
 | a,[]=>a
 | a,c :: r=>my (10 * a + (c.toNat - 48)) r
def iG (w:Bs):Nat:=my 0 w
theorem FD:∀ (w:Bs) (a:Nat),a≤my a w
 | [],a=>afJ _
 | c :: r,a=>Nat.le_trans (by omega) (FD r (10 * a + (c.toNat - 48)))
inductive TR where
 | ok (kind:Int) (text:Bs) (n:Int) (len:Nat)
 | bad (code:Int)
 deriving DecidableEq
def wi (w:Bs):TR:=if 16 < w.length then .bad 3 else .ok (if ve w then 2 else 1) w 0 w.length
def yx (w:Bs):TR:=if 1 < w.length∧w.getD 0 0=48 then .bad 2 else if 1000000000000000 < iG w then .bad 5 else .ok 3 [] (iG w) w.length
def wj (w s:Bs):TR:=if s=[]∨s.getD 0 0≠39 then .bad 2 else if bM w then .ok 4 w 0 (w.length + 2) else .bad 3
def rA (s:Bs):TR:=if 2≤s.length∧cj (s.take 2)=true then .ok 5 (s.take 2) 0 2 else if cj (s.take 1)=true then .ok 5 (s.take 1) 0 1 else .bad 2
def cl:Bs→TR
 | []=>.ok 6 [] 0 0
 | c :: r=>if fV c then wi ((c :: r).takeWhile bg) else if dh c then yx ((c :: r).takeWhile dh)
   else if (c.toNat:Int)=39 then wj (r.takeWhile bg) (r.dropWhile bg) else rA (c :: r)
inductive LR where
 | bad (code:Int) (at_:Nat)
 | ok (l:List Tk)
 deriving DecidableEq
def LR.cons (t:Tk):LR→LR
 | .bad e k=>.bad e k
 | .ok l=>.ok (t :: l)
def j8:Nat→Bs→Nat→LR
 | 0,_,_=>.bad 0 0
 | f + 1,s,o=>match cl (s.drop (ew false s)) with
   | .bad e=>.bad e (o + ew false s)
   | .ok k t n m=>if k=6 then .ok [⟨k,t,n,(o + ew false s:Nat)⟩] else
     LR.cons ⟨k,t,n,(o + ew false s:Nat)⟩ (j8 f (s.drop (ew false s + m)) (o + ew false s + m))
def Ae (l:Bs) (o:Nat):LR:=j8 (l.length + 1) (l.drop o) o
def jb (l:Bs):LR:=if 65536 < l.length then .bad 6 65536 else Ae l 0
def lJ (p:UInt8→Bool) (l:Bs):Nat:=(l.takeWhile p).length
theorem qp (p:UInt8→Bool) (l:Bs):lJ p l≤l.length:=(List.takeWhile_sublist p).length_le
theorem FE (p:UInt8→Bool):lJ p []=0:=rfl
theorem j9 (p:UInt8→Bool) (c:UInt8) (r:Bs):lJ p (c :: r)=if p c then lJ p r + 1 else 0:=by
 unfold lJ
 rw[ahr]
 split <;> rfl
theorem lK (p:UInt8→Bool) (l:Bs):l.take (lJ p l)=l.takeWhile p:=by
 induction l with
 | nil=>rfl
 | cons c r ih=>
   rw[j9,ahr]
   split
   ·rw[ahq,ih]
   ·rfl
theorem wk (p:UInt8→Bool) (l:Bs):l.drop (lJ p l)=l.dropWhile p:=by
 induction l with
 | nil=>rfl
 | cons c r ih=>
   rw[j9,ahz]
   split
   ·rw[afQ,ih]
   ·rfl
theorem JY (p:UInt8→Bool) (l:Bs) (c:UInt8) (r:Bs) (h:l.drop (lJ p l)=c :: r):p c=false:=by
 induction l with
 | nil=>simp at h
 | cons d t ih=>
   rw[j9] at h
   split at h
   ·rw[afQ] at h; exact ih h
   ·rename_i hp
    simp at h; rw[← h.1]; simpa using hp
theorem JZ (p:UInt8→Bool) (l:Bs) (i:Nat) (h:i < l.length):lJ p (l.drop i)=if p l[i] then lJ p (l.drop (i + 1)) + 1 else 0:=by
 rw[afM h,j9]
theorem N1 (p:UInt8→Bool) (l:Bs) (i:Nat) (h:l.length≤i):lJ p (l.drop i)=0:=by
 rw[afO h]; rfl
theorem nL:∀ (b:Bool) (l:Bs),ew b l≤l.length
 | false,[]=>by simp[ew]
 | true,[]=>by simp[ew]
 | false,c :: r=>by
   have h1:=nL false r
   have h2:=nL true r
   simp only[ew,afK]
   split
   ·omega
   ·split <;> omega
 | true,c :: r=>by
   have h1:=nL false r
   have h2:=nL true r
   simp only[ew,afK]
   split <;> omega
theorem FF:∀ l:Bs,ew false l=lJ cN l + ew false (l.drop (lJ cN l))
 | []=>by simp[ew,FE]
 | c :: r=>by
   rw[j9]
   split
   ·rename_i h
    rw[afQ]
    have:=FF r
    simp only[ew,h,if_true]
    omega
   ·simp
theorem BP:∀ l:Bs,ew true l=lJ j7 l + ew false (l.drop (lJ j7 l))
 | []=>by simp[ew,FE]
 | c :: r=>by
   rw[j9]
   split
   ·rename_i h
    rw[afQ]
    have:=BP r
    simp only[ew,h,if_true]
    omega
   ·rename_i h
    have h':(c.toNat:Int)=10:=by simpa [j7] using h
    have hb:cN c=true:=by simp[cN,h']
    simp[ew,h,hb]
theorem J0 {c:UInt8} (h:(c.toNat:Int)=35) (r:Bs):ew false (c :: r)=lJ j7 (c :: r) + ew false ((c :: r).drop (lJ j7 (c :: r))):=by
 have hb:cN c=false:=by simp[cN]; omega
 have hl:j7 c=true:=by simp[j7]; omega
 have:=BP r
 rw[j9,if_pos hl,afQ]
 simp only[ew,hb,h,if_true]
 simp; omega
theorem yT {c:UInt8} (hb:cN c=false) (h:¬ (c.toNat:Int)=35) (r:Bs):ew false (c :: r)=0:=by
 simp[ew,hb,h]
theorem ka {s:Bs} {k n:Int} {t:Bs} {m:Nat} (h:cl s= .ok k t n m):m≤s.length∧(s≠[]→1≤m∧k≠6)∧(s=[]→k=6):=by
 cases s with
 | nil=>simp[cl] at h; simp[h]
 | cons c r=>
   refine ⟨?_,fun _=>?_,fun e=>by cases e⟩
   all_goals
    simp only[cl] at h
    split at h
    ·rename_i hc
     have hp:bg c=true:=by simp[bg,hc]
     have hle:=qp bg (c :: r)
     unfold lJ at hle
     have h1:1≤((c :: r).takeWhile bg).length:=by rw[ahr,if_pos hp]; simp
     unfold wi at h
     split at h
     ·cases h
     ·simp only[TR.ok.injEq] at h
      obtain ⟨h2,_,_,h3⟩:=h
      first
       | omega
       | (refine ⟨by omega,?_⟩; rw[← h2]; split <;> decide)
    ·split at h
     ·rename_i _ hc
      have hle:=qp dh (c :: r)
      unfold lJ at hle
      have h1:1≤((c :: r).takeWhile dh).length:=by rw[ahr,if_pos hc]; simp
      unfold yx at h
      split at h
      ·cases h
      ·split at h
       ·cases h
       ·simp only[TR.ok.injEq] at h
        obtain ⟨h2,_,_,h3⟩:=h
        first
         | omega
         | exact ⟨by omega,by omega⟩
     ·split at h
      ·have hle:=qp bg r
       have hd:=wk bg r
       unfold lJ at hle hd
       unfold wj at h
       split at h
       ·cases h
       ·rename_i dH
        have ba:(r.takeWhile bg).length < r.length:=by
         rcases ae8 (r.takeWhile bg).length r.length with h' | h'
         ·exact h'
         ·rw[afO h'] at hd
          exact absurd (.inl hd.symm) dH
        split at h
        ·simp only[TR.ok.injEq] at h
         obtain ⟨h2,_,_,h3⟩:=h
         try simp only[afK]
         first
          | omega
          | exact ⟨by omega,by omega⟩
        ·cases h
      ·unfold rA at h
       split at h
       ·rename_i h2
        simp only[TR.ok.injEq] at h
        obtain ⟨h3,_,_,h4⟩:=h
        first
         | omega
         | exact ⟨by omega,by omega⟩
       ·split at h
        ·simp only[TR.ok.injEq] at h
         obtain ⟨h3,_,_,h4⟩:=h
         try simp only[afK]
         first
          | omega
          | exact ⟨by omega,by omega⟩
        ·cases h
theorem tB:∀ (f g:Nat) (s:Bs) (o:Nat),s.length < f→s.length < g→j8 f s o=j8 g s o
 | 0,_,s,o,h,_=>by omega
 | _ + 1,0,s,o,_,h=>by omega
 | f + 1,g + 1,s,o,hf,hg=>by
   simp only[j8]
   have hk:=nL false s
   cases e:cl (s.drop (ew false s)) with
   | bad c=>rfl
   | ok k t n m=>
     simp only
     split
     ·rfl
     ·rename_i h6
      obtain ⟨h1,h2,h3⟩:=ka e
      have dH:s.drop (ew false s)≠[]:=fun h=>h6 (h3 h)
      obtain ⟨h4,_⟩:=h2 dH
      have h5:0 < (s.drop (ew false s)).length:=aho.2 dH
      simp only[ahs] at h1 h5
      rw[tB f g _ _ (by simp only[ahs]; omega) (by simp only[ahs]; omega)]
theorem G0 (l:Bs) (o:Nat) (ho:o≤l.length):Ae l o=match cl (l.drop (o + ew false (l.drop o))) with
 | .bad e=>.bad e (o + ew false (l.drop o))
 | .ok k t n m=>if k=6 then .ok [⟨k,t,n,(o + ew false (l.drop o):Nat)⟩] else LR.cons ⟨k,t,n,(o + ew false (l.drop o):Nat)⟩ (Ae l (o + ew false (l.drop o) + m)):=by
 unfold Ae
 rw[j8]
 rw[ahC]
 cases e:cl (l.drop (o + ew false (l.drop o))) with
 | bad c=>rfl
 | ok k t n m=>
   simp only
   split
   ·rfl
   ·rename_i h6
    obtain ⟨h1,h2,h3⟩:=ka e
    have dH:l.drop (o + ew false (l.drop o))≠[]:=fun h=>h6 (h3 h)
    obtain ⟨h4,_⟩:=h2 dH
    have h5:0 < (l.drop (o + ew false (l.drop o))).length:=aho.2 dH
    simp only[ahs] at h1 h5
    rw[ahC,show o + (ew false (l.drop o) + m)=o + ew false (l.drop o) + m by omega]
    rw[tB l.length (l.length + 1) _ _ (by simp only[ahs]; omega) (by simp only[ahs]; omega)]
def aay (s s':Bs):Prop:=s'=[]∨s'.getD 0 0=s.getD 0 0∧s≠[]∨cN (s'.getD 0 0)=true∧s'≠[]
theorem tC {c:UInt8} (h:cN c=true):fV c=false∧dh c=false∧bg c=false:=by
 simp only[cN,afl,decide_eq_true_eq] at h
 simp only[bg,fV,dh,Bool.or_eq_false_iff,Bool.and_eq_false_iff,decide_eq_false_iff_not]
 omega
theorem iN (p:UInt8→Bool) (hp:∀ c,cN c=true→p c=false):∀ (w s s':Bs),(w ++ s).takeWhile p=w→aay s s'→(w ++ s').takeWhile p=w
 | [],s,s',h,hf=>by
   rw[ahv] at h ⊢
   cases s' with
   | nil=>rfl
   | cons d t=>
     rcases hf with hf | hf | hf
     ·cases hf
     ·cases s with
      | nil=>exact absurd rfl hf.2
      | cons e u=>
        simp at hf
        rw[ahr] at h ⊢
        rw[hf]
        split at h
        ·cases h
        ·rename_i hn; rw[if_neg hn]
     ·simp at hf
      rw[ahr,if_neg (by rw[hp d hf]; decide)]
 | c :: w,s,s',h,hf=>by
   rw[ahm,ahr] at h ⊢
   split at h
   ·rename_i hc
    simp only[afV.injEq,true_and] at h
    rw[if_pos hc,iN p hp w s s' h hf]
   ·cases h
theorem D4:∀ c,cN c=true→bg c=false:=fun c h=>(tC h).2.2
theorem G2:∀ c,cN c=true→dh c=false:=fun c h=>(tC h).2.1
theorem wm (p:UInt8→Bool) (s:Bs):∃ r,s=s.takeWhile p ++ r∧s.dropWhile p=r:=⟨s.dropWhile p,(List.takeWhile_append_dropWhile).symm,rfl⟩
theorem G3:∀ a b:UInt8,cj [a,b]=true→(a,b)=(60,61)∨(a,b)=(61,61)∨(a,b)=(61,62):=by
 intro a b h
 simp only[cj,decide_eq_true_eq,eP,afa,afV.injEq,ahy,or_false,false_or,and_true,reduceCtorEq,and_false,List.ne_cons_self] at h
 simp only[aff.injEq]
 simpa using h
theorem D5 (a b:UInt8) (h:cN b=true):cj [a,b]=false:=by
 cases e:cj [a,b] with
 | false=>rfl
 | true=>
   exfalso
   simp only[cN,afl,decide_eq_true_eq] at h
   rcases G3 a b e with h1 | h1 | h1
   all_goals
    simp only[aff.injEq] at h1
    rw[h1.2] at h
    revert h; decide
theorem BQ {w s s':Bs} {k n:Int} {t:Bs} (h:cl (w ++ s)= .ok k t n w.length) (hw:w≠[]) (hf:aay s s'):cl (w ++ s')= .ok k t n w.length:=by
 cases w with
 | nil=>exact absurd rfl hw
 | cons c r=>
   rw[ahm] at h ⊢
   simp only[cl] at h ⊢
   split at h
   ·rename_i hc
    rw[if_pos hc]
    have e:(c :: (r ++ s)).takeWhile bg=c :: r:=by
     unfold wi at h
     split at h
     ·cases h
     ·simp only[TR.ok.injEq] at h
      have h1:=h.2.2.2
      have h2:=lK bg (c :: (r ++ s))
      unfold lJ at h2
      rw[← h2,h1]
      rw[← ahm,afX]
    have e':=iN bg D4 (c :: r) s s' (by rw[ahm]; exact e) hf
    rw[ahm] at e'
    rw[e'] ; rw[e] at h; exact h
   ·rename_i hc
    rw[if_neg hc]
    split at h
    ·rename_i hd
     rw[if_pos hd]
     have e:(c :: (r ++ s)).takeWhile dh=c :: r:=by
      unfold yx at h
      split at h
      ·cases h
      ·split at h
       ·cases h
       ·simp only[TR.ok.injEq] at h
        have h1:=h.2.2.2
        have h2:=lK dh (c :: (r ++ s))
        unfold lJ at h2
        rw[← h2,h1]
        rw[← ahm,afX]
     have e':=iN dh G2 (c :: r) s s' (by rw[ahm]; exact e) hf
     rw[ahm] at e'
     rw[e']; rw[e] at h; exact h
    ·rename_i hd
     rw[if_neg hd]
     split at h
     ·rename_i hq
      rw[if_pos hq]
      unfold wj at h
      split at h
      ·cases h
      ·rename_i dH
       split at h
       ·rename_i hv
        simp only[TR.ok.injEq,afK] at h
        obtain ⟨h1,h2,h3,h4⟩:=h
        obtain ⟨q,hq1,yU⟩:=wm bg (r ++ s)
        rw[yU] at dH
        generalize hu:(r ++ s).takeWhile bg=u at *
        -- r=u ++ [39]
        have hlen:r.length=u.length + 1:=by omega
        cases q with
        | nil=>exact absurd (.inl rfl) dH
        | cons d q'=>
          have TH:d=39:=by
           by_cases hx:d=39
           ·exact hx
           ·exact absurd (.inr (by simpa using hx)) dH
          subst TH
          have hr:r=u ++ [39]:=by
           have:=congrArg (ahV (u.length + 1)) hq1
           rw[← hlen,afX] at this
           rw[this,hlen,show u ++ 39 :: q'=(u ++ [39]) ++ q' by simp]
           rw[show u.length + 1=(u ++ [39]).length by simp,afX]
          subst hr
          have dk:∀ x ∈ u,bg x=true:=by
           intro x hx
           rw[← hu] at hx
           exact (List.all_eq_true.1 (ahM (p:=bg))) x hx
          have e1:(u ++ [39] ++ s').takeWhile bg=u:=by
           rw[ahw,List.takeWhile_append_of_pos dk]
           rw[ahm,ahr,if_neg (by decide)]; simp
          have e2:(u ++ [39] ++ s').dropWhile bg=39 :: s':=by
           rw[ahw,List.dropWhile_append_of_pos dk]
           rw[ahm,ahz,if_neg (by decide)]; rfl
          rw[e1,e2]
          unfold wj
          rw[if_neg (by simp),if_pos hv,h1,h2,h3]
          simp
       ·cases h
     ·rename_i hq
      rw[if_neg hq]
      unfold rA at h ⊢
      split at h
      ·rename_i h2
       simp only[TR.ok.injEq,afK] at h
       obtain ⟨h3,h4,h5,h6⟩:=h
       cases r with
       | nil=>simp at h6
       | cons d r'=>
         cases r' with
         | cons _ _=>simp at h6
         | nil=>
           have TI:cj [c,d]=true:=h2.2
           have Wa:[c,d]=t:=h4
           show (if 2≤(c :: d :: s').length∧cj [c,d]=true then TR.ok 5 [c,d] 0 2 else if cj [c]=true then TR.ok 5 [c] 0 1 else TR.bad 2)=TR.ok k t n 2
           rw[if_pos ⟨by simp,TI⟩,h3,Wa,h5]
      ·rename_i h2
       split at h
       ·rename_i h1
        simp only[TR.ok.injEq,afK] at h
        obtain ⟨h3,h4,h5,h6⟩:=h
        cases r with
        | cons _ _=>simp at h6
        | nil=>
          have yk:cj [c]=true:=h1
          have Wa:[c]=t:=h4
          have TI:¬ (2≤(c :: s).length∧cj (c :: s.take 1)=true):=h2
          have bZ:¬ (2≤(c :: s').length∧cj (c :: s'.take 1)=true):=by
           rintro ⟨g1,g2⟩
           cases s' with
           | nil=>simp at g1
           | cons d u=>
             simp only[ahq,ahB] at g2
             rcases hf with hf | hf | hf
             ·cases hf
             ·cases s with
              | nil=>exact hf.2 rfl
              | cons e v=>
                simp at hf
                subst hf
                exact TI ⟨by simp,by simpa using g2⟩
             ·simp at hf
              rw[D5 c d hf] at g2; cases g2
          show (if 2≤(c :: s').length∧cj (c :: s'.take 1)=true then TR.ok 5 (c :: s'.take 1) 0 2 else if cj [c]=true then TR.ok 5 [c] 0 1 else TR.bad 2)=TR.ok k t n 1
          rw[if_neg bZ,if_pos yk,h3,Wa,h5]
       ·cases h
theorem yV (c:UInt8) (H:Heap):aE afI 125 #[.int .u8 c.toNat] H fun r H'=>r= .bool (fV c)∧H'=H:=by
 refine af (args:=[_]) Tryz.func125 SB (ahi rfl) ?_
 unfold fV
 cases e:decide ((97:Int)≤c.toNat) <;> simp -implicitDefEqProofs only[go_sem,XN,e]
theorem wo (c:UInt8) (H:Heap):aE afI 127 #[.int .u8 c.toNat] H fun r H'=>r= .bool (dh c)∧H'=H:=by
 refine af (args:=[_]) Tryz.func127 SD (ahi rfl) ?_
 unfold dh
 cases e:decide ((48:Int)≤c.toNat) <;> simp -implicitDefEqProofs only[go_sem,c127,e]
theorem N2 (c:UInt8) (H:Heap):aE afI 124 #[.int .u8 c.toNat] H fun r H'=>r= .bool (j7 c)∧H'=H:=by
 refine af (args:=[_]) Tryz.func124 SA (ahi rfl) ?_
 unfold j7
 simp -implicitDefEqProofs only[go_sem,c124]
theorem J1 (c:UInt8) (H:Heap):aE afI 123 #[.int .u8 c.toNat] H fun r H'=>r= .bool (cN c)∧H'=H:=by
 refine af (args:=[_]) Tryz.func123 Sy (ahi rfl) ?_
 unfold cN
 cases e:decide ((c.toNat:Int)=32) <;> cases e1:decide ((c.toNat:Int)=9) <;> cases e2:decide ((c.toNat:Int)=10) <;> simp -implicitDefEqProofs only[go_sem,XM,e,e1,e2]
theorem FG (c:UInt8) (H:Heap):aE afI 126 #[.int .u8 c.toNat] H fun r H'=>r= .bool (bg c)∧H'=H:=by
 refine af (args:=[_]) Tryz.func126 SC (ahi rfl) ?_
 simp -implicitDefEqProofs only[go_sem,XO]
 refine (yV c H).mono ?_
 rintro r H' ⟨rfl,rfl⟩
 unfold bg
 cases e:fV c
 ·simp -implicitDefEqProofs only[go_sem]
  refine (wo c H').mono ?_
  rintro r H' ⟨rfl,rfl⟩
  cases e1:dh c <;> simp -implicitDefEqProofs only[go_sem]
 ·simp -implicitDefEqProofs only[go_sem]
theorem N3 (c:UInt8) (H:Heap):aE afI 110 #[.int .u8 c.toNat] H fun r H'=>r= .bool (bg c)∧H'=H:=by
 refine af (args:=[_]) Tryz.func110 SF (ahi rfl) ?_
 unfold bg fV dh
 by_cases h1:(97:Int)≤c.toNat <;> by_cases h2:(c.toNat:Int)≤122 <;> by_cases h3:(48:Int)≤c.toNat <;> by_cases h4:(c.toNat:Int)≤57 <;> by_cases h5:(c.toNat:Int)=45
 all_goals first
  | (exfalso; omega)
  | (simp -implicitDefEqProofs only[go_sem,SE,h1,h2,h3,h4,h5]; done)
  | (simp -implicitDefEqProofs only[go_sem,SE,h1,h2,h3,h4,h5]; simp[h1,h2,h3,h4,h5])
theorem wq (s:Bs) (H:Heap):aE afI 91 #[sv s] H fun r H'=>r= .bool (bM s)∧H'=H:=by
 refine af (args:=[_]) Tryz.func91 XH (ahi rfl) ?_
 unfold sv
 have hz:((s.length:Int)=0)=(s.length=0):=by apply propext; omega
 by_cases h0:s.length=0
 ·simp -implicitDefEqProofs only[go_sem,c91,aI,hz,h0]
  simp[bM,h0]
 by_cases BR:16 < s.length
 ·have qq:(16:Int) < (s.length:Int):=by omega
  simp -implicitDefEqProofs only[go_sem,c91,aI,hz,h0,qq]
  simp[bM,show ¬ s.length≤16 by omega]
 have qq:¬ (16:Int) < (s.length:Int):=by omega
 have hp:(0:Int) < (s.length:Int):=by omega
 have vr:decide (0 < s.length)=true:=decide_eq_true (by omega)
 have ju:decide (s.length≤16)=true:=decide_eq_true (by omega)
 unfold bM
 rw[vr,ju]
 generalize hc:s.getD 0 0=c
 by_cases l1:(c.toNat:Int) < 97
 ·simp -implicitDefEqProofs only[go_sem,c91,aI,hz,h0,qq,hp,hc,l1]
  simp[fV,show ¬ (97:Int)≤c.toNat by omega]
 by_cases l2:(122:Int) < (c.toNat:Int)
 ·simp -implicitDefEqProofs only[go_sem,c91,aI,hz,h0,qq,hp,hc,l1,l2]
  simp[fV,show ¬ (c.toNat:Int)≤122 by omega]
 have hl:fV c=true:=by simp[fV]; omega
 rw[hl]
 simp -implicitDefEqProofs only[go_sem,c91,aI,hz,h0,qq,hp,hc,l1,l2]
 refine bC (fun (i:Nat) H'=>i≤s.length∧(s.drop i).all bg=s.all bg∧H'=H)
  (fun i=>[(0,.string ⟨⟨s⟩⟩),(23,.int .i64 s.length),(24,.int .i64 i)]) (fun i=>s.length - i) 0 ?_ ?_ ?_
 ·exact ⟨ahn _,rfl,rfl⟩
 ·simp -implicitDefEqProofs only[go_sem]
 ·rintro i H' ⟨hi,hv,rfl⟩
  rcases ae8 i s.length with ba | nf
  ·have di:(i:Int) < (s.length:Int):=by omega
   have uG:(0:Int)≤(i:Int):=by omega
   have hw:=nK i s.length ba (by unfold maxLen; omega)
   have hg:s.getD i 0=s[i]:=by simp[ba]
   rw[afM ba,afb] at hv
   simp -implicitDefEqProofs only[go_sem,di,uG,aI,hg]
   refine (N3 s[i] H').mono ?_
   rintro r H2 ⟨rfl,rfl⟩
   cases e:bg s[i]
   ·simp -implicitDefEqProofs only[go_sem]
    rw[← hv,e,ahN]
   ·simp -implicitDefEqProofs only[go_sem]
    refine aj (i + 1) (by show s.length - (i + 1) < s.length - i; omega) ?_ ⟨ba,?_,rfl⟩
    ·simp -implicitDefEqProofs only[go_sem,hw]
    ·rw[← hv,e,ahG]
  ·have di:¬ (i:Int) < (s.length:Int):=by omega
   simp -implicitDefEqProofs only[go_sem,di]
   rw[afO nf] at hv
   rw[← hv]; rfl
def yy (s:Bs):List Value:=[sv s]
theorem J2 (x:Bs):(yy x).length=1:=rfl
theorem FH {H:Heap} {a:Option Addr} {l:List Bs} (h:gn yy H a l) (j:Nat) (hj:j < l.length):∃ b o,a=some ⟨b,o,none⟩∧ct H b (o + j)=some (.string ⟨⟨l[j]⟩⟩):=by
 obtain ⟨b,o,h1,h2⟩:=gn.get h J2 j hj (by decide)
 exact ⟨b,o,h1,by simpa [yy,sv] using h2 0 (by decide)⟩
theorem wu {H:Heap} {b t:Nat} {vs:List Value} (l:List Bs) (h:eg H b t vs) (hv:vs=l.map sv):gn yy H (some ⟨b,0,none⟩) l:=by
 subst hv
 refine .inr ⟨b,0,rfl,fun j hj=>?_⟩
 have e:l.flatMap yy=l.map sv:=by
  clear h hj
  induction l with
  | nil=>rfl
  | cons x l ih=>simp[yy,ih]
 simp only[e] at hj ⊢
 rw[afT,h.cell,List.getElem?_eq_getElem hj]
theorem J3 {H:Heap} {a:Option Addr} {l:List Bs} {c:Nat} (s:Bs) (h:gn yy H a l) (hc:l.length≤maxLen) :
 aE afI 121 #[.slice a l.length c,sv s] H fun r H'=>∃ k:Int,r= .int .i64 k∧((k < 0∧s ∉ l)∨∃ j:Nat,k=j∧∃ hj:j < l.length,l[j]=s∧∀ (i:Nat) (hi:i < j),l[i]≠s)∧H'=H:=by
 refine af (args:=[_,_]) Tryz.func121 SH (ahi rfl) ?_
 simp -implicitDefEqProofs only[go_sem,XQ]
 refine bC (fun (i:Nat) H'=>i≤l.length∧(∀ (k:Nat) (hk:k < i) (hl:k < l.length),l[k]≠s)∧H'=H)
  (fun i=>[(0,.slice a l.length c),(1,sv s),(7,.int .i64 l.length),(8,.int .i64 i)]) (fun i=>l.length - i) 0 ?_ ?_ ?_
 ·exact ⟨ahn _,fun k hk=>by omega,rfl⟩
 ·simp -implicitDefEqProofs only[go_sem]
 ·rintro i H' ⟨hi,dk,rfl⟩
  rcases ae8 i l.length with ba | nf
  ·have di:(i:Int) < (l.length:Int):=by omega
   have h0:(0:Int)≤(i:Int):=by omega
   obtain ⟨b1,o1,rfl,h1⟩:=FH h i ba
   have hw:=nK i l.length ba (by omega)
   by_cases e:s=l[i]
   ·simp -implicitDefEqProofs only[go_sem,di,h0,h1,sv,cM,e]
    exact ⟨_,rfl,.inr ⟨i,rfl,ba,rfl,fun k hk=>by rw[← e]; exact dk k hk (by omega)⟩⟩
   ·simp -implicitDefEqProofs only[go_sem,di,h0,h1,sv,cM,e]
    refine aj (i + 1) (by show l.length - (i + 1) < l.length - i; omega) ?_ ⟨ba,fun k hk hl=>?_,rfl⟩
    ·simp -implicitDefEqProofs only[go_sem,hw,sv]
    ·rcases ae8 k i with q | q
     ·exact dk k q hl
     ·obtain rfl:k=i:=by omega
      exact Ne.symm e
  ·have di:¬ (i:Int) < (l.length:Int):=by omega
   simp -implicitDefEqProofs only[go_sem,di]
   refine ⟨_,rfl,.inl ⟨by decide,fun hm=>?_⟩⟩
   obtain ⟨k,hk,e⟩:=ahL hm
   exact dk k (by omega) hk e
theorem uH {H:Heap} {a:Option Addr} {l:List Bs} {c:Nat} (s:Bs) (h:gn yy H a l) (hc:l.length≤maxLen):aE afI 111 #[.slice a l.length c,sv s] H fun r H'=>r= .bool (decide (s ∈ l))∧H'=H:=by
 refine af (args:=[_,_]) Tryz.func111 SG (ahi rfl) ?_
 simp -implicitDefEqProofs only[go_sem,XP]
 refine (J3 s h hc).mono ?_
 rintro r H1 ⟨k,rfl,hk,rfl⟩
 simp -implicitDefEqProofs only[go_sem]
 congr 1
 rw[Bool.eq_iff_iff,decide_eq_true_eq,decide_eq_true_eq]
 rcases hk with ⟨h1,h2⟩ | ⟨j,rfl,hj,e,_⟩
 ·exact ⟨fun h=>by omega,fun h=>absurd h h2⟩
 ·exact ⟨fun _=>by rw[← e]; exact ahD _,fun _=>by omega⟩
theorem aaz {H:Heap} {a:Option Addr} {l:List Bs} {c:Nat} (s:Bs) (h:gn yy H a l) (hc:l.length≤maxLen):aE afI 119 #[.slice a l.length c,sv s] H fun r H'=>r= .bool (decide (s ∈ l))∧H'=H:=by
 refine af (args:=[_,_]) Tryz.func119 SK (ahi rfl) ?_
 simp -implicitDefEqProofs only[go_sem,c119]
 refine bC (fun (i:Nat) H'=>i≤l.length∧(∀ (k:Nat) (hk:k < i) (hl:k < l.length),l[k]≠s)∧H'=H)
  (fun i=>[(0,.slice a l.length c),(1,sv s),(5,.int .i64 i)]) (fun i=>l.length - i) 0 ?_ ?_ ?_
 ·exact ⟨ahn _,fun k hk=>by omega,rfl⟩
 ·simp -implicitDefEqProofs only[go_sem]
 ·rintro i H' ⟨hi,dk,rfl⟩
  rcases ae8 i l.length with ba | nf
  ·have di:(i:Int) < (l.length:Int):=by omega
   have h0:(0:Int)≤(i:Int):=by omega
   obtain ⟨b1,o1,rfl,h1⟩:=FH h i ba
   have hw:=nK i l.length ba (by omega)
   by_cases e:l[i]=s
   ·have hm:s ∈ l:=by rw[← e]; exact ahD _
    simp -implicitDefEqProofs only[go_sem,di,h0,h1,sv,cM,e,hm]
   ·simp -implicitDefEqProofs only[go_sem,di,h0,h1,sv,cM,e]
    refine aj (i + 1) (by show l.length - (i + 1) < l.length - i; omega) ?_ ⟨ba,fun k hk hl=>?_,rfl⟩
    ·simp -implicitDefEqProofs only[go_sem,hw,sv]
    ·rcases ae8 k i with q | q
     ·exact dk k q hl
     ·obtain rfl:k=i:=by omega
      exact e
  ·have di:¬ (i:Int) < (l.length:Int):=by omega
   have hm:s ∉ l:=fun hm=>by
    obtain ⟨k,hk,e⟩:=ahL hm
    exact dk k (by omega) hk e
   simp -implicitDefEqProofs only[go_sem,di,hm]
theorem wv (s:Bs) (H:Heap):aE afI 92 #[sv s] H fun r H'=>r= .bool (ve s)∧Fr [] H H':=by
 refine af (args:=[_]) Tryz.func92 XJ (ahi rfl) ?_
 simp -implicitDefEqProofs only[go_sem,c92]
 refine db fun H1 mz bY gK=>?_
 simp -implicitDefEqProofs only[go_sem]
 refine (uH (l:=la) s (wu la mz rfl) (by decide)).mono ?_
 rintro r H2 ⟨rfl,rfl⟩
 simp -implicitDefEqProofs only[go_sem]
 exact ⟨rfl,bY⟩
theorem vt (s:Bs) (H:Heap):aE afI 129 #[sv s] H fun r H'=>r= .bool (cj s)∧Fr [] H H':=by
 refine af (args:=[_]) Tryz.func129 Sw (ahi rfl) ?_
 simp -implicitDefEqProofs only[go_sem,XK]
 refine db fun H1 mz bY gK=>?_
 simp -implicitDefEqProofs only[go_sem]
 refine (uH (l:=eP) s (wu eP mz rfl) (by decide)).mono ?_
 rintro r H2 ⟨rfl,rfl⟩
 simp -implicitDefEqProofs only[go_sem]
 exact ⟨rfl,bY⟩
theorem Af (H:Heap):aE afI 120 #[] H fun r H'=>∃ a,r= .slice a la.length la.length∧gn yy H' a la∧Fr [] H H':=by
 refine af (args:=[]) Tryz.func120 SL (ahi rfl) ?_
 simp -implicitDefEqProofs only[go_sem,XS]
 refine db fun H1 mz bY gK=>?_
 simp -implicitDefEqProofs only[go_sem]
 exact ⟨_,rfl,wu la mz rfl,bY⟩
theorem BS (s:Bs) (H:Heap):aE afI 108 #[sv s] H fun r H'=>r= .bool (ve s)∧Fr [] H H':=by
 refine af (args:=[_]) Tryz.func108 SJ (ahi rfl) ?_
 simp -implicitDefEqProofs only[go_sem,XR]
 refine (Af H).mono ?_
 rintro r H1 ⟨a,rfl,hr,bY⟩
 simp -implicitDefEqProofs only[go_sem]
 refine (aaz (l:=la) s hr (by decide)).mono ?_
 rintro r H2 ⟨rfl,rfl⟩
 simp -implicitDefEqProofs only[go_sem]
 exact ⟨rfl,bY⟩
theorem getD_at (l:Bs) (i:Nat) (h:i < l.length):l.getD i 0=l[i]:=by simp[h]
theorem wx {p:UInt8→Bool} {f:Nat} (hb:dV afI f=true) (hp:∀ (c:UInt8) (H:Heap),aE afI f #[.int .u8 c.toNat] H fun r H'=>r= .bool (p c)∧H'=H)
 {l:Bs} (hl:l.length≤maxLen) {H:Heap} {b at_:Nat} (G4:at_≤l.length) (h:eg H b 115 [sv l,.int .i64 at_]) :
 aE afI 122 #[.pointer (some ⟨b,0,none⟩),.func (.func f) #[] #[]] H fun r H'=>r=sv ((l.drop at_).takeWhile p)∧eg H' b 115 [sv l,.int .i64 (at_ + lJ p (l.drop at_):Nat)]∧Fr [b] H H':=by
 refine af (args:=[_,_]) Tryz.func122 Sx (ahi rfl) ?_
 have hc:=h.cell
 simp -implicitDefEqProofs only[go_sem,XL,hc]
 refine bC (fun (i:Nat) H'=>(at_≤i∧i≤l.length∧i + lJ p (l.drop i)=at_ + lJ p (l.drop at_))∧eg H' b 115 [sv l,.int .i64 i]∧Fr [b] H H')
  (fun i=>[(0,.pointer (some ⟨b,0,none⟩)),(1,.func (.func f) #[] #[]),(5,.int .i64 at_)]) (fun i=>l.length - i) at_ ?_ ?_ ?_
 ·exact ⟨⟨afJ _,G4,rfl⟩,h,Fr.refl _ _⟩
 ·simp -implicitDefEqProofs only[go_sem]
 ·rintro i H' ⟨⟨h1,h2,h3⟩,yj,hf⟩
  have hc':=yj.cell
  have stop:lJ p (l.drop i)=0→(l.drop at_).takeWhile p=(l.take i).drop at_∧eg H' b 115 [sv l,.int .i64 (at_ + lJ p (l.drop at_):Nat)]∧Fr [b] H H':=by
   intro h0
   rw[h0,ahl] at h3
   rw[← h3]
   refine ⟨?_,yj,hf⟩
   rw[← lK,ahQ]
   congr 1; omega
  rcases ae8 i l.length with ba | nf
  ·have di:(i:Int) < (l.length:Int):=by omega
   have uG:(0:Int)≤(i:Int):=by omega
   have hw:=nK i l.length ba hl
   have hg:=getD_at l i ba
   have ht:=JZ p l i ba
   simp -implicitDefEqProofs only[go_sem,hc',sv,aI,di,uG,hg,hb]
   refine (hp l[i] H').mono ?_
   rintro r H2 ⟨rfl,TJ⟩
   obtain rfl:=TJ.symm
   cases e:p l[i]
   ·rw[e] at ht
    obtain ⟨q1,q2,q3⟩:=stop (by simpa using ht)
    have hle:(at_:Int)≤(i:Int):=by omega
    have M7:(i:Int)≤(l.length:Int):=by omega
    have BL:(0:Int)≤(at_:Int):=by omega
    simp -implicitDefEqProofs only[go_sem,hc',sv,aI,di,uG,hg,e,hle,M7,BL]
    refine ⟨?_,q2,q3⟩
    rw[q1]
    exact congrArg ahW (Ac l at_ i)
   ·rw[e] at ht
    simp -implicitDefEqProofs only[go_sem,hc',sv,aI,di,uG,hg,e,hw]
    refine bL yj (by simp) rfl fun H3 vu dE yz=>?_
    simp -implicitDefEqProofs only[go_sem]
    refine aj (i + 1) (by show l.length - (i + 1) < l.length - i; omega) ?_ ⟨⟨by omega,ba,by simp at ht; omega⟩,?_,hf.trans dE⟩
    ·simp -implicitDefEqProofs only[go_sem]
    ·exact vu
  ·have di:¬ (i:Int) < (l.length:Int):=by omega
   have uG:(0:Int)≤(i:Int):=by omega
   obtain ⟨q1,q2,q3⟩:=stop (N1 p l i nf)
   have hle:(at_:Int)≤(i:Int):=by omega
   have M7:(i:Int)≤(l.length:Int):=by omega
   have BL:(0:Int)≤(at_:Int):=by omega
   simp -implicitDefEqProofs only[go_sem,hc',sv,aI,di,uG,hle,M7,BL]
   refine ⟨?_,q2,q3⟩
   rw[q1]
   exact congrArg ahW (Ac l at_ i)
theorem D6:dV afI 123=true:=by kernel_rfl
theorem G5:dV afI 124=true:=by kernel_rfl
theorem N4 {l:Bs} (hl:l.length≤maxLen) {H:Heap} {b at_:Nat} (G4:at_≤l.length) (h:eg H b 115 [sv l,.int .i64 at_]) :
 aE afI 113 #[.pointer (some ⟨b,0,none⟩)] H fun r H'=>eg H' b 115 [sv l,.int .i64 (at_ + ew false (l.drop at_):Nat)]∧Fr [b] H H':=by
 refine af (args:=[_]) Tryz.func113 Ss (ahi rfl) ?_
 simp -implicitDefEqProofs only[go_sem,XF]
 refine bC (fun (i:Nat) H'=>(at_≤i∧i≤l.length∧i + ew false (l.drop i)=at_ + ew false (l.drop at_))∧eg H' b 115 [sv l,.int .i64 i]∧Fr [b] H H')
  (fun i=>[(0,.pointer (some ⟨b,0,none⟩))]) (fun i=>l.length - i) at_ ?_ ?_ ?_
 ·exact ⟨⟨afJ _,G4,rfl⟩,h,Fr.refl _ _⟩
 ·simp -implicitDefEqProofs only[go_sem]
 ·rintro i H' ⟨⟨h1,h2,h3⟩,yj,hf⟩
  simp -implicitDefEqProofs only[go_sem]
  refine (wx D6 J1 hl h2 yj).mono ?_
  rintro r H2 ⟨rfl,tD,cQ⟩
  have hle:=qp cN (l.drop i)
  simp only[ahs] at hle
  have hr:=FF (l.drop i)
  rw[ahC] at hr
  generalize hk:i + lJ cN (l.drop i)=k at *
  have yh:=tD.cell
  have hF:=hf.trans cQ
  have Dl:(0:Int)≤(k:Int):=by omega
  rcases ae8 k l.length with ba | nf
  ·have di:¬ (l.length:Int)≤(k:Int):=by omega
   have aaA:(k:Int) < (l.length:Int):=by omega
   have hg:=getD_at l k ba
   have hnb:cN l[k]=false:=by
    refine JY cN (l.drop i) l[k] (l.drop (k + 1)) ?_
    rw[ahC,hk,← afM ba]
   by_cases e:(l[k].toNat:Int)=35
   ·simp -implicitDefEqProofs only[go_sem,yh,sv,aI,di,aaA,Dl,hg,e]
    refine (wx G5 N2 hl (Nat.le_of_lt ba) tD).mono ?_
    rintro r H3 ⟨rfl,vu,dE⟩
    have hh:=J0 e (l.drop (k + 1))
    rw[← afM ba,ahC] at hh
    have N5:=qp j7 (l.drop k)
    simp only[ahs] at N5
    have tE:0 < lJ j7 (l.drop k):=by
     rw[JZ _ _ _ ba,if_pos (by simp[j7]; omega)]; omega
    simp -implicitDefEqProofs only[go_sem]
    refine aj (k + lJ j7 (l.drop k)) (by show l.length - (k + lJ j7 (l.drop k)) < l.length - i; omega) ?_ ⟨⟨by omega,by omega,by omega⟩,vu,hF.trans dE⟩
    simp -implicitDefEqProofs only[go_sem]
   ·have h0:ew false (l.drop k)=0:=by
     rw[afM ba]; exact yT hnb e _
    simp -implicitDefEqProofs only[go_sem,yh,sv,aI,di,aaA,Dl,hg,e]
    rw[show at_ + ew false (l.drop at_)=k by omega]
    exact ⟨tD,hF⟩
  ·have di:(l.length:Int)≤(k:Int):=by omega
   have h0:ew false (l.drop k)=0:=by
    rw[afO nf]; rfl
   simp -implicitDefEqProofs only[go_sem,yh,sv,aI,di,Dl]
   rw[show at_ + ew false (l.drop at_)=k by omega]
   exact ⟨tD,hF⟩
theorem rB {P:Program} {f:Nat} {args:Array Value} {H:Heap} {R:Value→Prop} (h:∀ w:World,w.heap=H→Calls P f args w fun e w'=>∃ v,e= .returned v∧R v∧RowKit.Below w.heap.size w w') :
 aE P f args H fun v H'=>R v∧Fr [] H H':=by
 intro w hw
 refine (h w hw).mono fun e w' ⟨v,he,hr,hb⟩=>?_
 subst he
 refine ⟨⟨hr,?_⟩,hb.os,hb.tape,hb.output⟩
 subst hw
 exact ⟨hb.size,fun k hk _=>hb.block k hk⟩
theorem adp:afI.globalNamed "strconv.ErrRange"=some 2:=by kernel_rfl
theorem aaB:afI.globalNamed "internal/strconv.uint64pow10"=some 0:=by kernel_rfl
structure bS (H:Heap):Prop where
 err:∃ ev,ct H 2 0=some ev∧(ev= .nilIface∨∃ t p,ev= .iface t p)
 tab:∃ t fr,H[0]?=some (.cells (Lib.pow10Tab.map fun z=>ahE .u64 z).toArray t fr)
theorem bS.fr {M:List Nat} {H H':Heap} (h:bS H) (hf:Fr M H H') (h2:2 ∉ M) (h3:0 ∉ M):bS H':=by
 obtain ⟨⟨ev,h1,h4⟩,t,fr,h5⟩:=h
 refine ⟨⟨ev,ab h1 hf h2,h4⟩,t,fr,?_⟩
 have ba:0 < H.size:=by
  rcases ae8 0 H.size with q | q
  ·exact q
  ·rw[Array.getElem?_eq_none q] at h5; cases h5
 rw[hf.same 0 ba h3]; exact h5
theorem bS.ext {H H':Heap} (h:bS H) (hf:Fr [] H H'):bS H':=h.fr hf (by simp) (by simp)
theorem bS.ne {H:Heap} (h:bS H) {b t:Nat} {s:Bs} {l:List Value} (hb:eg H b t (sv s :: l)):2≠b∧0≠b:=by
 obtain ⟨⟨ev,h1,h4⟩,t',fr,h5⟩:=h
 constructor
 ·rintro rfl
  have:=hb.cell 0
  rw[h1] at this
  simp at this
  rcases h4 with h4 | ⟨_,_,h4⟩ <;> rw[h4] at this <;> cases this
 ·rintro rfl
  unfold eg at hb
  rw[h5] at hb
  simp only[ae9.injEq,Obj.cells.injEq] at hb
  have:=congrArg (fun a=>a.toList.head?) hb.1
  simp[Lib.pow10Tab,sv] at this
theorem J4 {M N:Nat} (hM:M + 1=N) (hN:N≤18446744073709551620) (hN':18446744073709551616≤N) (w:Bs):∀ (acc:Nat),w.all dh=true→(my acc w < N→ahJ M acc w= .ok (my acc w))∧(acc < N→N≤my acc w→ahJ M acc w= .range):=by
 induction w with
 | nil=>
   intro acc _
   have e1:my acc []=acc:=rfl
   have e2:ahJ M acc []= .ok acc:=rfl
   rw[e1,e2]
   refine ⟨fun _=>rfl,fun h1 h2=>?_⟩
   exact absurd h2 (Nat.not_le.2 h1)
 | cons c r ih=>
   intro acc h
   rw[afb,ae5] at h
   have hd:=h.1
   simp only[dh,ae5,decide_eq_true_eq] at hd
   have e1:my acc (c :: r)=my (10 * acc + (c.toNat - 48)) r:=rfl
   have e2:ahJ M acc (c :: r)=if 48≤c.toNat∧c.toNat≤57 then if 1844674407370955162≤acc then .range else if M < acc * 10 + (c.toNat - 48) then .range else ahJ M (acc * 10 + (c.toNat - 48)) r else .syntax:=by simp only[ahJ]
   rw[e1,e2,if_pos (by omega),Nat.mul_comm acc 10]
   have hu:=FD r (10 * acc + (c.toNat - 48))
   have ih:=ih (10 * acc + (c.toNat - 48)) h.2
   generalize my (10 * acc + (c.toNat - 48)) r=m at *
   refine ⟨fun h1=>?_,fun h0 h1=>?_⟩
   ·rw[if_neg (by omega),if_neg (by omega)]; exact ih.1 h1
   ·by_cases q1:1844674407370955162≤acc
    ·rw[if_pos q1]
    ·rw[if_neg q1]
     by_cases q2:M < 10 * acc + (c.toNat - 48)
     ·rw[if_pos q2]
     ·rw[if_neg q2]; exact ih.2 (by omega) h1
theorem G6 {w:Bs} (h:w.all dh=true) (h0:w≠[]):af4 64 w=if 9223372036854775808≤iG w then .range else .ok (iG w:Int):=by
 cases w with
 | nil=>exact absurd rfl h0
 | cons c r=>
   have hc:=h
   rw[afb,ae5] at hc
   have hd:=hc.1
   simp only[dh,ae5,decide_eq_true_eq] at hd
   unfold af4
   simp only
   rw[if_neg (by omega)]
   unfold Lib.parseUintB
   rw[if_neg (by simp),show (2 ^ 64 - 1:Nat)=18446744073709551615 from rfl]
   have hg:=J4 (M:=18446744073709551615) (N:=18446744073709551616) (by decide) (by decide) (by decide) (c :: r) 0 h
   have rC:¬ c.toNat=45:=by omega
   unfold iG
   generalize my 0 (c :: r)=n at *
   by_cases hn:n < 18446744073709551616
   ·rw[hg.1 hn]
    by_cases h2:9223372036854775808≤n
    ·simp[rC,h2]
    ·simp[rC,h2]
   ·rw[hg.2 (by decide) (by omega),if_pos (by omega)]
theorem BU {w:Bs} (h:w.all dh=true) (h0:w≠[]) (hl:w.length≤65536) {H:Heap} (hg:bS H) :
 aE afI 128 #[sv w,.int .i64 10,.int .i64 64] H fun r H'=>(if 9223372036854775808≤iG w then ∃ n t p,r= .tuple #[.int .i64 n,.iface t p] else r= .tuple #[.int .i64 (iG w),.nilIface])∧Fr [] H H':=by
 refine rB (R:=fun r=>if 9223372036854775808≤iG w then ∃ n t p,r= .tuple #[.int .i64 n,.iface t p] else r= .tuple #[.int .i64 (iG w),.nilIface]) fun W hW=>?_
 have hp:=G6 h h0
 split at hp
 ·obtain ⟨⟨ev,h1,h4⟩,_⟩:=hg
  subst hW
  refine (Tryz.strconv_ParseInt_10_at64_range ⟨⟨w⟩⟩ (show w.length≤_ by omega) hp ev W (by rw[qU]; exact (fA W.heap 2 0).trans h1) h4).mono fun e w' ⟨N,he,_,_,hb⟩=>?_
  exact ⟨_,he,by rw[if_pos (by assumption)]; exact ⟨_,_,_,rfl⟩,hb⟩
 ·refine (Tryz.strconv_ParseInt_10_at64_ok ⟨⟨w⟩⟩ (show w.length≤_ by omega) _ hp W).mono fun e w' ⟨he,hw⟩=>?_
  refine ⟨_,he,by rw[if_neg (by assumption)],?_⟩
  rcases hw with rfl | ⟨t,rfl⟩
  ·exact RowKit.Below.refl _ _
  ·exact Joins.below_bytesWorld _ _ _ _ (afJ _)
theorem rD {n:Int} (h0:-9223372036854775808≤n) (h1:n≤9223372036854775807) {H:Heap} (hg:bS H) :
 aE afI 100 #[.int .i64 n,.int .i64 10] H fun r H'=>r=sv (Lib.itoa n)∧Fr [] H H':=by
 refine rB (R:=fun r=>r=sv (Lib.itoa n)) fun W hW=>?_
 refine (Tryz.strconv_FormatInt_10 n h0 h1 W ?_).mono fun e w' ⟨he,k,os,hw⟩=>?_
 ·obtain ⟨_,t,fr,h5⟩:=hg
  subst hW
  unfold Lib.TabIs World.var?
  rw[aaB,Option.bind_some,h5]
 ·subst hw
  exact ⟨_,he,rfl,Lib.below_grow _ _ (afJ _) _ _⟩
theorem yW:dV afI 126=true:=by kernel_rfl
theorem D7:dV afI 127=true:=by kernel_rfl
def G7 (l:Bs) (at_ b:Nat) (H:Heap) (r:Value) (H':Heap):Prop:=
 match cl (l.drop at_) with
 | .ok k t n m=>r= .tuple #[.agg #[.int .i64 k,sv t,.int .i64 n,.int .i64 at_],.int .i64 0]∧eg H' b 115 [sv l,.int .i64 (at_ + m:Nat)]∧Fr [b] H H'
 | .bad e=>(∃ (k:Int) (t:Bs) (n a:Int),r= .tuple #[.agg #[.int .i64 k,sv t,.int .i64 n,.int .i64 a],.int .i64 e])∧Fr [b] H H'
theorem jc {k n a:Int} {t:Bs}:∀ v ∈ [ahE .i64 k,sv t,.int .i64 n,.int .i64 a],v.oneCell'=true:=by
 intro v hv
 simp only[afa,ahy,or_false] at hv
 rcases hv with rfl | rfl | rfl | rfl <;> rfl
theorem BV {a b:Value} (h1:a.oneCell'=true) (h2:b.oneCell'=true):∀ v ∈ [a,b],v.oneCell'=true:=by simp[h1,h2]
structure St (H:Heap) (l:Bs) (b x1 x2:Nat) (i k:Int) (t:Bs) (n a:Int) (H':Heap):Prop where
 sc:eg H' b 115 [sv l,.int .i64 i]
 tk:eg H' x2 58 [.int .i64 k,sv t,.int .i64 n,.int .i64 a]
 re:eg H' x1 58 [.int .i64 0,sv [],.int .i64 0,.int .i64 0]
 fr:Fr [b] H H'
 ne:x1≠x2∧b≠x1∧b≠x2∧H.size≤x1∧H.size≤x2
section
variable {H H' H2:Heap} {l t t':Bs} {b x1 x2:Nat} {i k n a i' k' n' a':Int}
theorem St.ext (h:St H l b x1 x2 i k t n a H') (hf:Fr [] H' H2):St H l b x1 x2 i k t n a H2:=
 ⟨h.sc.ext hf,h.tk.ext hf,h.re.ext hf,h.fr.trans' hf (by simp),h.ne⟩
theorem St.set (h:St H l b x1 x2 i k t n a H') (hb:eg H2 x2 58 [.int .i64 k',sv t',.int .i64 n',.int .i64 a']) (hf:Fr [x2] H' H2):St H l b x1 x2 i k' t' n' a' H2:=by
 obtain ⟨h1,h2,h3,h4,h5⟩:=h.ne
 exact ⟨h.sc.fr hf (by simp[h3]),hb,h.re.fr hf (by simp[h1]),h.fr.trans' hf (by simp; omega),h.ne⟩
theorem St.scan (h:St H l b x1 x2 i k t n a H') (hb:eg H2 b 115 [sv l,.int .i64 i']) (hf:Fr [b] H' H2):St H l b x1 x2 i' k t n a H2:=by
 obtain ⟨h1,h2,h3,h4,h5⟩:=h.ne
 exact ⟨hb,h.tk.fr hf (by simp[Ne.symm h3]),h.re.fr hf (by simp[Ne.symm h2]),h.fr.trans hf,h.ne⟩
theorem St.eQ (h:St H l b x1 x2 i k t n a H') (hg:bS H) {u:Value} (hb:eg H b 115 [sv l,u]):bS H':=by
 obtain ⟨h1,h2⟩:=hg.ne hb
 exact hg.fr h.fr (by simp[h1]) (by simp[h2])
theorem St.fin (h:St H l b x1 x2 i k t n a H') (hf:Fr [x1] H' H2):eg H2 b 115 [sv l,.int .i64 i]∧Fr [b] H H2:=by
 obtain ⟨h1,h2,h3,h4,h5⟩:=h.ne
 exact ⟨h.sc.fr hf (by simp[h2]),h.fr.trans' hf (by simp; omega)⟩
end
set_option maxHeartbeats 4000000 in
theorem J5 {l:Bs} (hl:l.length≤65536) {H:Heap} {b at_:Nat} (G4:at_≤l.length) (h:eg H b 115 [sv l,.int .i64 at_]) (hg:bS H) :
 aE afI 114 #[.pointer (some ⟨b,0,none⟩)] H fun r H'=>G7 l at_ b H r H':=by
 have hlm:l.length≤maxLen:=by unfold maxLen; omega
 refine af (args:=[_]) Tryz.func114 Su (ahi rfl) ?_
 have dH:=hg.ne h
 simp -implicitDefEqProofs only[go_sem,XG]
 refine ay fun H1 vr bY gK=>?_
 have mz:=h.ext bY
 have hc1:=mz.cell
 have N6:=h.lt
 simp -implicitDefEqProofs only[go_sem,hc1]
 refine ay fun H2 ju cQ jl=>?_
 have aaC:=vr.ext cQ
 have tD:=mz.ext cQ
 have BN:Fr [] H H2:=bY.trans cQ
 generalize J6:H.size=x1 at *
 generalize D8:H1.size=x2 at *
 have wy:x1≠x2:=by omega
 have adq:b≠x1:=by omega
 have aaD:b≠x2:=by omega
 simp -implicitDefEqProofs only[go_sem]
 refine aC ju rfl (jc (t:=[])) fun H3 oJ dE yz=>?_
 have aaE:=aaC.fr dE (by simp[wy])
 have vu:=tD.fr dE (by simp[aaD])
 have hF3:Fr [] H H3:=BN.trans' dE (by simp; omega)
 have QS:=hg.ext hF3
 clear vr ju aaC mz tD hc1
 have S3:St H l b x1 x2 at_ 0 [] 0 at_ H3:=⟨vu,oJ,aaE,hF3.mono (by simp),wy,adq,aaD,by omega,by omega⟩
 clear aaE oJ vu dE cQ bY BN
 have tg:=S3.sc.cell
 -- how every way ends
 have fin:∀ {k n:Int} {t:Bs} {m:Nat} {H4 H5:Heap},cl (l.drop at_)= .ok k t n m→St H l b x1 x2 (at_ + m:Nat) k t n at_ H4→Fr [x1] H4 H5→
  G7 l at_ b H (.tuple #[.agg #[.int .i64 k,sv t,.int .i64 n,.int .i64 at_],.int .i64 0]) H5:=by
  intro k n t m H4 H5 e hs hf
  unfold G7; rw[e]; exact ⟨rfl,hs.fin hf⟩
 have Ag:∀ {i k n a e:Int} {t:Bs} {H4 H5:Heap},cl (l.drop at_)= .bad e→St H l b x1 x2 i k t n a H4→Fr [x1] H4 H5→G7 l at_ b H (.tuple #[.agg #[.int .i64 k,sv t,.int .i64 n,.int .i64 a],.int .i64 e]) H5:=by
  intro i k n a e t H4 H5 he hs hf
  unfold G7; rw[he]; exact ⟨⟨_,_,_,_,rfl⟩,(hs.fin hf).2⟩
 rcases ae8 at_ l.length with ba | nf
 case inr=>
  have ta:at_=l.length:=by omega
  have TK:((at_:Int)=(l.length:Int))=True:=by simp[ta]
  have ht:cl (l.drop at_)= .ok 6 [] 0 0:=by rw[afO nf]; rfl
  simp -implicitDefEqProofs only[go_sem,tg,sv,aI,TK]
  refine bL S3.tk (by simp) rfl fun H4 yA iO tG=>?_
  have S4:=S3.set (k':=6) (t':=[]) (n':=0) (a':=at_) yA iO
  have Dq:=S4.tk.cell
  simp -implicitDefEqProofs only[go_sem,Dq]
  refine aC S4.re rfl (jc (t:=[])) fun H5 np fP D9=>?_
  have Be:=np.cell
  simp -implicitDefEqProofs only[go_sem,Be]
  exact fin ht S4 fP
 have TK:((at_:Int)=(l.length:Int))=False:=by simp; omega
 have di:(at_:Int) < (l.length:Int):=by omega
 have BL:(0:Int)≤(at_:Int):=by omega
 have hgd:=getD_at l at_ ba
 have hdr:=afM ba
 simp -implicitDefEqProofs only[go_sem,tg,sv,aI,TK,di,BL,hgd]
 refine (yV l[at_] H3).mono ?_
 rintro r H4 ⟨rfl,TJ⟩
 obtain rfl:=TJ.symm
 cases N7:fV l[at_]
 case true=>
  have nM:cl (l.drop at_)=wi ((l.drop at_).takeWhile bg):=by rw[hdr]; simp only[cl,N7,if_true]
  simp -implicitDefEqProofs only[go_sem]
  refine (wx yW FG hlm G4 S3.sc).mono ?_
  rintro r H5 ⟨rfl,FI,fP⟩
  generalize hw:(l.drop at_).takeWhile bg=w at *
  have Ah:lJ bg (l.drop at_)=w.length:=by unfold lJ; rw[hw]
  rw[Ah] at FI
  have S5:=S3.scan FI fP
  simp -implicitDefEqProofs only[go_sem,sv]
  refine bL S5.tk (by simp) rfl fun H6 gL fB BW=>?_
  have S6:=S5.set (k':=0) (t':=w) (n':=0) (a':=at_) gL fB
  simp -implicitDefEqProofs only[go_sem]
  refine bL S6.tk (by simp) rfl fun H7 qR fK uI=>?_
  have S7:=S6.set (k':=1) (t':=w) (n':=0) (a':=at_) qR fK
  have p7:=S7.tk.cell
  by_cases BR:16 < w.length
  ·have qq:(16:Int) < (w.length:Int):=by omega
   simp -implicitDefEqProofs only[go_sem,p7,sv,aI,qq]
   refine aC S7.re rfl jc fun H8 kC dy qu=>?_
   have nB:=kC.cell
   simp -implicitDefEqProofs only[go_sem,nB]
   exact Ag (by rw[nM]; unfold wi; rw[if_pos BR]) S7 dy
  ·have qq:¬ (16:Int) < (w.length:Int):=by omega
   simp -implicitDefEqProofs only[go_sem,p7,sv,aI,qq]
   refine (wv w H7).mono ?_
   rintro r H8 ⟨rfl,dy⟩
   have S8:=S7.ext dy
   have nB:=S8.tk.cell
   cases ek:ve w
   ·simp -implicitDefEqProofs only[go_sem,nB]
    refine aC S8.re rfl jc fun H9 pN dB vf=>?_
    have tH:=pN.cell
    simp -implicitDefEqProofs only[go_sem,tH]
    exact fin (by rw[nM]; unfold wi; rw[if_neg BR,ek]; rfl) S8 dB
   ·simp -implicitDefEqProofs only[go_sem]
    refine bL S8.tk (by simp) rfl fun H9 pN dB vf=>?_
    have S9:=S8.set (k':=2) (t':=w) (n':=0) (a':=at_) pN dB
    have tH:=S9.tk.cell
    simp -implicitDefEqProofs only[go_sem,tH]
    refine aC S9.re rfl jc fun kb nN dK G8=>?_
    have tI:=nN.cell
    simp -implicitDefEqProofs only[go_sem,tI]
    exact fin (by rw[nM]; unfold wi; rw[if_neg BR,ek]; rfl) S9 dK
 simp -implicitDefEqProofs only[go_sem]
 refine (wo l[at_] H3).mono ?_
 rintro r H4 ⟨rfl,TJ⟩
 obtain rfl:=TJ.symm
 cases N8:dh l[at_]
 case true=>
  have nM:cl (l.drop at_)=yx ((l.drop at_).takeWhile dh):=by rw[hdr]; simp only[cl,N7,N8,ae6,if_false,if_true]
  simp -implicitDefEqProofs only[go_sem]
  refine (wx D7 wo hlm G4 S3.sc).mono ?_
  rintro r H5 ⟨rfl,FI,fP⟩
  have dk:((l.drop at_).takeWhile dh).all dh=true:=ahM
  have aaF:(l.drop at_).takeWhile dh≠[]:=by rw[hdr,ahr,if_pos N8]; simp
  have N9:((l.drop at_).takeWhile dh).length≤65536:=by
   have:=qp dh (l.drop at_)
   unfold lJ at this
   simp only[ahs] at this
   omega
  generalize hw:(l.drop at_).takeWhile dh=w at *
  have Ah:lJ dh (l.drop at_)=w.length:=by unfold lJ; rw[hw]
  rw[Ah] at FI
  have S5:=S3.scan FI fP
  have Be:=S5.tk.cell
  have hw0:0 < w.length:=aho.2 aaF
  have aaG:(0:Int) < (w.length:Int):=by omega
  by_cases uJ:1 < w.length∧w.getD 0 0=48
  ·have yk:(1:Int) < (w.length:Int):=by omega
   simp -implicitDefEqProofs only[go_sem,Be,sv,aI,yk,aaG,uJ.2]
   have Ai:((UInt8.toNat 48:Nat):Int)=48:=by decide
   simp -implicitDefEqProofs only[go_sem,Ai]
   refine aC S5.re rfl (jc (t:=[])) fun H8 kC dy qu=>?_
   have nB:=kC.cell
   simp -implicitDefEqProofs only[go_sem,nB]
   exact Ag (by rw[nM]; unfold yx; rw[if_pos uJ]) S5 dy
  ·have uK:cl (l.drop at_)=if 1000000000000000 < iG w then .bad 5 else .ok 3 [] (iG w) w.length:=by rw[nM]; unfold yx; rw[if_neg uJ]
   have aaH:((1:Int) < (w.length:Int)∧¬ ((w.getD 0 0).toNat:Int)=48)∨¬ (1:Int) < (w.length:Int):=by
    rcases ae8 1 w.length with q | q
    ·refine .inl ⟨by omega,fun e=>uJ ⟨q,?_⟩⟩
     apply UInt8.toNat_inj.1
     have:(UInt8.toNat 48)=48:=by decide
     omega
    ·exact .inr (by omega)
   rcases aaH with ⟨yk,adr⟩ | yk
   case' inl=>simp -implicitDefEqProofs only[go_sem,Be,sv,aI,yk,aaG,adr]
   case' inr=>simp -implicitDefEqProofs only[go_sem,Be,sv,aI,yk]
   all_goals
    refine (BU dk aaF N9 (S5.eQ hg h)).mono ?_
    rintro r H6 ⟨hr,fB⟩
    have S6:=S5.ext fB
    have jE:=S6.tk.cell
    by_cases Oa:9223372036854775808≤iG w
    ·rw[if_pos Oa] at hr
     obtain ⟨n',t',p',rfl⟩:=hr
     simp -implicitDefEqProofs only[go_sem,jE]
     refine aC S6.re rfl (jc (t:=[])) fun H8 kC dy qu=>?_
     have nB:=kC.cell
     simp -implicitDefEqProofs only[go_sem,nB]
     exact Ag (by rw[uK,if_pos (by omega)]) S6 dy
    ·rw[if_neg Oa] at hr
     subst hr
     by_cases BK:1000000000000000 < iG w
     ·have rE:(1000000000000000:Int) < (iG w:Int):=by omega
      simp -implicitDefEqProofs only[go_sem,jE,rE]
      refine aC S6.re rfl (jc (t:=[])) fun H8 kC dy qu=>?_
      have nB:=kC.cell
      simp -implicitDefEqProofs only[go_sem,nB]
      exact Ag (by rw[uK,if_pos BK]) S6 dy
     ·have rE:¬ (1000000000000000:Int) < (iG w:Int):=by omega
      simp -implicitDefEqProofs only[go_sem,jE,rE]
      refine bL S6.tk (by simp) rfl fun H7 qR fK uI=>?_
      have S7:=S6.set (k':=3) (t':=[]) (n':=0) (a':=at_) qR fK
      simp -implicitDefEqProofs only[go_sem]
      refine bL S7.tk (by simp) rfl fun H8 kC dy qu=>?_
      have S8:=S7.set (k':=3) (t':=[]) (n':=iG w) (a':=at_) kC dy
      have nB:=S8.tk.cell
      simp -implicitDefEqProofs only[go_sem,nB]
      refine aC S8.re rfl (jc (t:=[])) fun H9 pN dB vf=>?_
      have tH:=pN.cell
      simp -implicitDefEqProofs only[go_sem,tH]
      exact fin (by rw[uK,if_neg BK]) S8 dB
 case false=>
  have Ea:afd.wrap ((at_:Int) + 1)=((at_ + 1:Nat):Int):=by rw[aV _ (by omega) (by omega)]; omega
  by_cases hq:(l[at_].toNat:Int)=39
  ·have nM:cl (l.drop at_)=wj ((l.drop (at_ + 1)).takeWhile bg) ((l.drop (at_ + 1)).dropWhile bg):=by
    rw[hdr]; simp only[cl,N7,N8,hq,ae6,if_false,if_true]
   simp -implicitDefEqProofs only[go_sem,hq,tg,Ea]
   refine bL S3.sc (by simp) rfl fun H4 yA iO tG=>?_
   have S4:=S3.scan (i':=(at_ + 1:Nat)) yA iO
   simp -implicitDefEqProofs only[go_sem]
   refine (wx yW FG hlm (Nat.succ_le_of_lt ba) S4.sc).mono ?_
   rintro r H5 ⟨rfl,FI,fP⟩
   have hdw:=wk bg (l.drop (at_ + 1))
   rw[ahC] at hdw
   have N9:=qp bg (l.drop (at_ + 1))
   simp only[ahs] at N9
   generalize hw:(l.drop (at_ + 1)).takeWhile bg=w at *
   have Ah:lJ bg (l.drop (at_ + 1))=w.length:=by unfold lJ; rw[hw]
   rw[Ah] at FI hdw N9
   rw[← hdw] at nM
   have S5:=S4.scan FI fP
   simp -implicitDefEqProofs only[go_sem,sv]
   refine bL S5.tk (by simp) rfl fun H6 gL fB BW=>?_
   have S6:=S5.set (k':=0) (t':=w) (n':=0) (a':=at_) gL fB
   have jE:=S6.sc.cell
   have Eb:=S6.tk.cell
   generalize hk:at_ + 1 + w.length=k at *
   have Dl:(0:Int)≤(k:Int):=by omega
   rcases ae8 k l.length with QT | QT
   ·have Ed:¬ (k:Int)=(l.length:Int):=by omega
    have TL:(k:Int) < (l.length:Int):=by omega
    have hgk:=getD_at l k QT
    have hdk:=afM QT
    by_cases IA:(l[k].toNat:Int)=39
    ·have hwk:afd.wrap ((k:Int) + 1)=((k + 1:Nat):Int):=by rw[aV _ (by omega) (by omega)]; omega
     have uK:cl (l.drop at_)=if bM w then .ok 4 w 0 (w.length + 2) else .bad 3:=by
      rw[nM,hdk]; unfold wj
      have:l[k]=39:=by
       apply UInt8.toNat_inj.1
       have:(UInt8.toNat 39)=39:=by decide
       omega
      rw[if_neg (by simp[this])]
     simp -implicitDefEqProofs only[go_sem,jE,Eb,sv,aI,Dl,Ed,TL,hgk,IA,hwk]
     refine bL S6.sc (by simp) rfl fun H7 qR fK uI=>?_
     have S7:=S6.scan (i':=(k + 1:Nat)) qR fK
     have p7:=S7.tk.cell
     simp -implicitDefEqProofs only[go_sem,p7]
     refine (wq w H7).mono ?_
     rintro r H8 ⟨rfl,TJ⟩
     obtain rfl:=TJ.symm
     cases ev:bM w
     ·simp -implicitDefEqProofs only[go_sem,p7]
      refine aC S7.re rfl jc fun H8 kC dy qu=>?_
      have nB:=kC.cell
      simp -implicitDefEqProofs only[go_sem,nB]
      exact Ag (by rw[uK,ev]; rfl) S7 dy
     ·simp -implicitDefEqProofs only[go_sem]
      refine bL S7.tk (by simp) rfl fun H8 kC dy qu=>?_
      have S8:=S7.set (k':=4) (t':=w) (n':=0) (a':=at_) kC dy
      have nB:=S8.tk.cell
      simp -implicitDefEqProofs only[go_sem,nB]
      refine aC S8.re rfl jc fun H9 pN dB vf=>?_
      have tH:=pN.cell
      simp -implicitDefEqProofs only[go_sem,tH]
      exact fin (m:=w.length + 2) (by rw[uK,ev]; rfl) (by rw[show at_ + (w.length + 2)=k + 1 by omega]; exact S8) dB
    ·simp -implicitDefEqProofs only[go_sem,jE,Eb,sv,aI,Dl,Ed,TL,hgk,IA]
     refine aC S6.re rfl jc fun H8 kC dy qu=>?_
     have nB:=kC.cell
     simp -implicitDefEqProofs only[go_sem,nB]
     refine Ag ?_ S6 dy
     rw[nM,hdk]; unfold wj
     have aaI:(l[k] :: l.drop (k + 1)).getD 0 0≠39:=by
      intro e
      have e':l[k]=39:=e
      rw[e'] at IA
      exact IA (by decide)
     rw[if_pos (.inr aaI)]
   ·have Ed:((k:Int)=(l.length:Int))=True:=by simp; omega
    simp -implicitDefEqProofs only[go_sem,jE,Eb,sv,aI,Dl,Ed]
    refine aC S6.re rfl jc fun H8 kC dy qu=>?_
    have nB:=kC.cell
    simp -implicitDefEqProofs only[go_sem,nB]
    refine Ag ?_ S6 dy
    rw[nM,afO QT]; rfl
  ·have nM:cl (l.drop at_)=rA (l.drop at_):=by
    rw[hdr]; simp only[cl,N7,N8,hq,ae6,if_false]
   have IB:afd.wrap ((at_:Int) + 2)=((at_ + 2:Nat):Int):=by rw[aV _ (by omega) (by omega)]; omega
   have e1:(⟨⟨l⟩⟩:ByteArray).extract at_ (at_ + 1)=⟨⟨(l.drop at_).take 1⟩⟩:=by rw[Ac,ahQ]; simp
   have e2:(⟨⟨l⟩⟩:ByteArray).extract at_ (at_ + 2)=⟨⟨(l.drop at_).take 2⟩⟩:=by rw[Ac,ahQ]; simp
   have g1:(at_:Int)≤((at_ + 1:Nat):Int):=by omega
   have g2:((at_ + 1:Nat):Int)≤(l.length:Int):=by omega
   have g3:(0:Int)≤((at_ + 1:Nat):Int):=by omega
   have g5:((at_ + 2:Nat):Int)=(at_:Int) + 2:=by omega
   have g6:((at_ + 1:Nat):Int)=(at_:Int) + 1:=by omega
   have ls1:cj ((l.drop at_).take 1)=true→¬ (2≤(l.drop at_).length∧cj ((l.drop at_).take 2)=true)→cl (l.drop at_)= .ok 5 ((l.drop at_).take 1) 0 1:=fun h1 h2=>by
    rw[nM]; unfold rA; rw[if_neg h2,if_pos h1]
   have ls0:cj ((l.drop at_).take 1)=false→¬ (2≤(l.drop at_).length∧cj ((l.drop at_).take 2)=true)→cl (l.drop at_)= .bad 2:=fun h1 h2=>by
    rw[nM]; unfold rA; rw[if_neg h2,h1]; rfl
   by_cases hlen:at_ + 2≤l.length
   ·have jv:¬ (l.length:Int) < ((at_ + 2:Nat):Int):=by omega
    have g4:(at_:Int)≤((at_ + 2:Nat):Int):=by omega
    have g7:((at_ + 2:Nat):Int)≤(l.length:Int):=by omega
    have g8:(0:Int)≤((at_ + 2:Nat):Int):=by omega
    simp -implicitDefEqProofs only[go_sem,hq,tg,sv,aI,IB,jv,g4,g7,g8,BL,e2]
    refine (vt ((l.drop at_).take 2) H3).mono ?_
    rintro r H4 ⟨rfl,iO⟩
    have S4:=S3.ext iO
    have Dq:=S4.sc.cell
    have Ob:=S4.tk.cell
    cases es:cj ((l.drop at_).take 2)
    ·have bZ:¬ (2≤(l.drop at_).length∧cj ((l.drop at_).take 2)=true):=by rw[es]; simp
     simp -implicitDefEqProofs only[go_sem,Dq,sv,aI,Ea,IB,jv,g1,g2,g3,g4,g7,g8,BL,e1,e2]
     refine bL S4.tk (by simp) rfl fun H5 np fP D9=>?_
     have S5:=S4.set (k':=5) (t':=[]) (n':=0) (a':=at_) np fP
     have Be:=S5.sc.cell
     have hk5:=S5.tk.cell
     simp -implicitDefEqProofs only[go_sem,Be,hk5,sv,aI,Ea,g1,g2,g3,BL,e1]
     refine bL S5.tk (by simp) rfl fun H6 gL fB BW=>?_
     have S6:=S5.set (k':=5) (t':=(l.drop at_).take 1) (n':=0) (a':=at_) gL fB
     have jE:=S6.sc.cell
     have Eb:=S6.tk.cell
     simp -implicitDefEqProofs only[go_sem,jE,Eb,sv,aI,Ea,g1,g2,g3,BL,e1]
     refine (vt ((l.drop at_).take 1) H6).mono ?_
     rintro r H7 ⟨rfl,fK⟩
     have S7:=S6.ext fK
     have p7:=S7.sc.cell
     have yB:=S7.tk.cell
     cases es1:cj ((l.drop at_).take 1)
     ·simp -implicitDefEqProofs only[go_sem,p7,yB]
      refine aC S7.re rfl jc fun H8 kC dy qu=>?_
      have nB:=kC.cell
      simp -implicitDefEqProofs only[go_sem,nB]
      exact Ag (ls0 es1 bZ) S7 dy
     ·simp -implicitDefEqProofs only[go_sem,p7,yB,Ea]
      refine bL S7.sc (by simp) rfl fun H8 kC dy qu=>?_
      have S8:=S7.scan (i':=(at_ + 1:Nat)) kC dy
      have Ee:=S8.tk.cell
      simp -implicitDefEqProofs only[go_sem,Ee]
      refine aC S8.re rfl jc fun H9 pN dB vf=>?_
      have tH:=pN.cell
      simp -implicitDefEqProofs only[go_sem,tH]
      exact fin (ls1 es1 bZ) S8 dB
    ·have uK:cl (l.drop at_)= .ok 5 ((l.drop at_).take 2) 0 2:=by
      rw[nM]; unfold rA; rw[if_pos ⟨by simp only[ahs]; omega,es⟩]
     simp -implicitDefEqProofs only[go_sem,Dq,sv,aI,IB,jv,g4,g7,g8,BL,e2]
     refine bL S4.tk (by simp) rfl fun H5 np fP D9=>?_
     have S5:=S4.set (k':=5) (t':=[]) (n':=0) (a':=at_) np fP
     have Be:=S5.sc.cell
     have hk5:=S5.tk.cell
     simp -implicitDefEqProofs only[go_sem,Be,hk5,sv,aI,IB,jv,g4,g7,g8,BL,e2]
     refine bL S5.tk (by simp) rfl fun H6 gL fB BW=>?_
     have S6:=S5.set (k':=5) (t':=(l.drop at_).take 2) (n':=0) (a':=at_) gL fB
     have jE:=S6.sc.cell
     have Eb:=S6.tk.cell
     simp -implicitDefEqProofs only[go_sem,jE,Eb,sv,aI,IB,g4,g7,g8,BL,e2]
     refine (vt ((l.drop at_).take 2) H6).mono ?_
     rintro r H7 ⟨rfl,fK⟩
     have S7:=S6.ext fK
     have p7:=S7.sc.cell
     have yB:=S7.tk.cell
     rw[es]
     simp -implicitDefEqProofs only[go_sem,p7,yB,IB]
     refine bL S7.sc (by simp) rfl fun H8 kC dy qu=>?_
     have S8:=S7.scan (i':=(at_ + 2:Nat)) kC dy
     have Ee:=S8.tk.cell
     simp -implicitDefEqProofs only[go_sem,Ee]
     refine aC S8.re rfl jc fun H9 pN dB vf=>?_
     have tH:=pN.cell
     simp -implicitDefEqProofs only[go_sem,tH]
     exact fin uK S8 dB
   ·have bZ:¬ (2≤(l.drop at_).length∧cj ((l.drop at_).take 2)=true):=by
     simp only[ahs]; omega
    have jv:(l.length:Int) < ((at_ + 2:Nat):Int):=by omega
    have S4:=S3
    have Dq:=tg
    have Ob:=S4.tk.cell
    simp -implicitDefEqProofs only[go_sem,hq,Dq,sv,aI,Ea,IB,jv,g1,g2,g3,BL,e1,e2]
    refine bL S4.tk (by simp) rfl fun H5 np fP D9=>?_
    have S5:=S4.set (k':=5) (t':=[]) (n':=0) (a':=at_) np fP
    have Be:=S5.sc.cell
    have hk5:=S5.tk.cell
    simp -implicitDefEqProofs only[go_sem,Be,hk5,sv,aI,Ea,g1,g2,g3,BL,e1]
    refine bL S5.tk (by simp) rfl fun H6 gL fB BW=>?_
    have S6:=S5.set (k':=5) (t':=(l.drop at_).take 1) (n':=0) (a':=at_) gL fB
    have jE:=S6.sc.cell
    have Eb:=S6.tk.cell
    simp -implicitDefEqProofs only[go_sem,jE,Eb,sv,aI,Ea,g1,g2,g3,BL,e1]
    refine (vt ((l.drop at_).take 1) H6).mono ?_
    rintro r H7 ⟨rfl,fK⟩
    have S7:=S6.ext fK
    have p7:=S7.sc.cell
    have yB:=S7.tk.cell
    cases es1:cj ((l.drop at_).take 1)
    ·simp -implicitDefEqProofs only[go_sem,p7,yB]
     refine aC S7.re rfl jc fun H8 kC dy qu=>?_
     have nB:=kC.cell
     simp -implicitDefEqProofs only[go_sem,nB]
     exact Ag (ls0 es1 bZ) S7 dy
    ·simp -implicitDefEqProofs only[go_sem,p7,yB,Ea]
     refine bL S7.sc (by simp) rfl fun H8 kC dy qu=>?_
     have S8:=S7.scan (i':=(at_ + 1:Nat)) kC dy
     have Ee:=S8.tk.cell
     simp -implicitDefEqProofs only[go_sem,Ee]
     refine aC S8.re rfl jc fun H9 pN dB vf=>?_
     have tH:=pN.cell
     simp -implicitDefEqProofs only[go_sem,tH]
     exact fin (ls1 es1 bZ) S8 dB
def tkV (t:Tk):Value:=.agg #[.int .i64 t.kind,sv t.text,.int .i64 t.n,.int .i64 t.at_]
def Wb (c a:Int):Value:=.agg #[.int .i64 c,.int .i64 a]
def zTk:Tk:=⟨0,[],0,0⟩
structure NR where
 tok:Tk
 fin:Int
 code:Int
 fat:Int
def NR.val (r:NR):Value:=.tuple #[tkV r.tok,.int .i64 r.fin,Wb r.code r.fat]
def Oc (k:Nat):TR→NR
 | .ok kd t n m=>⟨⟨kd,t,n,k⟩,(k + m:Nat),0,0⟩
 | .bad e=>⟨zTk,0,e,k⟩
def J7 (l:Bs) (a:Nat):NR:=Oc (a + ew false (l.drop a)) (cl (l.drop (a + ew false (l.drop a))))
def kM (l:Bs) (a:Int):NR:=if 65536 < l.length then ⟨zTk,0,6,65536⟩ else if a < 0∨(l.length:Int) < a then ⟨zTk,0,1,0⟩ else J7 l a.toNat
theorem fC {H H1 H2:Heap} {x:Nat} (h:Fr [] H H1) (h2:Fr [x] H1 H2) (hx:H.size≤x):Fr [] H H2:=h.trans' h2 (by simp; omega)
theorem rF {s:Bs} {e:Int} (h:cl s= .bad e):e≠0:=by
 cases s with
 | nil=>simp[cl] at h
 | cons c r=>
   simp only[cl,wi,yx,wj,rA] at h
   repeat' split at h
   all_goals first
    | (cases h; done)
    | (simp only[TR.bad.injEq] at h; omega)
set_option maxHeartbeats 4000000 in
theorem Od (l:Bs) (hl:l.length≤maxLen) (a:Int) {H:Heap} (hg:bS H):aE afI 95 #[sv l,.int .i64 a] H fun r H'=>r=(kM l a).val∧Fr [] H H':=by
 refine af (args:=[_,_]) Tryz.func95 XE (ahi rfl) ?_
 unfold sv
 simp only[go_sem,c95]
 refine ay fun H1 mz bY gK=>?_
 simp only[go_sem]
 refine ay fun H2 tD cQ jl=>?_
 have TM:=mz.ext cQ
 have BN:=bY.trans cQ
 have hz1:H.size≤H.size:=afJ _
 generalize J6:H.size=x1 at *
 generalize D8:H1.size=x2 at *
 have wy:x1≠x2:=by omega
 unfold kM
 by_cases BK:65536 < l.length
 ·have rE:(65536:Int) < (l.length:Int):=by omega
  rw[if_pos BK]
  simp only[go_sem,aI,rE]
  refine aC TM rfl (jc (t:=[])) fun H3 vu dE yz=>?_
  have TN:=tD.fr dE (by simp[Ne.symm wy])
  simp only[go_sem]
  refine aC TN rfl (BV rfl rfl) fun H4 G9 iO tG=>?_
  have Dq:=G9.cell
  have tg:=(vu.fr iO (by simp[wy])).cell
  simp only[go_sem,tg,Dq]
  exact ⟨rfl,fC (fC BN dE (by omega)) iO (by omega)⟩
 rw[if_neg BK]
 have rE:¬ (65536:Int) < (l.length:Int):=by omega
 by_cases hr:a < 0∨(l.length:Int) < a
 ·rw[if_pos hr]
  have W6:(decide (a < 0)=true)∨(decide (a < 0)=false∧(l.length:Int) < a):=by
   by_cases q:a < 0
   ·exact .inl (by simpa using q)
   ·exact .inr ⟨by simpa using q,by omega⟩
  rcases W6 with q | ⟨q,q2⟩
  case' inl=>simp only[go_sem,aI,rE,q]
  case' inr=>simp only[go_sem,aI,rE,q,q2]
  all_goals
   refine aC TM rfl (jc (t:=[])) fun H3 vu dE yz=>?_
   have TN:=tD.fr dE (by simp[Ne.symm wy])
   simp only[go_sem]
   refine aC TN rfl (BV rfl rfl) fun H4 G9 iO tG=>?_
   have Dq:=G9.cell
   have tg:=(vu.fr iO (by simp[wy])).cell
   simp only[go_sem,tg,Dq]
   exact ⟨rfl,fC (fC BN dE (by omega)) iO (by omega)⟩
 rw[if_neg hr]
 obtain ⟨k,rfl⟩:∃ k:Nat,a=k:=⟨a.toNat,by omega⟩
 have hk:k≤l.length:=by omega
 have q1:decide ((k:Int) < 0)=false:=by simp
 have q2:¬ (l.length:Int) < (k:Int):=by omega
 rw[ahR]
 simp only[go_sem,aI,rE,q1,q2]
 refine ay fun H3 vu dE yz=>?_
 generalize hx3:H2.size=x3 at *
 simp only[go_sem]
 refine aC vu rfl (BV rfl rfl) fun H4 G9 iO tG=>?_
 simp only[go_sem]
 refine (N4 (l:=l) hl hk G9).mono ?_
 rintro r H5 ⟨FI,fP⟩
 have QU:k + ew false (l.drop k)≤l.length:=by
  have:=nL false (l.drop k)
  simp only[ahs] at this
  omega
 unfold J7
 generalize hj:k + ew false (l.drop k)=j at *
 have QV:Fr [] H H5:=fC (fC (BN.trans dE) iO (by omega)) fP (by omega)
 have aaJ:=((TM.ext dE).fr iO (by simp; omega)).fr fP (by simp; omega)
 have aaK:=((tD.ext dE).fr iO (by simp; omega)).fr fP (by simp; omega)
 have Be:=FI.cell
 simp only[go_sem,Be]
 refine (J5 (l:=l) (by omega) QU FI (hg.ext QV)).mono ?_
 rintro r H6 ht
 unfold G7 at ht
 cases e:cl (l.drop j) with
 | bad c=>
   rw[e] at ht
   obtain ⟨⟨k',t',n',a',rfl⟩,fB⟩:=ht
   have QW:(c=0)=False:=by simp[rF e]
   have TO:=aaJ.fr fB (by simp; omega)
   have Oe:=aaK.fr fB (by simp; omega)
   have IC:=fC QV fB (by omega)
   simp only[go_sem]
   refine ay fun H7 yl fK uI=>?_
   generalize hx7:H6.size=x7 at *
   have ads:=Oe.lt
   simp only[go_sem,sv]
   refine aC yl rfl jc fun H8 Ef dy qu=>?_
   have TP:=(TO.ext fK).fr dy (by simp; omega)
   have TQ:=(Oe.ext fK).fr dy (by simp; omega)
   have yX:=fC (IC.trans fK) dy (by omega)
   simp only[go_sem,QW]
   refine aC TP rfl (jc (t:=[])) fun H9 yC dB vf=>?_
   have TS:=TQ.fr dB (by simp[Ne.symm wy])
   simp only[go_sem]
   refine aC TS rfl (BV rfl rfl) fun kb TT dK G8=>?_
   have tI:=TT.cell
   have tH:=(yC.fr dK (by simp[wy])).cell
   simp only[go_sem,tH,tI]
   exact ⟨rfl,fC (fC yX dB (by omega)) dK (by omega)⟩
 | ok kd t n m=>
   rw[e] at ht
   obtain ⟨rfl,M8,fB⟩:=ht
   have TO:=aaJ.fr fB (by simp; omega)
   have Oe:=aaK.fr fB (by simp; omega)
   have IC:=fC QV fB (by omega)
   simp only[go_sem]
   refine ay fun H7 yl fK uI=>?_
   generalize hx7:H6.size=x7 at *
   have ads:=M8.lt
   simp only[go_sem,sv]
   refine aC yl rfl jc fun H8 Ef dy qu=>?_
   have TP:=(TO.ext fK).fr dy (by simp; omega)
   have TQ:=(Oe.ext fK).fr dy (by simp; omega)
   have aaL:=(M8.ext fK).fr dy (by simp; omega)
   have yX:=fC (IC.trans fK) dy (by omega)
   have nB:=Ef.cell
   have adt:=aaL.cell
   simp only[go_sem,nB,adt]
   refine aC TP rfl (jc (t:=t)) fun H9 yC dB vf=>?_
   have TS:=TQ.fr dB (by simp[Ne.symm wy])
   have adu:=(Ef.fr dB (by simp; omega)).cell
   have adv:=(aaL.fr dB (by simp; omega)).cell
   simp only[go_sem,adu,adv]
   refine aC TS rfl (BV rfl rfl) fun kb TT dK G8=>?_
   have tI:=TT.cell
   have tH:=(yC.fr dK (by simp[wy])).cell
   simp only[go_sem,tH,tI]
   exact ⟨rfl,fC (fC yX dB (by omega)) dK (by omega)⟩
theorem ETk:qo afI 70 58 4 40 (.agg #[.int .i64 0,.string ⟨⟨[]⟩⟩,.int .i64 0,.int .i64 0]):=⟨ahX,by kernel_rfl,rfl,by decide⟩
def LR.app (pre:List Tk):LR→LR
 | .bad e k=>.bad e k
 | .ok l=>.ok (pre ++ l)
theorem LR.Of (r:LR):LR.app [] r=r:=by cases r <;> rfl
theorem LR.J8 (pre:List Tk) (t:Tk) (r:LR):LR.app pre (LR.cons t r)=LR.app (pre ++ [t]) r:=by cases r <;> simp[LR.app,LR.cons]
def Eg (l:Bs) (o:Nat):LR:=if 65536 < l.length then .bad 6 65536 else Ae l o
theorem Ha (l:Bs):Eg l 0=jb l:=rfl
theorem Hd (l:Bs) (o:Nat) (ho:o≤l.length) :
 ((kM l o).code≠0→∃ k:Nat,Eg l o= .bad (kM l o).code k∧(kM l o).fat=k)∧
 ((kM l o).code=0→(kM l o).tok.kind=6→l.length≤65536∧Eg l o= .ok [(kM l o).tok])∧
 ((kM l o).code=0→(kM l o).tok.kind≠6→l.length≤65536∧∃ e:Nat,Eg l o=LR.cons (kM l o).tok (Eg l e)∧(kM l o).fin=e∧o < e∧e≤l.length):=by
 unfold kM Eg
 by_cases h:65536 < l.length
 ·rw[if_pos h]
  exact ⟨fun _=>⟨65536,by rw[if_pos h],rfl⟩,fun h=>by simp at h,fun h=>by simp at h⟩
 rw[if_neg h,if_neg (by omega),ahR]
 unfold J7
 have QU:o + ew false (l.drop o)≤l.length:=by
  have:=nL false (l.drop o)
  simp only[ahs] at this
  omega
 have jX:=G0 l o ho
 generalize hj:o + ew false (l.drop o)=j at *
 cases e:cl (l.drop j) with
 | bad c=>
   rw[e] at jX
   refine ⟨fun _=>⟨j,by rw[if_neg h,jX]; rfl,rfl⟩,fun h0=>absurd h0 (rF e),fun h0=>absurd h0 (rF e)⟩
 | ok kd t n m=>
   rw[e] at jX
   refine ⟨fun h0=>absurd rfl h0,fun _ h6=>⟨by omega,?_⟩,fun _ h6=>⟨by omega,j + m,?_,rfl,?_⟩⟩
   ·rw[if_neg h,jX]; simp only[Oc] at h6 ⊢; rw[if_pos h6]
   ·rw[if_neg h,jX]; simp only[Oc] at h6 ⊢; rw[if_neg h6,if_neg h]
   ·obtain ⟨h1,h2,h3⟩:=ka e
    simp only[Oc] at h6
    have dH:l.drop j≠[]:=fun q=>h6 (h3 q)
    obtain ⟨h4,_⟩:=h2 dH
    have h5:0 < (l.drop j).length:=aho.2 dH
    simp only[ahs] at h1 h5
    omega
def TU (R:LR) (r:Value) (H':Heap):Prop:=
 match R with
 | .bad e k=>r= .tuple #[.slice none 0 0,Wb e k]
 | .ok ts=>∃ a c,r= .tuple #[.slice a ts.length c,Wb 0 0]∧ts.length≤c∧c≤maxLen∧gn jD H' a ts
set_option maxHeartbeats 4000000 in
theorem TV (l:Bs) (hl:l.length≤maxLen) {H:Heap} (hg:bS H):aE afI 51 #[sv l] H fun r H'=>TU (jb l) r H'∧Fr [] H H':=by
 refine af (args:=[_]) Tryz.func51 XC (ahi rfl) ?_
 simp only[go_sem,c51]
 refine ay fun H1 mz bY gK=>?_
 generalize J6:H.size=x1 at *
 simp only[go_sem]
 refine bC (fun (p:List Tk × Nat × Value) H'=>∃ g,(p.2.1≤l.length∧p.1.length≤p.2.1∧jb l=LR.app p.1 (Eg l p.2.1))∧Own H' 58 4 p.2.2 p.1.length (p.1.flatMap jD) g∧eg H' x1 31 [.int .i64 0,.int .i64 0]∧Fr [] H H'∧(∀ b,g=some b→x1 < b))
  (fun p=>[(0,sv l),(2,.slice none 0 0),(3,.pointer (some ⟨x1,0,none⟩)),(4,p.2.2),(5,.int .i64 p.2.1)]) (fun p=>l.length + 1 - p.2.1) ([],0,.slice none 0 0) ?_ ?_ ?_
 ·exact ⟨none,⟨ahn _,afJ _,by rw[Ha,LR.Of]⟩,Own.nil _ _ _,mz,bY,by simp⟩
 ·simp only[go_sem,z0]
 ·rintro ⟨pre,o,v⟩ H' ⟨g,⟨h1,h2,h3⟩,nk,hbF,hfr,hgx⟩
  dsimp only at h1 h2 h3 nk
  simp only[go_sem]
  refine (Od l hl o (hg.ext hfr)).mono ?_
  rintro r H2 ⟨rfl,cQ⟩
  obtain ⟨st1,st2,st3⟩:=Hd l o h1
  generalize kM l o=N at *
  have BN:=hfr.trans cQ
  have BX:=nk.fr cQ (by simp)
  have aaM:=hbF.ext cQ
  have aeH:=aaM.lt
  simp only[go_sem,NR.val,tkV,Wb]
  refine ay fun H3 vu dE yz=>?_
  generalize hx3:H2.size=x3 at *
  have hgl:∀ b,g=some b→b < x3:=fun b hb=>by rw[← hx3]; exact BX.lt hb
  simp only[go_sem]
  refine ay fun H4 G9 iO tG=>?_
  generalize hx4:H3.size=x4 at *
  have adw:=vu.ext iO
  simp only[go_sem]
  refine aC adw rfl jc fun H5 FI fP D9=>?_
  have adx:=G9.fr fP (by simp; omega)
  simp only[go_sem]
  refine aC adx rfl (BV rfl rfl) fun H6 M8 fB BW=>?_
  have aaN:=FI.fr fB (by simp; omega)
  have aaO:=(((aaM.ext dE).ext iO).fr fP (by simp; omega)).fr fB (by simp; omega)
  have QY:=(((BX.fr dE (by simp)).fr iO (by simp)).fr fP (fun b hb=>by have:=hgl b hb; simp; omega)).fr fB (fun b hb=>by have:=hgl b hb; simp; omega)
  have aeS:=BN.size
  have IC:Fr [] H H6:=fC (fC ((BN.trans dE).trans iO) fP (by omega)) fB (by omega)
  have jE:=M8.cell
  have Be:=aaN.cell
  by_cases wz:N.code=0
  ·have Eh:(N.code=0)=True:=by simp[wz]
   obtain ⟨a0,c0,rfl⟩:∃ a0 c0,v= .slice a0 pre.length c0:=by
    rcases QY.2 with ⟨_,q,q2⟩ | ⟨b,cap,cur,_,q,_⟩
    ·rw[q2]; exact ⟨_,_,q⟩
    ·exact ⟨_,_,q⟩
   simp only[go_sem,jE,Be,Eh]
   refine db fun H7 yl fK uI=>?_
   generalize hx7:H6.size=x7 at *
   have aaP:=QY.fr fK (by simp)
   have ady:l.length≤65536:=by
    by_cases h6:N.tok.kind=6
    ·exact (st2 wz h6).1
    ·exact (st3 wz h6).1
   simp only[go_sem]
   refine vq ETk aaP (m:=1) (tw.dz ahX yl rfl jc) (by unfold maxLen; omega) (by omega) fun a1 c1 H8 g8 J9 dy hg8=>?_
   have adz:=(aaN.ext fK).fr dy (by
    intro hm
    have GY:g=some x3:=by simpa using hm
    have:=hgl x3 GY; omega)
   have aaQ:=(aaO.ext fK).fr dy (by
    intro hm
    have GY:g=some x1:=by simpa using hm
    have:=hgx x1 GY; omega)
   have yX:Fr [] H H8:=(IC.trans fK).trans' dy (fun b hb=>by
    have yj:g=some b:=by simpa using hb
    have:=hgx b yj
    exact .inr (by omega))
   have aaR:∀ b,g8=some b→x1 < b:=fun b hb=>by
    rcases hg8 b hb with q | q
    ·exact hgx b q
    ·omega
   have nB:=adz.cell
   have aaS:pre.flatMap jD ++ [ahE .i64 N.tok.kind,sv N.tok.text,.int .i64 N.tok.n,.int .i64 N.tok.at_]=(pre ++ [N.tok]).flatMap jD:=by simp[jD]
   have QZ:pre.length + 1=(pre ++ [N.tok]).length:=by simp
   rw[aaS,QZ] at J9
   rw[QZ]
   by_cases h6:N.tok.kind=6
   ·have h6':(N.tok.kind=6)=True:=by simp[h6]
    simp only[go_sem,nB,h6']
    refine aC aaQ rfl (BV rfl rfl) fun H9 yC dB vf=>?_
    have tH:=yC.cell
    simp only[go_sem,tH]
    have Ka:=J9.fr dB (fun b hb=>by have:=aaR b hb; simp; omega)
    refine ⟨?_,fC yX dB (by omega)⟩
    rw[h3,(st2 wz h6).2]
    exact ⟨a1,c1,rfl,Own.Sp Ka,by
     rcases Ka.2 with ⟨_,q,_⟩ | ⟨b,cap,cur,_,q,_,_,q2,_⟩
     ·simp only[ahU.injEq] at q; omega
     ·simp only[ahU.injEq] at q; omega,Own.z7 Ka⟩
   ·have h6':(N.tok.kind=6)=False:=by simp[h6]
    obtain ⟨_,e,he1,Wc,he3,he4⟩:=st3 wz h6
    simp only[go_sem,nB,h6']
    refine aj (pre ++ [N.tok],e,.slice a1 (pre ++ [N.tok]).length c1) (by show l.length + 1 - e < l.length + 1 - o; omega) ?_ ⟨g8,⟨he4,?_,?_⟩,J9,aaQ,yX,aaR⟩
    ·simp only[go_sem,Wc]
    ·simp; omega
    ·rw[h3,he1,LR.J8]
  ·have Eh:(N.code=0)=False:=by simp[wz]
   obtain ⟨k,Ed,TL⟩:=st1 wz
   simp only[go_sem,jE,Be,Eh]
   refine aC aaO rfl (BV rfl rfl) fun H7 yl fK uI=>?_
   have p7:=yl.cell
   have adA:=(M8.fr fK (by simp; omega)).cell
   simp only[go_sem,p7,adA]
   refine ⟨?_,fC IC fK (by omega)⟩
   rw[h3,Ed,TL]
   rfl
inductive Nd where
 | mk (kind:Int) (text:Bs) (n at_:Int) (kids:List Nd)
mutual
def Nd.fD:Nd→iH
 | .mk k t n a ks=>.agg [.v (.int .i64 k),.v (sv t),.v (.int .i64 n),.v (.int .i64 a),.list 5 (Nd.Kb ks)]
def Nd.Kb:List Nd→List iH
 | []=>[]
 | p :: ps=>p.fD :: Nd.Kb ps
end
theorem FJ:∀ l:List Nd,Nd.Kb l=l.map Nd.fD
 | []=>by simp[Nd.Kb]
 | p :: l=>by simp[Nd.Kb,FJ l]
def aW (l:List Nd):iH:=.list 5 (l.map Nd.fD)
theorem lb {H:Heap} {M:List Nat} {k:Int} {t:Bs} {n a:Int} {ks:List Nd} {cs:List Value}:dA H M (Nd.fD (.mk k t n a ks)) cs↔∃ v,cs=[.int .i64 k,sv t,.int .i64 n,.int .i64 a,v]∧dA H M (aW ks) [v]:=by
 have e:∀ {cs:List Value},dA H M (aW ks) cs→∃ v,cs=[v]:=by
  intro cs h
  unfold aW at h
  simp only[dA] at h
  obtain ⟨a,c,css,h,_⟩:=h
  exact ⟨_,h⟩
 simp only[Nd.fD,dA,cS,FJ]
 constructor
 ·rintro ⟨css,rfl,c0,x0,rfl,rfl,c1,x1,rfl,rfl,c2,x2,rfl,rfl,c3,x3,rfl,rfl,c4,x4,rfl,h4,rfl⟩
  have Wa:dA H M (aW ks) c4:=by unfold aW; simp only[dA]; exact h4
  obtain ⟨v,rfl⟩:=e Wa
  exact ⟨v,by simp,Wa⟩
 ·rintro ⟨v,rfl,h⟩
  unfold aW at h
  simp only[dA] at h
  exact ⟨[_,_,_,_,[v]],by simp,_,_,rfl,rfl,_,_,rfl,rfl,_,_,rfl,rfl,_,_,rfl,rfl,_,_,rfl,h,rfl⟩
theorem aD.nd {H:Heap} {B:Nat→Prop} {k:Int} {t:Bs} {n a:Int} {ks:List Nd} {v:Value} (h:aD H B (aW ks) [v]):aD H B (Nd.fD (.mk k t n a ks)) [.int .i64 k,sv t,.int .i64 n,.int .i64 a,v]:=
 fun M hM=>lb.2 ⟨v,rfl,h M hM⟩
theorem aD.cL {H:Heap} {B:Nat→Prop} {k:Int} {t:Bs} {n a:Int} {ks:List Nd} {cs:List Value} (h:aD H B (Nd.fD (.mk k t n a ks)) cs):∃ v,cs=[.int .i64 k,sv t,.int .i64 n,.int .i64 a,v]∧aD H B (aW ks) [v]:=by
 obtain ⟨v,rfl,_⟩:=lb.1 (h [] (by simp))
 refine ⟨v,rfl,fun M hM=>?_⟩
 obtain ⟨v',e,h'⟩:=lb.1 (h M hM)
 simp only[afV.injEq,and_true,true_and] at e
 subst e; exact h'
abbrev kc:=Int × Int
abbrev PP (α:Type):=List Tk→Except kc (α × List Tk)
def hd (ts:List Tk):Tk:=ts.headD ⟨6,[],0,0⟩
def aY (s:Bs) (ts:List Tk):Bool:=(decide ((hd ts).kind=2) || decide ((hd ts).kind=5)) && decide ((hd ts).text=s)
def bd {α β:Type} (p:PP α) (f:α→PP β):PP β:=fun ts=>match p ts with
 | .error e=>.error e
 | .ok (a,r)=>f a r
theorem bN {α β:Type} {p:PP α} {f:α→PP β} {ts:List Tk} {e:kc} (h:p ts= .error e):bd p f ts= .error e:=by simp only[bd,h]
theorem az {α β:Type} {p:PP α} {f:α→PP β} {ts r:List Tk} {a:α} (h:p ts= .ok (a,r)):bd p f ts=f a r:=by simp only[bd,h]
def ret {α:Type} (a:α):PP α:=fun ts=>.ok (a,ts)
def aU (s:Bs):PP Int:=fun ts=>if aY s ts then .ok ((hd ts).at_,ts.tail) else .error (2,(hd ts).at_)
def cK (k:Int):PP Tk:=fun ts=>if (hd ts).kind=k then .ok (hd ts,ts.tail) else .error (2,(hd ts).at_)
def ea {α β:Type} (lo:Option β) (s:Bs) (body:β→PP α):PP α:=fun ts=>if aY s ts then (match lo with
    | none=>.error (6,(hd ts).at_)
    | some x=>body x ts.tail) else .error (2,(hd ts).at_)
def ig:PP Nd:=fun ts=>if aY [45] ts then bd (cK 3) (fun t=>ret (.mk 44 [] (afd.wrap (0 - t.n)) (hd ts).at_ [])) ts.tail else bd (cK 3) (fun t=>ret (.mk 44 [] t.n (hd ts).at_ [])) ts
def dn (k:Int):PP Nd:=bd (cK 1) fun t=>ret (.mk k t.text 0 t.at_ [])
def ey:PP Nd:=bd (cK 4) fun t=>ret (.mk 47 t.text 0 t.at_ [])
abbrev Kd:=List (Bs × Int)
def eb (l:Kd) (s:Bs):Int:=(l.lookup s).getD 0
def fE (kd:Kd) (ts:List Tk):Bool:=decide (eb kd (hd ts).text≠0) && aY (hd ts).text ts
def cP (op:PP Nd) (kd:Kd):Nat→Nd→PP Nd
 | 0,n=>ret n
 | f + 1,n=>fun ts=>if fE kd ts then bd op (fun m=>cP op kd f (.mk (eb kd (hd ts).text) [] 0 (hd ts).at_ [n,m])) ts.tail else .ok (n,ts)
def fW (op:PP Nd) (kd:Kd):PP Nd:=bd op fun n r=>cP op kd r.length n r
abbrev Lo:=Option (PP Nd × PP Nd)
def dC (lo:Lo):Nat→Nd→PP Nd
 | 0,n=>ret n
 | f + 1,n=>fun ts=>if aY [46] ts then bd (cK 1) (fun t=>dC lo f (.mk 42 t.text 0 (hd ts).at_ [n])) ts.tail
   else if aY [91] ts then ea lo [91] (fun x=>bd x.1 fun m=>bd (aU [93]) fun _=>dC lo f (.mk 43 [] 0 (hd ts).at_ [n,m])) ts
   else .ok (n,ts)
def aZ:List Bs:=[[102,108,97,103],[110,117,109],[115,101,116],[109,97,112],[114,101,99],[112,97,105,114],[111,110,101],[119,114,105,116,101],[115,105,122,101],[115,117,109],[110,117,109,98,101,114],[111,110],[107,101,121,115],[118,97,108,117,101,115],[102,105,114,115,116],[115,101,99,111,110,100],[99,111,110,102,108,105,99,116]]
def gD (e:PP Nd) (fn:Bs):PP Nd:=fun ts=>
 if fn=[114,101,99] then bd (cK 1) (fun t=>bd (aU [58]) fun _=>bd e fun x=>ret (.mk 52 t.text 0 (hd ts).at_ [x])) ts
 else if fn=[109,97,112] then bd e (fun x=>bd (aU [58]) fun _=>bd e fun y=>ret (.mk 52 [] 0 (hd ts).at_ [x,y])) ts
 else e ts
def dF:PP Bool:=fun ts=>if aY [44] ts then .ok (true,ts.tail) else bd (aU [41]) (fun _=>ret false) ts
def fL (arg:PP Nd):Nat→List Nd→PP (List Nd)
 | 0,l=>ret l
 | f + 1,l=>bd arg fun a=>bd dF fun m=>if m then fL arg f (l ++ [a]) else ret (l ++ [a])
def dY (arg:PP Nd):PP (List Nd):=fun ts=>if aY [41] ts then .ok ([],ts.tail) else fL arg ts.length [] ts
def dZ (lo:Lo):PP Nd:=fun ts=>
 if (hd ts).kind=3∨aY [45] ts=true then ig ts
 else if (hd ts).kind=4 then ey ts
 else if (hd ts).kind=1 then dn 48 ts
 else if aY [116,114,117,101] ts then .ok (.mk 45 [] 0 (hd ts).at_ [],ts.tail)
 else if aY [102,97,108,115,101] ts then .ok (.mk 46 [] 0 (hd ts).at_ [],ts.tail)
 else if aY [115] ts then .ok (.mk 49 [] 0 (hd ts).at_ [],ts.tail)
 else if aY [98,111,116,116,111,109] ts then .ok (.mk 50 [] 0 (hd ts).at_ [],ts.tail)
 else if aY [40] ts then ea lo [40] (fun x=>bd x.1 fun n=>bd (aU [41]) fun _=>ret n) ts
 else if (hd ts).kind=2∧(hd ts).text ∈ aZ then ea lo [40] (fun x=>bd (dY (gD x.1 (hd ts).text)) fun l=>ret (.mk 51 (hd ts).text 0 (hd ts).at_ l)) ts.tail
 else .error (2,(hd ts).at_)
def kN (lo:Lo):PP Nd:=bd (dZ lo) fun n r=>dC lo r.length n r
def Ei:Kd:=[([43],40),([45],41)]
def wA:Kd:=[([106,111,105,110],39)]
def mA:Kd:=[([60,61],34),([60],35),([61,61],36),([105,110],37),([108,101,113],38)]
def Ej:Kd:=[([97,110,100],32)]
def TW:Kd:=[([111,114],31)]
def wB (lo:Lo):PP Nd:=fW (kN lo) Ei
def ke (lo:Lo):PP Nd:=fW (wB lo) wA
def nq (lo:Lo):PP Nd:=bd (ke lo) fun n ts=>if fE mA ts then bd (ke lo) (fun m=>ret (.mk (eb mA (hd ts).text) [] 0 (hd ts).at_ [n,m])) ts.tail else .ok (n,ts)
def fX (lo:Lo):PP Nd:=fun ts=>if aY [110,111,116] ts then ea lo [110,111,116] (fun x=>bd x.2 fun n=>ret (.mk 33 [] 0 (hd ts).at_ [n])) ts else nq lo ts
def wC (lo:Lo):PP Nd:=fW (fX lo) Ej
def Kc (lo:Lo):PP Nd:=fW (wC lo) TW
def aJ (lo:Lo):PP Nd:=fun ts=>if aY [105,102] ts then ea lo [105,102] (fun x=>bd x.1 fun a=>bd (aU [116,104,101,110]) fun _=>bd x.1 fun b=>bd (aU [101,108,115,101]) fun _=>bd x.1 fun c=>ret (.mk 30 [] 0 (hd ts).at_ [a,b,c])) ts else Kc lo ts
def mB:Nat→PP Nd × PP Nd
 | 0=>(aJ none,fX none)
 | k + 1=>(aJ (some (mB k)),fX (some (mB k)))
def bp:Nat→Lo
 | 0=>none
 | k + 1=>some (mB k)
theorem qv (k:Nat):mB k=(aJ (bp k),fX (bp k)):=by cases k <;> rfl
def Dn {α:Type} (p:PP α):Prop:=∀ (ts r:List Tk) (a:α),p ts= .ok (a,r)→r.length≤ts.length
theorem Dn.of {α:Type} {p:PP α} (h:Dn p) {ts r:List Tk} {a:α} (hp:p ts= .ok (a,r)):r.length≤ts.length:=h _ _ _ hp
theorem fe (ts:List Tk):ts.tail.length≤ts.length:=by simp
theorem Dn.aO {α β:Type} {p:PP α} {f:α→PP β} (h:Dn p) (hf:∀ a,Dn (f a)):Dn (bd p f):=by
 intro ts r b hb
 unfold bd at hb
 split at hb
 ·cases hb
 ·rename_i a q hq
  have:=h.of hq; have:=(hf a).of hb; omega
theorem Dn.lf {α β:Type} {p:PP α} {f:α→PP β} (h:Dn p) (hf:∀ a ts r b,f a ts= .ok (b,r)→r.length≤ts.length):Dn (bd p f):=h.aO fun a ts r b hb=>hf a ts r b hb
theorem Dn.ret {α:Type} (a:α):Dn (ret a):=by
 intro ts r b h
 simp only[Go.Proofs.YtmhdkbmnpekpoaaGreatDoor.ret,Except.ok.injEq,aff.injEq] at h
 rw[h.2]
 exact afJ _
theorem Dn.tl {α:Type} {p:PP α} (h:Dn p) {ts r:List Tk} {a:α} (hp:p ts.tail= .ok (a,r)):r.length≤ts.length:=by
 have:=h.of hp; have:=fe ts; omega
theorem bG (s:Bs):Dn (aU s):=by
 intro ts r b h
 unfold aU at h
 split at h
 ·cases h; exact fe _
 ·cases h
theorem eR (k:Int):Dn (cK k):=by
 intro ts r b h
 unfold cK at h
 split at h
 ·cases h; exact fe _
 ·cases h
theorem kO {α β:Type} {lo:Option β} {s:Bs} {body:β→PP α} (h:∀ x,lo=some x→Dn (body x)):Dn (ea lo s body):=by
 intro ts r b hb
 unfold ea at hb
 split at hb
 ·split at hb
  ·cases hb
  ·rename_i x
   exact Dn.tl (h x rfl) hb
 ·cases hb
theorem Aj:Dn ig:=by
 intro ts r b h
 unfold ig at h
 split at h
 ·exact Dn.tl ((eR 3).aO fun _=>Dn.ret _) h
 ·exact Dn.of ((eR 3).aO fun _=>Dn.ret _) h
theorem oK (k:Int):Dn (dn k):=(eR 1).aO fun _=>Dn.ret _
theorem jM:Dn ey:=(eR 4).aO fun _=>Dn.ret _
theorem jN {op:PP Nd} {kd:Kd} (h:Dn op):∀ f n,Dn (cP op kd f n)
 | 0,n=>Dn.ret n
 | f + 1,n=>by
   intro ts r b hb
   simp only[cP] at hb
   split at hb
   ·exact Dn.tl (h.aO fun m=>jN h f _) hb
   ·cases hb; exact afJ _
theorem oL {op:PP Nd} {kd:Kd} (h:Dn op):Dn (fW op kd):=h.lf fun n ts r b hb=>(jN h _ n).of hb
def tJ (lo:Lo):Prop:=∀ x,lo=some x→Dn x.1∧Dn x.2
section
variable {lo:Lo} (hl:tJ lo)
include hl
theorem rG:∀ f n,Dn (dC lo f n)
 | 0,n=>Dn.ret n
 | f + 1,n=>by
   intro ts r b hb
   simp only[dC] at hb
   split at hb
   ·exact Dn.tl ((eR 1).aO fun t=>rG f _) hb
   ·split at hb
    ·exact Dn.of (kO fun x hx=>((hl x hx).1).aO fun m=>(bG _).aO fun _=>rG f _) hb
    ·cases hb; exact afJ _
end
theorem yY:Dn dF:=by
 intro ts r b hb
 unfold dF at hb
 split at hb
 ·cases hb; exact fe _
 ·exact Dn.of ((bG _).aO fun _=>Dn.ret _) hb
theorem Ak {e:PP Nd} (he:Dn e) (fn:Bs):Dn (gD e fn):=by
 intro ts r b hb
 unfold gD at hb
 split at hb
 ·exact Dn.of ((eR 1).aO fun t=>(bG _).aO fun _=>he.aO fun _=>Dn.ret _) hb
 ·split at hb
  ·exact Dn.of (he.aO fun t=>(bG _).aO fun _=>he.aO fun _=>Dn.ret _) hb
  ·exact Dn.of (he) hb
theorem BZ {arg:PP Nd} (h:Dn arg):∀ f l,Dn (fL arg f l)
 | 0,l=>Dn.ret l
 | f + 1,l=>h.aO fun a=>yY.aO fun m=>by
   cases m
   ·exact Dn.ret _
   ·exact BZ h f _
theorem wD {arg:PP Nd} (h:Dn arg):Dn (dY arg):=by
 intro ts r b hb
 unfold dY at hb
 split at hb
 ·cases hb; exact fe _
 ·exact Dn.of (BZ h _ _) hb
section
variable {lo:Lo} (hl:tJ lo)
include hl
theorem Ke:Dn (dZ lo):=by
 intro ts r b hb
 unfold dZ at hb
 split at hb
 ·exact Dn.of (Aj) hb
 split at hb
 ·exact Dn.of (jM) hb
 split at hb
 ·exact Dn.of (oK _) hb
 split at hb
 ·cases hb; exact fe _
 split at hb
 ·cases hb; exact fe _
 split at hb
 ·cases hb; exact fe _
 split at hb
 ·cases hb; exact fe _
 split at hb
 ·exact Dn.of (kO fun x hx=>(hl x hx).1.aO fun _=>(bG _).aO fun _=>Dn.ret _) hb
 split at hb
 ·exact Dn.tl (kO fun x hx=>(wD (Ak (hl x hx).1 _)).aO fun _=>Dn.ret _) hb
 ·cases hb
theorem lL:Dn (kN lo):=(Ke hl).lf fun n ts r b hb=>(rG hl _ n).of hb
theorem oM:Dn (wB lo):=oL (lL hl)
theorem wE:Dn (ke lo):=oL (oM hl)
theorem Og:Dn (nq lo):=(wE hl).lf fun n ts r b hb=>by
 split at hb
 ·exact Dn.tl ((wE hl).aO fun _=>Dn.ret _) hb
 ·cases hb; exact afJ _
theorem kP:Dn (fX lo):=by
 intro ts r b hb
 unfold fX at hb
 split at hb
 ·exact Dn.of (kO fun x hx=>(hl x hx).2.aO fun _=>Dn.ret _) hb
 ·exact Dn.of (Og hl) hb
theorem oO:Dn (wC lo):=oL (kP hl)
theorem TX:Dn (Kc lo):=oL (oO hl)
theorem nO:Dn (aJ lo):=by
 intro ts r b hb
 unfold aJ at hb
 split at hb
 ·exact Dn.of (kO fun x hx=>(hl x hx).1.aO fun _=>(bG _).aO fun _=>(hl x hx).1.aO fun _=>(bG _).aO fun _=>(hl x hx).1.aO fun _=>Dn.ret _) hb
 ·exact Dn.of (TX hl) hb
end
theorem Al:∀ k,Dn (mB k).1∧Dn (mB k).2
 | 0=>by
   have h:tJ none:=fun x hx=>by cases hx
   exact ⟨nO h,kP h⟩
 | k + 1=>by
   have h:tJ (some (mB k)):=fun x hx=>by
    cases hx; exact Al k
   exact ⟨nO h,kP h⟩
theorem dG (k:Nat):tJ (bp k):=by
 intro x hx
 cases k with
 | zero=>cases hx
 | succ k=>cases hx; exact Al k
structure Cx where
 b:Nat
 a:Option Addr
 c:Nat
 T:List Tk
def ptr (b:Nat):Value:=.pointer (some ⟨b,0,none⟩)
def Oh (e:kc):cd:=[{ v:=.iface 31 (.agg #[.int .i64 e.1,.int .i64 e.2]),recovered:=false }]
structure Ps (X:Cx) (H:Heap) (ts:List Tk) (k:Nat):Prop where
 ex:∃ i:Nat,eg H X.b 74 [.slice X.a X.T.length X.c,.int .i64 i,.int .i64 ((64 - k:Nat):Int)]∧ts=X.T.drop i∧i < X.T.length
 row:gn jD H X.a X.T
 ne:∀ b o,X.a=some ⟨b,o,none⟩→b≠X.b
 He:k≤64
 cap:X.T.length≤1048576
 fin:∀ i t r,X.T.drop i=t :: r→t.kind≠6→r≠[]
section
variable {X:Cx} {H H':Heap} {ts r:List Tk} {k:Nat}
theorem Ps.ext (h:Ps X H ts k) (hf:Fr [] H H'):Ps X H' ts k:=by
 obtain ⟨i,h1,h2,h3⟩:=h.ex
 exact ⟨⟨i,h1.ext hf,h2,h3⟩,h.row.ext hf,h.ne,h.He,h.cap,h.fin⟩
theorem Ps.lt (h:Ps X H ts k):X.b < H.size:=by
 obtain ⟨i,h1,_⟩:=h.ex
 exact h1.lt
theorem Ps.on {M:List Nat} {H0:Heap} {Ek:List Tk} {k0:Nat} (h0:Ps X H0 Ek k0) (h:Ps X H ts k) (hf:Fr M H H') (hM:∀ x ∈ M,H0.size≤x):Ps X H' ts k:=by
 obtain ⟨i,h1,h2,h3⟩:=h.ex
 obtain ⟨i0,g1,_,g3⟩:=h0.ex
 have hb:=g1.lt
 obtain ⟨b,o,ha,hp⟩:=gn.get h0.row Ad i0 g3 (by decide)
 have ba:=j6 (hp 0 (by decide))
 refine ⟨⟨i,h1.fr hf fun hm=>by have:=hM _ hm; omega,h2,h3⟩,h.row.fr hf fun b' o' e hm=>?_,h.ne,h.He,h.cap,h.fin⟩
 rw[ha] at e
 cases e
 have:=hM _ hm
 omega
theorem Ps.nil (h:Ps X H ts k):ts≠[]:=by
 obtain ⟨i,_,rfl,h3⟩:=h.ex
 intro e
 have:=congrArg ahI e
 simp only[ahs,aht] at this
 omega
theorem Ps.more (h:Ps X H ts k) (hk:(hd ts).kind≠6):ts.tail≠[]:=by
 obtain ⟨i,_,rfl,h3⟩:=h.ex
 cases e:X.T.drop i with
 | nil=>have:=h.nil; exact absurd e this
 | cons t r=>
   rw[e] at hk
   exact h.fin i t r e hk
theorem ag {s:Bs} (h:aY s ts=true):(hd ts).kind≠6:=by
 unfold aY at h
 simp only[ae5,afl,decide_eq_true_eq] at h
 omega
end
theorem ax {k n a:Int} {t:Bs} {v:Value} (hv:v.oneCell'=true):∀ u ∈ [ahE .i64 k,sv t,.int .i64 n,.int .i64 a,v],u.oneCell'=true:=by
 intro u hu
 simp only[afa,ahy,or_false] at hu
 rcases hu with rfl | rfl | rfl | rfl | rfl <;> first | rfl | exact hv
structure ij {α:Type} (k:Nat) (f:Nat) (l:List Value) (p:PP α) (R:α→Value→Heap→Heap→Prop):Prop where
 ok:∀ {X:Cx} {H:Heap} {ts:List Tk},Ps X H ts k→bU afI f (ptr X.b :: l).toArray H (fun v H'=>∃ a r,p ts= .ok (a,r)∧R a v H H'∧Ps X H' r k∧Fr [X.b] H H') fun ch H'=>∃ e,p ts= .error e∧ch=Oh e∧Fr [X.b] H H'
theorem ij.use {α:Type} {k f:Nat} {l:List Value} {p:PP α} {R:α→Value→Heap→Heap→Prop} (h:ij k f l p R) {X:Cx} {H:Heap} {ts:List Tk} (hs:Ps X H ts k) {Q:Value→Heap→Prop} {E:cd→Heap→Prop}
 (hE:∀ e H',p ts= .error e→Fr [X.b] H H'→E (Oh e) H') (hR:∀ a r v H',p ts= .ok (a,r)→R a v H H'→Ps X H' r k→Fr [X.b] H H'→Q v H'):bU afI f (ptr X.b :: l).toArray H Q E:=
 bU.mono (h.ok hs) (fun v H' ⟨a,r,h1,h2,h3,h4⟩=>hR a r v H' h1 h2 h3 h4) fun ch H' ⟨e,h1,h2,h3⟩=>h2 ▸ hE e H' h1 h3
def jO (n:Nd) (v:Value) (H H':Heap):Prop:=∃ cs,v= .agg cs.toArray∧aD H' (fun x=>x < H.size) n.fD cs
def TkR (t:Tk) (v:Value) (_ _:Heap):Prop:=v= .agg (jD t).toArray
def Q0 (n:Int) (v:Value) (_ _:Heap):Prop:=v= .int .i64 n
def TY (b:Bool) (v:Value) (_ _:Heap):Prop:=v= .bool b
section
variable {X:Cx} {H:Heap} {ts:List Tk} {k:Nat}
theorem look_ok (hs:Ps X H ts k):aE afI 35 #[ptr X.b] H fun v H'=>v= .agg (jD (hd ts)).toArray∧Fr [] H H':=by
 refine af (args:=[_]) Tryz.func35 XZ (ahi rfl) ?_
 obtain ⟨i,hb,GZ,hi⟩:=hs.ex
 simp only[go_sem,c35,ptr]
 refine ay fun H1 vr bY gK=>?_
 have mz:=(hb.ext bY).cell
 have h0:(0:Int)≤(i:Int):=by omega
 have h1:(i:Int) < (X.T.length:Int):=by omega
 have fm:=hs.row.ext bY
 obtain ⟨bb,o,ha,p⟩:=gn.get fm Ad i hi (by decide)
 have q0:=p 0 (by decide)
 have q1:=p 1 (by decide)
 have q2:=p 2 (by decide)
 have q3:=p 3 (by decide)
 have hh:X.T[i]=hd ts:=by rw[GZ,afM hi]; rfl
 rw[hh] at q0 q1 q2 q3
 simp only[jD,ahl,List.getElem?_cons_zero,List.getElem?_cons_succ] at q0 q1 q2 q3
 rw[ha] at mz
 simp only[go_sem,mz,h0,h1,q0,q1,q2,q3]
 refine aC vr rfl (by intro u hu; simp only[afa,ahy,or_false] at hu; rcases hu with rfl | rfl | rfl | rfl <;> rfl) fun H2 ju cQ jl=>?_
 have yh:=ju.cell
 simp only[go_sem,yh]
 exact ⟨rfl,gV bY cQ⟩
theorem rH (hs:Ps X H ts k) (c:Int):bU afI 53 #[ptr X.b,.int .i64 c] H (fun _ _=>False) fun ch H'=>ch=Oh (c,(hd ts).at_)∧Fr [] H H':=by
 refine aK (args:=[_,_]) Tryz.func53 X5 (ahi rfl) ?_
 have hl:=look_ok hs
 unfold ptr at *
 simp only[go_sem,c53]
 refine hl.mono ?_
 rintro v H1 ⟨rfl,hf⟩
 simp only[go_sem,jD]
 exact ⟨rfl,hf⟩
theorem rI (t:Tk):∀ u ∈ [ahE .i64 t.kind,sv t.text,.int .i64 t.n,.int .i64 t.at_],u.oneCell'=true:=by
 intro u hu
 simp only[afa,ahy,or_false] at hu
 rcases hu with rfl | rfl | rfl | rfl <;> rfl
theorem wG (hs:Ps X H ts k) (s:Bs):aE afI 54 #[ptr X.b,sv s] H fun v H'=>v= .bool (aY s ts)∧Fr [] H H':=by
 refine af (args:=[_,_]) Tryz.func54 X7 (ahi rfl) ?_
 have hl:=look_ok hs
 unfold ptr at *
 simp only[go_sem,c54,sv]
 refine hl.mono ?_
 rintro v H1 ⟨rfl,bY⟩
 simp only[go_sem,jD]
 refine ay fun H2 ju cQ jl=>?_
 simp only[go_sem]
 refine aC ju rfl (rI (hd ts)) fun H3 oJ dE yz=>?_
 have tg:=oJ.cell
 have hF:=bY.trans (gV cQ dE)
 unfold aY
 by_cases e2:(hd ts).kind=2
 ·by_cases et:(hd ts).text=s
  ·simp only[go_sem,tg,e2,et,cM,sv]
   exact hF
  ·simp only[go_sem,tg,e2,et,cM,sv]
   exact hF
 ·by_cases e5:(hd ts).kind=5
  ·by_cases et:(hd ts).text=s
   ·simp only[go_sem,tg,e2,e5,et,cM,sv]
    exact hF
   ·simp only[go_sem,tg,e2,e5,et,cM,sv]
    exact hF
  ·simp only[go_sem,tg,e2,e5,cM,sv]
   exact hF
theorem Ps.step (hs:Ps X H ts k) (hk:(hd ts).kind≠6):∃ i:Nat,eg H X.b 74 [.slice X.a X.T.length X.c,.int .i64 i,.int .i64 ((64 - k:Nat):Int)]∧afd.wrap ((i:Int) + 1)=((i + 1:Nat):Int)∧
 ∀ H',eg H' X.b 74 [.slice X.a X.T.length X.c,.int .i64 ((i + 1:Nat):Int),.int .i64 ((64 - k:Nat):Int)]→Fr [X.b] H H'→Ps X H' ts.tail k:=by
 have hm:=hs.more hk
 obtain ⟨i,hb,GZ,hi⟩:=hs.ex
 have aaT:=hs.cap
 refine ⟨i,hb,by rw[aV _ (by omega) (by omega)]; omega,fun H' yj hf=>⟨⟨i + 1,yj,by rw[GZ,ahY],?_⟩,hs.row.fr hf (fun b o e=>by have:=hs.ne b o e; simpa using this),hs.ne,hs.He,hs.cap,hs.fin⟩⟩
 rcases ae8 (i + 1) X.T.length with q | q
 ·exact q
 ·exfalso; apply hm
  rw[GZ,ahY]
  exact afO q
theorem hH (hs:Ps X H ts k) (s:Bs):aE afI 61 #[ptr X.b,sv s] H fun v H'=>v= .bool (aY s ts)∧Ps X H' (if aY s ts then ts.tail else ts) k∧Fr [X.b] H H':=by
 refine af (args:=[_,_]) Tryz.func61 Yg (ahi rfl) ?_
 have hl:=wG hs s
 unfold ptr at *
 simp only[go_sem,c61]
 refine hl.mono ?_
 rintro v H1 ⟨rfl,bY⟩
 cases e:aY s ts with
 | false=>
   simp only[go_sem]
   exact ⟨hs.ext bY,bY.mono (by simp)⟩
 | true=>
   obtain ⟨i,hb,hw,lE⟩:=(hs.ext bY).step (ag e)
   have hc:=hb.cell
   simp only[go_sem,hc,hw]
   refine bL hb (by simp) rfl fun H2 ju cQ jl=>?_
   simp only[go_sem]
   exact ⟨lE H2 ju cQ,(bY.mono (by simp)).trans cQ⟩
theorem gW {b:Nat} {A B:Heap} (h:Fr [] A B):Fr [b] A B:=h.mono (by simp)
theorem bj (s:Bs):ij k 57 [sv s] (aU s) Q0:=by
 refine ⟨fun {X H ts} hs=>?_⟩
 refine aK (args:=[_,_]) Tryz.func57 Yc (ahi rfl) ?_
 have hl:=look_ok hs
 unfold ptr at *
 simp only[go_sem,c57]
 refine hl.mono ?_
 rintro v H1 ⟨rfl,bY⟩
 have hA:=hH (hs.ext bY) s
 unfold ptr at *
 simp only[go_sem,jD]
 refine hA.mono ?_
 rintro v H2 ⟨rfl,jl,cQ⟩
 cases e:aY s ts with
 | true=>
   rw[e,if_pos rfl] at jl
   simp only[go_sem]
   exact ⟨(hd ts).at_,ts.tail,by simp[aU,e],rfl,jl,(gW bY).trans cQ⟩
 | false=>
   rw[e] at jl
   have NW:=rH jl 2
   unfold ptr at *
   simp only[go_sem]
   refine NW.mono (fun _ _ h=>h.elim) ?_
   rintro ch H3 ⟨rfl,dE⟩
   exact ⟨(2,(hd ts).at_),by simp[aU,e],rfl,((gW bY).trans cQ).trans (gW dE)⟩
theorem iy (n:Int) (hn:n≠6):ij k 62 [.int .i64 n] (cK n) TkR:=by
 refine ⟨fun {X H ts} hs=>?_⟩
 refine aK (args:=[_,_]) Tryz.func62 Yi (ahi rfl) ?_
 unfold ptr at *
 simp only[go_sem,c62]
 refine ay fun H0 kD kG ID=>?_
 have hl:=look_ok (hs.ext kG)
 unfold ptr at *
 simp only[go_sem]
 refine hl.mono ?_
 rintro v H1 ⟨rfl,bY⟩
 simp only[go_sem,jD]
 refine ay fun H2 ju cQ jl=>?_
 simp only[go_sem]
 refine aC ju rfl (rI (hd ts)) fun H3 oJ dE yz=>?_
 have tg:=oJ.cell
 have gm:=gV cQ dE
 have hF:=(kG.trans bY).trans gm
 by_cases e:(hd ts).kind=n
 ·obtain ⟨i,hb,hw,lE⟩:=(hs.ext hF).step (by rw[e]; exact hn)
  have hc:=hb.cell
  simp only[go_sem,tg,e,hc,hw]
  refine bL hb (by simp) rfl fun H4 yA iO tG=>?_
  have hx:H1.size≠X.b:=by have:=(hs.ext (kG.trans bY)).lt; omega
  have eS:H.size≠X.b:=by have:=hs.lt; omega
  have Dq:=(oJ.fr iO (by simpa using hx)).cell
  simp only[go_sem,Dq]
  have Kf:=(kD.ext (bY.trans gm)).fr iO (by simpa using eS)
  refine aC Kf rfl (rI (hd ts)) fun H5 np fP D9=>?_
  have Be:=np.cell
  simp only[go_sem,Be]
  have hFb:Fr [X.b] H H5:=((gW hF).trans iO).trans' fP (by intro x IE; simp only[List.mem_singleton] at IE; subst IE; exact .inr (afJ _))
  refine ⟨hd ts,ts.tail,by simp[cK,e],rfl,?_,hFb⟩
  have adB:=lE H4 yA iO
  exact Ps.on hs adB fP (by simp)
 ·have NW:=rH (hs.ext hF) 2
  unfold ptr at *
  simp only[go_sem,tg,e]
  refine NW.mono (fun _ _ h=>h.elim) ?_
  rintro ch H4 ⟨rfl,iO⟩
  exact ⟨(2,(hd ts).at_),by simp[cK,e],rfl,gW (hF.trans iO)⟩
theorem rJ (hs:Ps X H ts (k + 1)) {s:Bs} (e:aY s ts=true):aE afI 56 #[ptr X.b,sv s] H fun v H'=>v= .int .i64 (hd ts).at_∧Ps X H' ts.tail k∧Fr [X.b] H H':=by
 refine af (args:=[_,_]) Tryz.func56 Qw (ahi rfl) ?_
 have hl:=wG hs s
 rw[e] at hl
 unfold ptr at *
 simp only[go_sem,c56]
 refine hl.mono ?_
 rintro v H1 ⟨rfl,bY⟩
 have gK:=hs.ext bY
 obtain ⟨i,hb,GZ,hi⟩:=gK.ex
 have hc:=hb.cell
 have hk:=hs.He
 have FK:¬ (((64 - (k + 1):Nat):Int)=64):=by omega
 simp only[go_sem,hc,FK]
 refine (bj s).use gK (fun e' H' he hf=>?_) fun a r v H2 he hv jl cQ=>?_
 ·simp[aU,e] at he
 simp only[aU,e,if_true,Except.ok.injEq,aff.injEq] at he
 obtain ⟨rfl,rfl⟩:=he
 cases hv
 obtain ⟨i2,tD,adC,hi2⟩:=jl.ex
 have yh:=tD.cell
 have hw:afd.wrap (((64 - (k + 1):Nat):Int) + 1)=((64 - k:Nat):Int):=by rw[aV _ (by omega) (by omega)]; omega
 simp only[go_sem,yh,hw]
 refine bL tD (by simp) rfl fun H3 oJ dE yz=>?_
 simp only[go_sem]
 refine ⟨⟨⟨i2,oJ,adC,hi2⟩,jl.row.fr dE (fun b o e=>by have:=hs.ne b o e; simpa using this),jl.ne,by omega,jl.cap,jl.fin⟩,((gW bY).trans cQ).trans dE⟩
theorem nP (hs:Ps X H ts k) {s:Bs} (h:aY s ts=false∨k=0):bU afI 56 #[ptr X.b,sv s] H (fun _ _=>False) fun ch H'=>ch=Oh (if aY s ts then 6 else 2,(hd ts).at_)∧Fr [X.b] H H':=by
 refine aK (args:=[_,_]) Tryz.func56 Qw (ahi rfl) ?_
 have hl:=wG hs s
 unfold ptr at *
 simp only[go_sem,c56]
 refine hl.mono ?_
 rintro v H1 ⟨rfl,bY⟩
 have gK:=hs.ext bY
 cases e:aY s ts with
 | true=>
   have hk:k=0:=by rcases h with h | h; rw[e] at h; cases h; exact h
   subst hk
   obtain ⟨i,hb,GZ,hi⟩:=gK.ex
   have hc:=hb.cell
   have NW:=rH gK 6
   unfold ptr at *
   simp only[go_sem,hc]
   refine NW.mono (fun _ _ h=>h.elim) ?_
   rintro ch H4 ⟨rfl,iO⟩
   exact ⟨rfl,gW (bY.trans iO)⟩
 | false=>
   obtain ⟨i,hb,GZ,hi⟩:=gK.ex
   have hc:=hb.cell
   simp only[go_sem,hc]
   refine (bj s).use gK (fun e' H' he hf=>?_) fun a r v H2 he hv jl cQ=>?_
   ·simp only[aU,e,ae6,if_false,Except.error.injEq] at he
    subst he
    exact ⟨rfl,(gW bY).trans hf⟩
   ·simp[aU,e] at he
theorem rK (hs:Ps X H ts k) (hk:k < 64):aE afI 58 #[ptr X.b] H fun v H'=>Ps X H' ts (k + 1)∧Fr [X.b] H H':=by
 refine af (args:=[_]) Tryz.func58 Ye (ahi rfl) ?_
 obtain ⟨i,hb,GZ,hi⟩:=hs.ex
 have hc:=hb.cell
 have hw:afd.wrap (((64 - k:Nat):Int) - 1)=((64 - (k + 1):Nat):Int):=by rw[aV _ (by omega) (by omega)]; omega
 unfold ptr at *
 simp only[go_sem,c58,hc,hw]
 refine bL hb (by simp) rfl fun H3 oJ dE yz=>?_
 simp only[go_sem]
 exact ⟨⟨⟨i,oJ,GZ,hi⟩,hs.row.fr dE (fun b o e=>by have:=hs.ne b o e; simpa using this),hs.ne,by omega,hs.cap,hs.fin⟩,dE⟩
theorem kg {H:Heap} {B:Nat→Prop}:aD H B (aW []) [.slice none 0 0]:=aD.nil 5
theorem nQ (n:Int):ij k 65 [.int .i64 n] (dn n) jO:=by
 refine ⟨fun {X H ts} hs=>?_⟩
 refine aK (args:=[_,_]) Tryz.func65 Yo (ahi rfl) ?_
 simp only[go_sem,c65]
 refine ay fun H0 kD kG ID=>?_
 simp only[go_sem]
 refine (iy 1 (by decide)).use (hs.ext kG) (fun e H' he hf=>⟨e,bN he,rfl,(gW kG).trans hf⟩) fun t r v H1 he hv gK bY=>?_
 have td:=(gW kG).trans bY
 cases hv
 simp only[go_sem,jD]
 refine ay fun H2 ju cQ Kg=>?_
 simp only[go_sem]
 refine aC ju rfl (rI t) fun H3 oJ dE yz=>?_
 have tg:=oJ.cell
 have gm:=gV cQ dE
 have eS:H.size≠X.b:=by have:=hs.lt; omega
 have Kf:=(kD.fr bY (by simpa using eS)).ext gm
 simp only[go_sem,tg,sv]
 refine aC Kf rfl (ax rfl) fun H4 yA iO tG=>?_
 have Dq:=yA.cell
 simp only[go_sem,Dq]
 refine ⟨.mk n t.text 0 t.at_ [],r,az he,⟨_,rfl,aD.nd kg⟩,Ps.on hs (gK.ext gm) iO (by simp),(td.trans (gW gm)).trans' iO (by simp)⟩
theorem rL:ij k 103 [] ey jO:=by
 refine ⟨fun {X H ts} hs=>?_⟩
 refine aK (args:=[_]) Tryz.func103 SV (ahi rfl) ?_
 simp only[go_sem,YB]
 refine ay fun H0 kD kG ID=>?_
 simp only[go_sem]
 refine (iy 4 (by decide)).use (hs.ext kG) (fun e H' he hf=>⟨e,bN he,rfl,(gW kG).trans hf⟩) fun t r v H1 he hv gK bY=>?_
 have td:=(gW kG).trans bY
 cases hv
 simp only[go_sem,jD]
 refine ay fun H2 ju cQ Kg=>?_
 simp only[go_sem]
 refine aC ju rfl (rI t) fun H3 oJ dE yz=>?_
 have tg:=oJ.cell
 have gm:=gV cQ dE
 have eS:H.size≠X.b:=by have:=hs.lt; omega
 have Kf:=(kD.fr bY (by simpa using eS)).ext gm
 simp only[go_sem,tg,sv]
 refine aC Kf rfl (ax rfl) fun H4 yA iO tG=>?_
 have Dq:=yA.cell
 simp only[go_sem,Dq]
 refine ⟨.mk 47 t.text 0 t.at_ [],r,az he,⟨_,rfl,aD.nd kg⟩,Ps.on hs (gK.ext gm) iO (by simp),(td.trans (gW gm)).trans' iO (by simp)⟩
theorem B0:ij k 63 [] dF TY:=by
 refine ⟨fun {X H ts} hs=>?_⟩
 refine aK (args:=[_]) Tryz.func63 Yk (ahi rfl) ?_
 have hA:=hH hs [44]
 unfold ptr sv at *
 simp only[go_sem,c63]
 refine hA.mono ?_
 rintro v H1 ⟨rfl,gK,bY⟩
 cases e:aY [44] ts with
 | true=>
   rw[e,if_pos rfl] at gK
   simp only[go_sem]
   exact ⟨true,ts.tail,by simp[dF,e],rfl,gK,bY⟩
 | false=>
   rw[e] at gK
   simp only[go_sem]
   refine (bj [41]).use gK (fun e' H' he hf=>⟨e',by simp only[dF,e]; exact bN he,rfl,bY.trans hf⟩) fun a r v H2 he hv jl cQ=>?_
   simp only[go_sem]
   exact ⟨false,r,by simp only[dF,e]; exact az he,rfl,jl,bY.trans cQ⟩
theorem mC:ij k 73 [] ig jO:=by
 refine ⟨fun {X H ts} hs=>?_⟩
 refine aK (args:=[_]) Tryz.func73 Yv (ahi rfl) ?_
 simp only[go_sem,c73]
 refine ay fun H0 kD kG ID=>?_
 simp only[go_sem]
 refine (look_ok (hs.ext kG)).mono ?_
 rintro v H1 ⟨rfl,bY⟩
 simp only[go_sem,jD]
 refine ay fun H2 ju cQ Kg=>?_
 simp only[go_sem]
 refine aC ju rfl (ax (t:=[]) rfl) fun H3 oJ dE yz=>?_
 have gm:=gV cQ dE
 have hF:=(kG.trans bY).trans gm
 have hA:=hH (hs.ext hF) [45]
 unfold sv at hA
 have eS:H.size≠X.b:=by have:=hs.lt; omega
 have J6:H1.size≠X.b:=by have:=hs.lt; have:=(kG.trans bY).size; omega
 have dH:H.size≠H1.size:=by have:=bY.size; omega
 simp only[go_sem]
 refine hA.mono ?_
 rintro v H4 ⟨rfl,tG,iO⟩
 have yA:=oJ.fr iO (by simpa using J6)
 have Dr:=(gW hF).trans iO
 have Q1:=((kD.ext bY).ext gm).fr iO (by simpa using eS)
 cases e:aY [45] ts with
 | true=>
   rw[e,if_pos rfl] at tG
   simp only[go_sem]
   refine (iy 3 (by decide)).use tG (fun e' H' he hf=>⟨e',by simp only[ig,e]; exact bN he,rfl,Dr.trans hf⟩) fun t r v H5 he hv D9 fP=>?_
   cases hv
   have np:=yA.fr fP (by simpa using J6)
   have TZ:=Q1.fr fP (by simpa using eS)
   simp only[go_sem,jD]
   refine bL np (by simp) rfl fun H6 gL fB BW=>?_
   have lg:=TZ.fr fB (by simpa using dH)
   have jE:=gL.cell
   simp only[go_sem,jE]
   refine aC lg rfl (ax (t:=[]) rfl) fun H7 qR fK uI=>?_
   have p7:=qR.cell
   simp only[go_sem,p7]
   refine ⟨.mk 44 [] (afd.wrap (0 - t.n)) (hd ts).at_ [],r,by simp only[ig,e]; exact az he,⟨_,rfl,aD.nd kg⟩,Ps.on hs (Ps.on hs D9 fB (by simp; have:=(kG.trans bY).size; omega)) fK (by simp),?_⟩
   exact ((Dr.trans fP).trans' fB (by simp; have:=(kG.trans bY).size; omega)).trans' fK (by simp)
 | false=>
   rw[e] at tG
   simp only[go_sem]
   refine (iy 3 (by decide)).use tG (fun e' H' he hf=>⟨e',by simp only[ig,e]; exact bN he,rfl,Dr.trans hf⟩) fun t r v H5 he hv D9 fP=>?_
   cases hv
   have np:=yA.fr fP (by simpa using J6)
   have TZ:=Q1.fr fP (by simpa using eS)
   simp only[go_sem,jD]
   refine bL np (by simp) rfl fun H6 gL fB BW=>?_
   have lg:=TZ.fr fB (by simpa using dH)
   have jE:=gL.cell
   simp only[go_sem,jE]
   refine aC lg rfl (ax (t:=[]) rfl) fun H7 qR fK uI=>?_
   have p7:=qR.cell
   simp only[go_sem,p7]
   refine ⟨.mk 44 [] t.n (hd ts).at_ [],r,by simp only[ig,e]; exact az he,⟨_,rfl,aD.nd kg⟩,Ps.on hs (Ps.on hs D9 fB (by simp; have:=(kG.trans bY).size; omega)) fK (by simp),?_⟩
   exact ((Dr.trans fP).trans' fB (by simp; have:=(kG.trans bY).size; omega)).trans' fK (by simp)
end
def tK (H:Heap) (r:Nat) (l:Kd):Prop:=∃ es c,H[r]?=some (.map es c)∧es.toList.map (fun e=>(e.key,e.val))=l.map fun p=>(sv p.1,ahE .i64 p.2)
theorem tK.lt {H:Heap} {r:Nat} {l:Kd} (h:tK H r l):r < H.size:=by
 obtain ⟨es,c,h1,_⟩:=h
 exact (Array.getElem?_eq_some_iff.1 h1).1
theorem tK.fr {M:List Nat} {H H':Heap} {r:Nat} {l:Kd} (h:tK H r l) (hf:Fr M H H') (hr:r ∉ M):tK H' r l:=by
 have ba:=h.lt
 obtain ⟨es,c,h1,h2⟩:=h
 exact ⟨es,c,by rw[hf.same r ba hr]; exact h1,h2⟩
theorem tK.ne {H:Heap} {r b t:Nat} {l:Kd} {cs:List Value} (h:tK H r l) (hb:eg H b t cs):r≠b:=by
 obtain ⟨es,c,h1,_⟩:=h
 rintro rfl
 unfold eg at hb
 rw[h1] at hb
 simp at hb
theorem kh {H:Heap} {R:Value→Heap→Prop} (h:∀ H',tK H' H.size []→Fr [] H H'→H'.size=H.size + 1→R (.map (some H.size)) H'):ND H R:=
 h _ ⟨#[],0,by simp,rfl⟩ (oH _ _ _) (by simp)
theorem Am:∀ {es:List MapEntry} {l:Kd} (s:Bs) (i:Nat),es.map (fun e=>(e.key,e.val))=(l.map fun p=>(sv p.1,ahE .i64 p.2))→
 (l.lookup s=none∧Instr.findNow .string (sv s) es i=some none)∨∃ n j,l.lookup s=some n∧Instr.findNow .string (sv s) es i=some (some (j,.int .i64 n))
 | [],[],s,i,_=>.inl ⟨rfl,rfl⟩
 | e :: es,p :: l,s,i,h=>by
   simp only[afi,afV.injEq,aff.injEq] at h
   obtain ⟨⟨h1,h2⟩,h3⟩:=h
   have hs:Instr.sameNow .string (sv s) e.key=some (decide (s=p.1)):=by
    rw[h1]
    obtain ⟨b,hb,aaU⟩:=MapKept.sameNow_of_keys (d:=.string) (a:=sv s) (b:=sv p.1) trivial trivial
    rw[hb]
    congr 1
    unfold sv at aaU
    simp only[ahW.injEq,cM] at aaU
    cases b <;> simp_all
   by_cases q:s=p.1
   ·refine .inr ⟨p.2,i,?_,?_⟩
    ·obtain ⟨a,b⟩:=p
     simp only at q; subst q
     simp[List.lookup]
    ·simp only[Instr.findNow,hs,decide_eq_true q,h2]
   ·have hl:(p :: l).lookup s=l.lookup s:=by
     obtain ⟨a,b⟩:=p
     simp only at q
     have:(s == a)=false:=by simpa using q
     simp[List.lookup,this]
    rw[hl]
    simp only[Instr.findNow,hs,decide_eq_false q]
    exact Am s (i + 1) h3
 | [],_ :: _,_,_,h=>by simp at h
 | _ :: _,[],_,_,h=>by simp at h
theorem ez {H:Heap} {r:Nat} {l:Kd} {s:Bs} {n:Int} {R:Heap→Prop} (h:tK H r l) (hs:l.lookup s=none) (hR:∀ H',tK H' r (l ++ [(s,n)])→Fr [r] H H'→H'.size=H.size→R H'):RU H r ⟨⟨s⟩⟩ (.int .i64 n) R:=by
 have ba:=h.lt
 obtain ⟨es,c,h1,h2⟩:=h
 rcases Am s 0 h2 with ⟨_,hf⟩ | ⟨_,_,q,_⟩
 ·refine ⟨es,c,h1,hf,hR _ ⟨es.push ⟨.string ⟨⟨s⟩⟩,.int .i64 n,c⟩,c + 1,by simp[ba],by simp[h2,sv]⟩ ⟨by simp,fun i hi hn=>?_⟩ (by simp)⟩
  have:r≠i:=by simpa [eq_comm] using hn
  simp[this]
 ·rw[hs] at q; cases q
theorem wH {H:Heap} {r:Nat} {l:Kd} {s:Bs} {R:Value→Prop} (h:tK H r l) (hR:R (.int .i64 (eb l s))):RW H (.int .i64 0) r ⟨⟨s⟩⟩ R:=by
 obtain ⟨es,c,h1,h2⟩:=h
 refine ⟨es,c,h1,?_⟩
 rcases Am s 0 h2 with ⟨q,hf⟩ | ⟨n,j,q,hf⟩
 ·exact .inr ⟨hf,by simpa [eb,q] using hR⟩
 ·exact .inl ⟨j,_,hf,by simpa [eb,q] using hR⟩
theorem aD.row {H:Heap} {B:Nat→Prop} {b t:Nat} {ks:List Nd} {css:List (List Value)} (hn:eg H b t css.flatten) (hl:∀ x ∈ css,x.length=5) (hR:fq H B (ks.map Nd.fD) css) (hb:¬ B b) (Iz:ks.length≤maxLen) :
 aD H B (aW ks) [.slice (some ⟨b,0,none⟩) ks.length ks.length]:=fun M hM=>by
 unfold aW
 simp only[dA]
 refine ⟨_,ks.length,css,by simp,by simp,Iz,hR M hM,hl,.inr ⟨b,0,rfl,fun hm=>hb (hM b hm),fun j hj=>?_⟩⟩
 rw[afT,hn.cell,List.getElem?_eq_getElem hj]
theorem aD.Ua {H:Heap} {B:Nat→Prop} {b t:Nat} {x:Nd} {cx:List Value} (hn:eg H b t cx) (hx:aD H B x.fD cx) (NV:cx.length=5) (hb:¬ B b):aD H B (aW [x]) [.slice (some ⟨b,0,none⟩) 1 1]:=
 aD.row (ks:=[x]) (css:=[cx]) (by simpa using hn) (by simpa using NV) (fq.nil.cons hx) hb (show 1≤maxLen by decide)
theorem aD.Ub {H:Heap} {B:Nat→Prop} {b t:Nat} {x y:Nd} {cx cy:List Value} (hn:eg H b t (cx ++ cy)) (hx:aD H B x.fD cx) (hy:aD H B y.fD cy) (NV:cx.length=5) (hyl:cy.length=5) (hb:¬ B b):aD H B (aW [x,y]) [.slice (some ⟨b,0,none⟩) 2 2]:=
 aD.row (ks:=[x,y]) (css:=[cx,cy]) (by simpa using hn) (by simp[NV,hyl]) ((fq.nil.cons hy).cons hx) hb (show 2≤maxLen by decide)
theorem aD.adD {H:Heap} {B:Nat→Prop} {b t:Nat} {x y z:Nd} {cx cy cz:List Value} (hn:eg H b t (cx ++ (cy ++ cz))) (hx:aD H B x.fD cx) (hy:aD H B y.fD cy) (hz:aD H B z.fD cz) (NV:cx.length=5) (hyl:cy.length=5) (hzl:cz.length=5) (hb:¬ B b):aD H B (aW [x,y,z]) [.slice (some ⟨b,0,none⟩) 3 3]:=
 aD.row (ks:=[x,y,z]) (css:=[cx,cy,cz]) (by simpa using hn) (by simp[NV,hyl,hzl]) (((fq.nil.cons hz).cons hy).cons hx) hb (show 3≤maxLen by decide)
theorem dp {H:Heap} {B:Nat→Prop} {v:Value} {ks:List Nd} (h:aD H B (aW ks) [v]):v.oneCell'=true:=by
 obtain ⟨a,c,rfl,_⟩:=aD.elems h
 rfl
set_option maxHeartbeats 4000000 in
theorem rM {k g:Nat} {op:PP Nd} {kd:Kd} (hg:dV afI g=true) (jX:ij k g [] op jO) (Br:Dn op) {X:Cx} {H:Heap} {ts:List Tk} (hs:Ps X H ts k) {m:Nat} (hm:tK H m kd) :
 bU afI 96 #[ptr X.b,.func (.func g) #[ptr X.b] #[],.map (some m)] H (fun v H'=>∃ n r,fW op kd ts= .ok (n,r)∧jO n v H H'∧Ps X H' r k∧Fr [X.b] H H') fun ch H'=>∃ e,fW op kd ts= .error e∧ch=Oh e∧Fr [X.b] H H':=by
 refine aK (args:=[_,_,_]) Tryz.func96 Yx (ahi rfl) ?_
 obtain ⟨i0,YH,_⟩:=hs.ex
 have hmb:=hm.ne YH
 have aeT:=hm.lt
 have N6:=hs.lt
 simp only[go_sem,c96]
 refine ay fun H0 kD kG ID=>?_
 simp only[go_sem]
 refine ⟨hg,jX.use (hs.ext kG) (fun e H' he hf=>⟨e,bN he,rfl,(gW kG).trans hf⟩) fun n r v H1 he hv gK bY=>?_⟩
 obtain ⟨cs,rfl,Kh⟩:=hv
 obtain ⟨kk,tt,nn,aa,ks⟩:=n
 obtain ⟨kv,rfl,jF⟩:=aD.cL Kh
 have td:=(gW kG).trans bY
 simp only[go_sem]
 refine ay fun H2 ju cQ Kg=>?_
 simp only[go_sem]
 refine aC ju rfl (ax (dp jF)) fun H3 oJ dE Oi=>?_
 have gm:=gV cQ dE
 obtain ⟨bn,hbn⟩:∃ bn,bn=H1.size:=⟨_,rfl⟩
 rw[← hbn] at oJ ⊢
 have adE:=bY.size
 have eS:H.size≠X.b:=by omega
 have Hf:=(kD.fr bY (by simpa using eS)).ext gm
 simp only[go_sem]
 refine bC (fun (s:Nd × List Tk × Value) H'=>∃ f,s.2.1.length≤f∧fW op kd ts=cP op kd f s.1 s.2.1∧Ps X H' s.2.1 k∧Fr [X.b] H H'∧H3.size≤H'.size∧eg H' H.size 24 [.int .i64 0,sv [],.int .i64 0,.int .i64 0,.slice none 0 0]∧
  ∃ kk tt nn aa ks,s.1= .mk kk tt nn aa ks∧eg H' bn 24 [.int .i64 kk,sv tt,.int .i64 nn,.int .i64 aa,s.2.2]∧aD H' (fun x=>x < H0.size∨x=bn) (aW ks) [s.2.2])
  (fun s=>[(0,ptr X.b),(1,.func (.func g) #[ptr X.b] #[]),(2,.map (some m)),(6,.pointer (some ⟨H.size,0,none⟩)),(7,.pointer (some ⟨bn,0,none⟩))]) (fun s=>s.2.1.length) (.mk kk tt nn aa ks,r,kv) ?_ ?_ ?_
 ·refine ⟨r.length,afJ _,by unfold fW; rw[az he],gK.ext gm,td.trans (gW gm),afJ _,Hf,kk,tt,nn,aa,ks,rfl,oJ,?_⟩
  exact jF.ext gm fun x hx=>by omega
 ·simp only[go_sem]
 ·rintro ⟨n,cur,kv⟩ H4 ⟨f,hf,B1,tG,Dr,hz4,Q1,kk,tt,nn,aa,ks,rfl,G9,Ob⟩
  simp only at hf B1 tG Dr G9 Ob ⊢
  have aaV:=dE.size
  have qw:=aho.2 tG.nil
  obtain ⟨f,rfl⟩:∃ f',f=f' + 1:=⟨f - 1,by omega⟩
  simp only[go_sem]
  refine (look_ok tG).mono ?_
  rintro v H5 ⟨rfl,fP⟩
  simp only[go_sem,jD]
  refine ay fun H6 gL fB Uc=>?_
  simp only[go_sem]
  refine aC gL rfl (rI (hd cur)) fun H7 qR fK Ud=>?_
  have p7:=qR.cell
  have ki:=fP.trans (gV fB fK)
  have uI:=tG.ext ki
  have hm7:=hm.fr (Dr.trans (gW ki)) (by simpa using hmb)
  simp only[go_sem,p7,sv]
  refine wH hm7 ?_
  have yl:=G9.ext ki
  have th:=Q1.ext ki
  have yB:=Ob.ext ki (B':=fun x=>x < H0.size∨x=bn) fun x hx=>.inl hx
  have Ki:=Dr.trans (gW ki)
  by_cases hz:eb kd (hd cur).text=0
  ·have Kj:=yl.cell
   simp only[go_sem,hz,Kj]
   refine aC th rfl (ax (dp yB)) fun H8 kC dy Ue=>?_
   have nB:=kC.cell
   simp only[go_sem,nB]
   refine ⟨.mk kk tt nn aa ks,cur,by rw[B1]; simp[cP,fE,hz],⟨_,rfl,?_⟩,Ps.on hs uI dy (by simp),Ki.trans' dy (by simp)⟩
   exact aD.nd (aD.fr yB dy (by simp; omega) fun x hx=>by omega)
  ·have hA:=hH uI (hd cur).text
   unfold sv at hA
   simp only[go_sem,hz,p7,sv]
   refine hA.mono ?_
   rintro v H8 ⟨rfl,qu,dy⟩
   have Dm:bn≠X.b:=by omega
   have h5x:H5.size≠X.b:=by have:=fP.size; omega
   have Ef:=yl.fr dy (by simpa using Dm)
   have Hg:=th.fr dy (by simpa using eS)
   have kC:=qR.fr dy (by simpa using h5x)
   have Ee:=aD.fr yB dy (B':=fun x=>x < H0.size∨x=bn) (by simp; omega) fun x hx=>.inl hx
   have yX:=Ki.trans dy
   have Kj:=Ef.cell
   cases e:aY (hd cur).text cur with
   | false=>
     rw[e] at qu
     simp only[go_sem,Kj]
     refine aC Hg rfl (ax (dp Ee)) fun H9 pN dB Kk=>?_
     have tH:=pN.cell
     simp only[go_sem,tH]
     refine ⟨.mk kk tt nn aa ks,cur,by rw[B1]; simp[cP,fE,e],⟨_,rfl,?_⟩,Ps.on hs qu dB (by simp),yX.trans' dB (by simp)⟩
     exact aD.nd (aD.fr Ee dB (by simp; omega) fun x hx=>by omega)
   | true=>
     rw[e,if_pos rfl] at qu
     have Kl:fE kd cur=true:=by simp[fE,e,hz]
     have hcn:=kC.cell
     simp only[go_sem,Kj,hcn]
     have hcF:cP op kd (f + 1) (.mk kk tt nn aa ks) cur=bd op (fun m=>cP op kd f (.mk (eb kd (hd cur).text) [] 0 (hd cur).at_ [.mk kk tt nn aa ks,m])) cur.tail:=by simp only[cP,Kl,if_true]
     refine ⟨hg,jX.use qu (fun e' H' s8 fJ=>⟨e',by rw[B1,hcF]; exact bN s8,rfl,yX.trans fJ⟩) fun n' r' v H9 s8 BE vf dB=>?_⟩
     obtain ⟨JP,rfl,B2⟩:=BE
     obtain ⟨k',t',n',a',iK⟩:=n'
     obtain ⟨Wd,rfl,aaW⟩:=aD.cL B2
     have yC:=Ef.fr dB (by simpa using Dm)
     have hr9:=Hg.fr dB (by simpa using eS)
     have pN:=kC.fr dB (by simpa using h5x)
     have hk9:=aD.fr Ee dB (B':=fun x=>x < H0.size∨x=bn) (by simp; omega) fun x hx=>.inl hx
     have Q2:=yX.trans dB
     have Km:=yC.cell
     have Uf:=pN.cell
     have Hh:=ki.size
     have We:=dy.size
     have hz9:=dB.size
     simp only[go_sem,Km,Uf]
     refine db fun kb nN dK Kn=>?_
     have fm:aD kb (fun x=>x < H0.size∨x=bn) (aW [.mk kk tt nn aa ks,.mk k' t' n' a' iK]) [.slice (some ⟨H9.size,0,none⟩) 2 2]:=by
      refine aD.Ub (cx:=[_,_,_,_,_]) (cy:=[_,_,_,_,_]) nN (aD.nd (aD.ext hk9 dK fun x hx=>.inl hx)) (aD.ext B2 dK fun x hx=>.inl ?_) rfl rfl (by omega)
      omega
     have Ko:=(pN.ext dK).cell
     simp only[go_sem,Ko]
     refine aC (yC.ext dK) rfl (ax (t:=[]) rfl) fun qx El nR Kp=>?_
     simp only[go_sem]
     have hle:r'.length≤f:=by
      have h1:=Br.of s8
      have h2:cur.tail.length=cur.length - 1:=by simp
      omega
     refine aj (.mk (eb kd (hd cur).text) [] 0 (hd cur).at_ [.mk kk tt nn aa ks,.mk k' t' n' a' iK],r',.slice (some ⟨H9.size,0,none⟩) 2 2) ?_ ?_ ?_
     ·show r'.length < cur.length
      have h1:=Br.of s8
      have h2:cur.tail.length=cur.length - 1:=by simp
      omega
     ·simp only[go_sem]
     ·refine ⟨f,hle,by rw[B1,hcF]; exact az s8,Ps.on hs (vf.ext dK) nR (by simp; omega),(Q2.trans (gW dK)).trans' nR (by simp; omega),by have:=dK.size; omega,(hr9.ext dK).fr nR (by simp; omega),_,_,_,_,_,rfl,El,?_⟩
      exact aD.fr fm nR (by simp) fun x hx=>.inl hx
theorem Ug {k:Nat} {lo:Lo} (hl:tJ lo) (jX:ij k 156 [] (kN lo) jO):ij k 148 [] (wB lo) jO:=by
 refine ⟨fun {X H ts} hs=>?_⟩
 refine aK (args:=[_]) Tryz.func148 SZ (ahi rfl) ?_
 simp only[go_sem,c148]
 refine ay fun H0 kD kG ID=>?_
 simp only[go_sem]
 refine kh fun H1 IF bY gK=>?_
 simp only[go_sem]
 refine ez IF rfl fun H2 nr vv jl=>?_
 simp only[go_sem]
 refine ez nr rfl fun H3 IG QS yz=>?_
 simp only[go_sem]
 have Em:=kG.trans bY
 have pO:Fr [] H H2:=Em.trans' vv (by simp; omega)
 have Oj:Fr [] H H3:=pO.trans' QS (by simp; omega)
 have eS:H.size≠X.b:=by have:=hs.lt; omega
 have mz:=kD.ext bY
 have tD:=mz.fr vv (by simp; omega)
 have vu:=tD.fr QS (by simp; omega)
 refine bU.mono (rM (kd:=Ei) (by kernel_rfl) jX (lL hl) (hs.ext Oj) IG) ?_ ?_
 rotate_left
 ·rintro ch H9 ⟨e,he,rfl,dB⟩
  exact ⟨e,he,rfl,(gW Oj).trans dB⟩
 rintro v H9 ⟨⟨k',t',n',a',iK⟩,r,he,⟨cs,rfl,hr⟩,vf,dB⟩
 obtain ⟨kv,rfl,jF⟩:=aD.cL hr
 have yC:=vu.fr dB (by simpa using eS)
 simp only[go_sem]
 refine aC yC rfl (ax (dp jF)) fun kb nN dK G8=>?_
 have tI:=nN.cell
 simp only[go_sem,tI]
 refine ⟨_,r,he,⟨_,rfl,aD.nd ?_⟩,Ps.on hs vf dK (by simp),((gW Oj).trans dB).trans' dK (by simp)⟩
 have:=Oj.size
 have:=(bY.size)
 exact aD.fr jF dK (by simp; omega) fun x hx=>by omega
theorem Hi {k:Nat} {lo:Lo} (hl:tJ lo) (jX:ij k 148 [] (wB lo) jO):ij k 137 [] (ke lo) jO:=by
 refine ⟨fun {X H ts} hs=>?_⟩
 refine aK (args:=[_]) Tryz.func137 SY (ahi rfl) ?_
 simp only[go_sem,YD]
 refine ay fun H0 kD kG ID=>?_
 simp only[go_sem]
 refine kh fun H1 IF bY gK=>?_
 simp only[go_sem]
 refine ez IF rfl fun H2 nr vv jl=>?_
 simp only[go_sem]
 have Em:=kG.trans bY
 have pO:Fr [] H H2:=Em.trans' vv (by simp; omega)
 have eS:H.size≠X.b:=by have:=hs.lt; omega
 have mz:=kD.ext bY
 have tD:=mz.fr vv (by simp; omega)
 refine bU.mono (rM (kd:=wA) (by kernel_rfl) jX (oM hl) (hs.ext pO) nr) ?_ ?_
 rotate_left
 ·rintro ch H9 ⟨e,he,rfl,dB⟩
  exact ⟨e,he,rfl,(gW pO).trans dB⟩
 rintro v H9 ⟨⟨k',t',n',a',iK⟩,r,he,⟨cs,rfl,hr⟩,vf,dB⟩
 obtain ⟨kv,rfl,jF⟩:=aD.cL hr
 have yC:=tD.fr dB (by simpa using eS)
 simp only[go_sem]
 refine aC yC rfl (ax (dp jF)) fun kb nN dK G8=>?_
 have tI:=nN.cell
 simp only[go_sem,tI]
 refine ⟨_,r,he,⟨_,rfl,aD.nd ?_⟩,Ps.on hs vf dK (by simp),((gW pO).trans dB).trans' dK (by simp)⟩
 have:=pO.size
 have:=(bY.size)
 exact aD.fr jF dK (by simp; omega) fun x hx=>by omega
theorem Uh {k:Nat} {lo:Lo} (hl:tJ lo) (jX:ij k 115 [] (fX lo) jO):ij k 97 [] (wC lo) jO:=by
 refine ⟨fun {X H ts} hs=>?_⟩
 refine aK (args:=[_]) Tryz.func97 Yz (ahi rfl) ?_
 simp only[go_sem,c97]
 refine ay fun H0 kD kG ID=>?_
 simp only[go_sem]
 refine kh fun H1 IF bY gK=>?_
 simp only[go_sem]
 refine ez IF rfl fun H2 nr vv jl=>?_
 simp only[go_sem]
 have Em:=kG.trans bY
 have pO:Fr [] H H2:=Em.trans' vv (by simp; omega)
 have eS:H.size≠X.b:=by have:=hs.lt; omega
 have mz:=kD.ext bY
 have tD:=mz.fr vv (by simp; omega)
 refine bU.mono (rM (kd:=Ej) (by kernel_rfl) jX (kP hl) (hs.ext pO) nr) ?_ ?_
 rotate_left
 ·rintro ch H9 ⟨e,he,rfl,dB⟩
  exact ⟨e,he,rfl,(gW pO).trans dB⟩
 rintro v H9 ⟨⟨k',t',n',a',iK⟩,r,he,⟨cs,rfl,hr⟩,vf,dB⟩
 obtain ⟨kv,rfl,jF⟩:=aD.cL hr
 have yC:=tD.fr dB (by simpa using eS)
 simp only[go_sem]
 refine aC yC rfl (ax (dp jF)) fun kb nN dK G8=>?_
 have tI:=nN.cell
 simp only[go_sem,tI]
 refine ⟨_,r,he,⟨_,rfl,aD.nd ?_⟩,Ps.on hs vf dK (by simp),((gW pO).trans dB).trans' dK (by simp)⟩
 have:=pO.size
 have:=(bY.size)
 exact aD.fr jF dK (by simp; omega) fun x hx=>by omega
theorem aaX {k:Nat} {lo:Lo} (hl:tJ lo) (jX:ij k 97 [] (wC lo) jO):ij k 55 [] (Kc lo) jO:=by
 refine ⟨fun {X H ts} hs=>?_⟩
 refine aK (args:=[_]) Tryz.func55 X9 (ahi rfl) ?_
 simp only[go_sem,c55]
 refine ay fun H0 kD kG ID=>?_
 simp only[go_sem]
 refine kh fun H1 IF bY gK=>?_
 simp only[go_sem]
 refine ez IF rfl fun H2 nr vv jl=>?_
 simp only[go_sem]
 have Em:=kG.trans bY
 have pO:Fr [] H H2:=Em.trans' vv (by simp; omega)
 have eS:H.size≠X.b:=by have:=hs.lt; omega
 have mz:=kD.ext bY
 have tD:=mz.fr vv (by simp; omega)
 refine bU.mono (rM (kd:=TW) (by kernel_rfl) jX (oO hl) (hs.ext pO) nr) ?_ ?_
 rotate_left
 ·rintro ch H9 ⟨e,he,rfl,dB⟩
  exact ⟨e,he,rfl,(gW pO).trans dB⟩
 rintro v H9 ⟨⟨k',t',n',a',iK⟩,r,he,⟨cs,rfl,hr⟩,vf,dB⟩
 obtain ⟨kv,rfl,jF⟩:=aD.cL hr
 have yC:=tD.fr dB (by simpa using eS)
 simp only[go_sem]
 refine aC yC rfl (ax (dp jF)) fun kb nN dK G8=>?_
 have tI:=nN.cell
 simp only[go_sem,tI]
 refine ⟨_,r,he,⟨_,rfl,aD.nd ?_⟩,Ps.on hs vf dK (by simp),((gW pO).trans dB).trans' dK (by simp)⟩
 have:=pO.size
 have:=(bY.size)
 exact aD.fr jF dK (by simp; omega) fun x hx=>by omega
theorem An {α β:Type} {s:Bs} {body:β→PP α} {ts:List Tk} (h:aY s ts=true):ea none s body ts= .error (6,(hd ts).at_):=by simp only[ea,h,if_true]
theorem wI {α β:Type} {s:Bs} {x:β} {body:β→PP α} {ts:List Tk} (h:aY s ts=true):ea (some x) s body ts=body x ts.tail:=by simp only[ea,h,if_true]
theorem Ol {α β:Type} {lo:Option β} {s:Bs} {body:β→PP α} {ts:List Tk} (h:aY s ts=false):ea lo s body ts= .error (2,(hd ts).at_):=by simp only[ea,h,ae6,if_false]
set_option maxHeartbeats 1000000 in
theorem Ui {k:Nat} (I7:∀ j,k=j + 1→ij j 115 [] (mB j).2 jO) (adF:ij k 130 [] (nq (bp k)) jO):ij k 115 [] (fX (bp k)) jO:=by
 refine ⟨fun {X H ts} hs=>?_⟩
 refine aK (args:=[_]) Tryz.func115 SW (ahi rfl) ?_
 have eS:H.size≠X.b:=by have:=hs.lt; omega
 simp only[go_sem,YC]
 refine ay fun H0 kD kG ID=>?_
 have hA:=wG (hs.ext kG) [110,111,116]
 unfold sv at hA
 simp only[go_sem]
 refine hA.mono ?_
 rintro v H1 ⟨rfl,bY⟩
 have td:=kG.trans bY
 have gK:=hs.ext td
 have Kh:=kD.ext bY
 cases e:aY [110,111,116] ts with
 | false=>
   have hp:fX (bp k) ts=nq (bp k) ts:=by simp only[fX,e,ae6,if_false]
   simp only[go_sem]
   refine adF.use gK (fun e' H' he hf=>⟨e',by rw[hp]; exact he,rfl,(gW td).trans hf⟩) fun n r v H2 he hv jl cQ=>?_
   obtain ⟨cs,rfl,hr⟩:=hv
   obtain ⟨k',t',n',a',iK⟩:=n
   obtain ⟨kv,rfl,jF⟩:=aD.cL hr
   have qS:=Kh.fr cQ (by simpa using eS)
   have:=bY.size
   simp only[go_sem]
   refine aC qS rfl (ax (dp jF)) fun H3 oJ dE yz=>?_
   have tg:=oJ.cell
   simp only[go_sem,tg]
   exact ⟨_,r,by rw[hp]; exact he,⟨_,rfl,aD.nd (aD.fr jF dE (by simp; omega) fun x hx=>by omega)⟩,Ps.on hs jl dE (by simp),((gW td).trans cQ).trans' dE (by simp)⟩
 | true=>
   have hp:fX (bp k) ts=ea (bp k) [110,111,116] (fun x=>bd x.2 fun n=>ret (.mk 33 [] 0 (hd ts).at_ [n])) ts:=by simp only[fX,e,if_true]
   cases k with
   | zero=>
     have hE:=nP gK (s:=[110,111,116]) (.inr rfl)
     unfold sv at hE
     simp only[go_sem]
     refine hE.mono (fun _ _ h=>h.elim) ?_
     rintro ch H2 ⟨rfl,cQ⟩
     rw[e]
     exact ⟨(6,(hd ts).at_),by rw[hp]; exact An e,rfl,(gW td).trans cQ⟩
   | succ j=>
     have hE:=rJ gK e
     unfold sv at hE
     have hj:=hs.He
     simp only[go_sem]
     refine hE.mono ?_
     rintro v H2 ⟨rfl,jl,cQ⟩
     have BN:=(gW td).trans cQ
     have qS:=Kh.fr cQ (by simpa using eS)
     simp only[go_sem]
     refine ay fun H3 oJ dE Oi=>?_
     simp only[go_sem]
     refine aC oJ rfl (ax (t:=[]) rfl) fun H4 yA iO aaY=>?_
     have gm:=gV dE iO
     have hz2:=BN.size
     have hz4:=gm.size
     have D8:H2.size≠X.b:=by have:=jl.lt; omega
     simp only[go_sem]
     refine (I7 j rfl).use (jl.ext gm) (fun e' H' he hf=>⟨e',by rw[hp]; exact (wI e).trans (bN he),rfl,(BN.trans (gW gm)).trans hf⟩) fun n r v H5 he hv D9 fP=>?_
     obtain ⟨cs,rfl,hr⟩:=hv
     have QV:=(BN.trans (gW gm)).trans fP
     have TZ:=((qS.ext gm).fr fP (by simpa using eS))
     have np:=yA.fr fP (by simpa using D8)
     obtain ⟨k',t',n',a',iK⟩:=n
     obtain ⟨kv,rfl,jF⟩:=aD.cL hr
     have hz5:=fP.size
     simp only[go_sem]
     refine db fun H6 gL fB Uc=>?_
     have fm:aD H6 (fun x=>x < H.size∨x=H.size∨x=H2.size) (aW [.mk k' t' n' a' iK]) [.slice (some ⟨H5.size,0,none⟩) 1 1]:=
      aD.Ua (cx:=[_,_,_,_,_]) gL (aD.ext hr fB fun x hx=>.inl (by omega)) rfl (by omega)
     simp only[go_sem]
     refine bL (np.ext fB) (by simp) rfl fun H7 qR fK Ud=>?_
     have Kq:=aD.fr fm fK (B':=fun x=>x < H.size∨x=H.size∨x=H2.size) (by simp) fun x hx=>.inl hx
     have hz1:=bY.size
     have aeU:=cQ.size
     have IH:=fB.size
     have uI:=Ps.on hs (D9.ext fB) fK (by simp; omega)
     have Ki:Fr [X.b] H H7:=(QV.trans (gW fB)).trans' fK (by simp; omega)
     have th:=(TZ.ext fB).fr fK (by simp; omega)
     simp only[go_sem]
     refine (rK uI (by omega)).mono ?_
     rintro v H8 ⟨qu,dy⟩
     have kC:=qR.fr dy (by simpa using D8)
     have Hg:=th.fr dy (by simpa using eS)
     have nB:=kC.cell
     have aaZ:=aD.fr Kq dy (B':=fun x=>x < H.size∨x=H.size) (by simp; have:=hs.lt; omega) fun x hx=>.inl (by omega)
     simp only[go_sem,nB]
     refine aC Hg rfl (ax (t:=[]) rfl) fun H9 pN dB Kk=>?_
     have tH:=pN.cell
     simp only[go_sem,tH]
     refine ⟨.mk 33 [] 0 (hd ts).at_ [.mk k' t' n' a' iK],r,by rw[hp]; exact (wI e).trans (az he),⟨_,rfl,aD.nd (aD.fr aaZ dB (by simp) fun x hx=>by omega)⟩,Ps.on hs qu dB (by simp),(Ki.trans dy).trans' dB (by simp)⟩
set_option maxHeartbeats 2000000 in
theorem yD {k:Nat} {lo:Lo} (hl:tJ lo) (hj:ij k 137 [] (ke lo) jO):ij k 130 [] (nq lo) jO:=by
 refine ⟨fun {X H ts} hs=>?_⟩
 refine aK (args:=[_]) Tryz.func130 SX (ahi rfl) ?_
 have eS:H.size≠X.b:=by have:=hs.lt; omega
 have N6:=hs.lt
 simp only[go_sem,c130]
 refine ay fun H0 kD kG ID=>?_
 simp only[go_sem]
 refine hj.use (hs.ext kG) (fun e H' he hf=>⟨e,bN he,rfl,(gW kG).trans hf⟩) fun n r v H1 he hv gK bY=>?_
 obtain ⟨cs,rfl,Kh⟩:=hv
 obtain ⟨kk,tt,nn,aa,ks⟩:=n
 obtain ⟨kv,rfl,jF⟩:=aD.cL Kh
 have td:=(gW kG).trans bY
 have hz1:=bY.size
 simp only[go_sem]
 refine ay fun H2 ju cQ Kg=>?_
 simp only[go_sem]
 refine aC ju rfl (ax (dp jF)) fun H3 oJ dE Oi=>?_
 have gm:=gV cQ dE
 obtain ⟨bn,hbn⟩:∃ bn,bn=H1.size:=⟨_,rfl⟩
 rw[← hbn] at oJ ⊢
 have Hf:=(kD.fr bY (by simpa using eS)).ext gm
 have hz3:=gm.size
 simp only[go_sem]
 refine kh fun M1 IF Th Ea=>?_
 simp only[go_sem]
 refine ez IF rfl fun M2 nr vv IB=>?_
 simp only[go_sem]
 refine ez nr rfl fun M3 IG QS hw3=>?_
 simp only[go_sem]
 refine ez IG rfl fun M4 hm4 hg4 hw4=>?_
 simp only[go_sem]
 refine ez hm4 rfl fun M5 hm5 hg5 hw5=>?_
 simp only[go_sem]
 refine ez hm5 rfl fun H4 hm6 hg6 hw6=>?_
 have hg:Fr [] H3 H4:=((((Th.trans' vv (by simp)).trans' QS (by simp)).trans' hg4 (by simp)).trans' hg5 (by simp)).trans' hg6 (by simp)
 have tG:=(gK.ext gm).ext hg
 have yA:=oJ.ext hg
 have Q1:=Hf.ext hg
 have Ob:aD H4 (fun x=>x < H0.size∨x=bn) (aW ks) [kv]:=aD.ext (aD.ext jF gm (B':=fun x=>x < H0.size∨x=bn) fun x hx=>by omega) hg fun x hx=>.inl hx
 have Dr:Fr [X.b] H H4:=(td.trans (gW gm)).trans (gW hg)
 have hz4:=hg.size
 obtain ⟨cur,qw⟩:∃ cur,cur=r:=⟨_,rfl⟩
 subst qw
 have z6:nq lo ts=if fE mA cur then bd (ke lo) (fun m=>ret (.mk (eb mA (hd cur).text) [] 0 (hd cur).at_ [.mk kk tt nn aa ks,m])) cur.tail else .ok (.mk kk tt nn aa ks,cur):=by unfold nq; rw[az he]
 simp only[go_sem]
 refine (look_ok tG).mono ?_
 rintro v H5 ⟨rfl,fP⟩
 simp only[go_sem,jD]
 refine ay fun H6 gL fB Uc=>?_
 simp only[go_sem]
 refine aC gL rfl (rI (hd cur)) fun H7 qR fK Ud=>?_
 have p7:=qR.cell
 have ki:=fP.trans (gV fB fK)
 have uI:=tG.ext ki
 have hm7:tK H7 H3.size mA:=hm6.fr ki (by simp)
 simp only[go_sem,p7,sv]
 refine wH hm7 ?_
 have yl:=yA.ext ki
 have th:=Q1.ext ki
 have yB:=aD.ext Ob ki (B':=fun x=>x < H0.size∨x=bn) fun x hx=>.inl hx
 have Ki:=Dr.trans (gW ki)
 have Hh:=ki.size
 have hz5:=fP.size
 by_cases hz:eb mA (hd cur).text=0
 ·have Kj:=yl.cell
  simp only[go_sem,hz,Kj]
  refine aC th rfl (ax (dp yB)) fun H8 kC dy Ue=>?_
  have nB:=kC.cell
  simp only[go_sem,nB]
  refine ⟨.mk kk tt nn aa ks,cur,by rw[z6]; simp[fE,hz],⟨_,rfl,?_⟩,Ps.on hs uI dy (by simp),Ki.trans' dy (by simp)⟩
  exact aD.nd (aD.fr yB dy (by simp; omega) fun x hx=>by omega)
 ·have hA:=hH uI (hd cur).text
  unfold sv at hA
  simp only[go_sem,hz,p7,sv]
  refine hA.mono ?_
  rintro v H8 ⟨rfl,qu,dy⟩
  have Dm:bn≠X.b:=by omega
  have h5x:H5.size≠X.b:=by omega
  have Ef:=yl.fr dy (by simpa using Dm)
  have Hg:=th.fr dy (by simpa using eS)
  have kC:=qR.fr dy (by simpa using h5x)
  have Ee:=aD.fr yB dy (B':=fun x=>x < H0.size∨x=bn) (by simp; omega) fun x hx=>.inl hx
  have yX:=Ki.trans dy
  have Kj:=Ef.cell
  have We:=dy.size
  cases e:aY (hd cur).text cur with
  | false=>
    rw[e] at qu
    simp only[go_sem,Kj]
    refine aC Hg rfl (ax (dp Ee)) fun H9 pN dB Kk=>?_
    have tH:=pN.cell
    simp only[go_sem,tH]
    refine ⟨.mk kk tt nn aa ks,cur,by rw[z6]; simp[fE,e],⟨_,rfl,?_⟩,Ps.on hs qu dB (by simp),yX.trans' dB (by simp)⟩
    exact aD.nd (aD.fr Ee dB (by simp; omega) fun x hx=>by omega)
  | true=>
    rw[e,if_pos rfl] at qu
    have Kl:fE mA cur=true:=by simp[fE,e,hz]
    rw[Kl,if_pos rfl] at z6
    have hcn:=kC.cell
    simp only[go_sem,Kj,hcn]
    refine hj.use qu (fun e' H' s8 fJ=>⟨e',by rw[z6]; exact bN s8,rfl,yX.trans fJ⟩) fun n' r' v H9 s8 BE vf dB=>?_
    obtain ⟨JP,rfl,B2⟩:=BE
    obtain ⟨k',t',n',a',iK⟩:=n'
    obtain ⟨Wd,rfl,aaW⟩:=aD.cL B2
    have yC:=Ef.fr dB (by simpa using Dm)
    have hr9:=Hg.fr dB (by simpa using eS)
    have pN:=kC.fr dB (by simpa using h5x)
    have hk9:=aD.fr Ee dB (B':=fun x=>x < H0.size∨x=bn) (by simp; omega) fun x hx=>.inl hx
    have Q2:=yX.trans dB
    have Km:=yC.cell
    have Uf:=pN.cell
    have hz9:=dB.size
    simp only[go_sem,Km,Uf]
    refine db fun kb nN dK Kn=>?_
    have fm:aD kb (fun x=>x < H0.size∨x=bn) (aW [.mk kk tt nn aa ks,.mk k' t' n' a' iK]) [.slice (some ⟨H9.size,0,none⟩) 2 2]:=by
     refine aD.Ub (cx:=[_,_,_,_,_]) (cy:=[_,_,_,_,_]) nN (aD.nd (aD.ext hk9 dK fun x hx=>.inl hx)) (aD.ext B2 dK fun x hx=>.inl ?_) rfl rfl (by omega)
     omega
    have Ko:=(pN.ext dK).cell
    simp only[go_sem,Ko]
    refine aC (hr9.ext dK) rfl (ax (t:=[]) rfl) fun qx El nR Kp=>?_
    have adG:=El.cell
    simp only[go_sem,adG]
    refine ⟨.mk (eb mA (hd cur).text) [] 0 (hd cur).at_ [.mk kk tt nn aa ks,.mk k' t' n' a' iK],r',by rw[z6]; exact az s8,⟨_,rfl,aD.nd ?_⟩,Ps.on hs (vf.ext dK) nR (by simp),(Q2.trans (gW dK)).trans' nR (by simp)⟩
    exact aD.fr fm nR (by simp; omega) fun x hx=>by omega
set_option maxHeartbeats 2000000 in
theorem yE {k:Nat} (hex:∀ j,k=j + 1→ij j 28 [] (mB j).1 jO) (hor:ij k 55 [] (Kc (bp k)) jO):ij k 28 [] (aJ (bp k)) jO:=by
 refine ⟨fun {X H ts} hs=>?_⟩
 refine aK (args:=[_]) Tryz.func28 XW (ahi rfl) ?_
 have eS:H.size≠X.b:=by have:=hs.lt; omega
 have N6:=hs.lt
 simp only[go_sem,c28]
 refine ay fun H0 kD kG ID=>?_
 have hA:=wG (hs.ext kG) [105,102]
 unfold sv at hA
 simp only[go_sem]
 refine hA.mono ?_
 rintro v H1 ⟨rfl,bY⟩
 have td:=kG.trans bY
 have gK:=hs.ext td
 have Kh:=kD.ext bY
 have hz1:=bY.size
 cases e:aY [105,102] ts with
 | false=>
   have hp:aJ (bp k) ts=Kc (bp k) ts:=by simp only[aJ,e,ae6,if_false]
   simp only[go_sem]
   refine hor.use gK (fun e' H' he hf=>⟨e',by rw[hp]; exact he,rfl,(gW td).trans hf⟩) fun n r v H2 he hv jl cQ=>?_
   obtain ⟨cs,rfl,hr⟩:=hv
   obtain ⟨k',t',n',a',iK⟩:=n
   obtain ⟨kv,rfl,jF⟩:=aD.cL hr
   have qS:=Kh.fr cQ (by simpa using eS)
   simp only[go_sem]
   refine aC qS rfl (ax (dp jF)) fun H3 oJ dE yz=>?_
   have tg:=oJ.cell
   simp only[go_sem,tg]
   exact ⟨_,r,by rw[hp]; exact he,⟨_,rfl,aD.nd (aD.fr jF dE (by simp; omega) fun x hx=>by omega)⟩,Ps.on hs jl dE (by simp),((gW td).trans cQ).trans' dE (by simp)⟩
 | true=>
   have hp:aJ (bp k) ts=ea (bp k) [105,102] (fun x=>bd x.1 fun a=>bd (aU [116,104,101,110]) fun _=>bd x.1 fun b=>bd (aU [101,108,115,101]) fun _=>bd x.1 fun c=>ret (.mk 30 [] 0 (hd ts).at_ [a,b,c])) ts:=by simp only[aJ,e,if_true]
   cases k with
   | zero=>
     have hE:=nP gK (s:=[105,102]) (.inr rfl)
     unfold sv at hE
     simp only[go_sem]
     refine hE.mono (fun _ _ h=>h.elim) ?_
     rintro ch H2 ⟨rfl,cQ⟩
     rw[e]
     exact ⟨(6,(hd ts).at_),by rw[hp]; exact An e,rfl,(gW td).trans cQ⟩
   | succ j=>
     have hE:=rJ gK e
     unfold sv at hE
     have hj:=hs.He
     have hx:=hex j rfl
     have qQ:aJ (bp (j + 1)) ts=_:=hp.trans (wI e)
     simp only[go_sem]
     refine hE.mono ?_
     rintro v H2 ⟨rfl,jl,cQ⟩
     have BN:=(gW td).trans cQ
     have qS:=Kh.fr cQ (by simpa using eS)
     have hz2:=cQ.size
     simp only[go_sem]
     refine ay fun H3 oJ dE Oi=>?_
     simp only[go_sem]
     refine aC oJ rfl (ax (t:=[]) rfl) fun H4 yA iO aaY=>?_
     have gm:=gV dE iO
     have hz4:=gm.size
     have D8:H2.size≠X.b:=by omega
     have Dr:=BN.trans (gW gm)
     simp only[go_sem]
     refine hx.use (jl.ext gm) (fun e' H' he hf=>⟨e',by rw[qQ]; exact bN he,rfl,Dr.trans hf⟩) fun n1 r1 v H5 he1 hv D9 fP=>?_
     rw[az he1] at qQ
     obtain ⟨cs,rfl,hra⟩:=hv
     have QV:=Dr.trans fP
     have TZ:=((qS.ext gm).fr fP (by simpa using eS))
     have np:=yA.fr fP (by simpa using D8)
     obtain ⟨k1,t1,n1,a1,ks1⟩:=n1
     obtain ⟨mD,rfl,adH⟩:=aD.cL hra
     have hz5:=fP.size
     simp only[go_sem]
     refine ay fun H6 gL fB Uc=>?_
     simp only[go_sem]
     refine aC gL rfl (ax (dp adH)) fun H7 qR fK Ud=>?_
     have ki:=gV fB fK
     have Hh:=ki.size
     have hx5:H5.size≠X.b:=by omega
     simp only[go_sem]
     refine (bj [116,104,101,110]).use (D9.ext ki) (fun e' H' he hf=>⟨e',by rw[qQ]; exact bN he,rfl,(QV.trans (gW ki)).trans hf⟩) fun _ r2 v H8 Wc hv qu dy=>?_
     rw[az Wc] at qQ
     have yX:=(QV.trans (gW ki)).trans dy
     have We:=dy.size
     simp only[go_sem]
     refine hx.use qu (fun e' H' he hf=>⟨e',by rw[qQ]; exact bN he,rfl,yX.trans hf⟩) fun n2 r3 v H9 he3 hv vf dB=>?_
     rw[az he3] at qQ
     obtain ⟨cs,rfl,hrb⟩:=hv
     have Q2:=yX.trans dB
     obtain ⟨k2,t2,n2,a2,ks2⟩:=n2
     obtain ⟨kv2,rfl,adI⟩:=aD.cL hrb
     have hz9:=dB.size
     simp only[go_sem]
     refine ay fun kb nN dK Kn=>?_
     simp only[go_sem]
     refine aC nN rfl (ax (dp adI)) fun qx El nR Kp=>?_
     have rN:=gV dK nR
     have aeV:=rN.size
     have hx9:H9.size≠X.b:=by omega
     simp only[go_sem]
     refine (bj [101,108,115,101]).use (vf.ext rN) (fun e' H' he hf=>⟨e',by rw[qQ]; exact bN he,rfl,(Q2.trans (gW rN)).trans hf⟩) fun _ r4 v vg he4 hv Uj iP=>?_
     rw[az he4] at qQ
     have aa0:=(Q2.trans (gW rN)).trans iP
     have adJ:=iP.size
     have aa1:=((((qR.fr dy (by simpa using hx5)).fr dB (by simpa using hx5)).ext rN).fr iP (by simpa using hx5))
     have aa2:=El.fr iP (by simpa using hx9)
     have cA:=aa1.cell
     have cB:=aa2.cell
     simp only[go_sem,cA,cB]
     refine hx.use Uj (fun e' H' he hf=>⟨e',by rw[qQ]; exact bN he,rfl,aa0.trans hf⟩) fun n3 r5 v tL he5 hv Uk rO=>?_
     rw[az he5] at qQ
     obtain ⟨cs,rfl,hrc⟩:=hv
     have adK:=aa0.trans rO
     obtain ⟨k3,t3,n3,a3,ks3⟩:=n3
     obtain ⟨kv3,rfl,aeW⟩:=aD.cL hrc
     have adL:=rO.size
     have adM:=(aa1.fr rO (by simpa using hx5)).cell
     have adN:=(aa2.fr rO (by simpa using hx9)).cell
     have Wf:∀ {A B:Heap},Fr [X.b] A B→∀ x ∈ [X.b],x < H.size∨x=H.size∨x=H2.size:=fun _ x hx=>by simp at hx; omega
     have gA:aD tL (fun x=>x < H.size∨x=H.size∨x=H2.size) (Nd.fD (.mk k1 t1 n1 a1 ks1)) [.int .i64 k1,sv t1,.int .i64 n1,.int .i64 a1,mD]:=by
      have q7:=aD.ext hra ki (B':=fun x=>x < H.size∨x=H.size∨x=H2.size) fun x hx=>.inl (by omega)
      have q8:=aD.fr q7 dy (B':=fun x=>x < H.size∨x=H.size∨x=H2.size) (fun x hx=>.inl (Wf dy x hx)) fun x hx=>.inl hx
      have q9:=aD.fr q8 dB (B':=fun x=>x < H.size∨x=H.size∨x=H2.size) (fun x hx=>.inl (Wf dy x hx)) fun x hx=>.inl hx
      have q11:=aD.ext q9 rN (B':=fun x=>x < H.size∨x=H.size∨x=H2.size) fun x hx=>.inl hx
      have q12:=aD.fr q11 iP (B':=fun x=>x < H.size∨x=H.size∨x=H2.size) (fun x hx=>.inl (Wf dy x hx)) fun x hx=>.inl hx
      exact aD.fr q12 rO (fun x hx=>.inl (Wf dy x hx)) fun x hx=>.inl hx
     have gB:aD tL (fun x=>x < H.size∨x=H.size∨x=H2.size) (Nd.fD (.mk k2 t2 n2 a2 ks2)) [.int .i64 k2,sv t2,.int .i64 n2,.int .i64 a2,kv2]:=by
      have q11:=aD.ext hrb rN (B':=fun x=>x < H.size∨x=H.size∨x=H2.size) fun x hx=>.inl (by omega)
      have q12:=aD.fr q11 iP (B':=fun x=>x < H.size∨x=H.size∨x=H2.size) (fun x hx=>.inl (Wf dy x hx)) fun x hx=>.inl hx
      exact aD.fr q12 rO (fun x hx=>.inl (Wf dy x hx)) fun x hx=>.inl hx
     simp only[go_sem,adM,adN]
     refine db fun Q3 adO Eo aeI=>?_
     have fm:aD Q3 (fun x=>x < H.size∨x=H.size∨x=H2.size) (aW [.mk k1 t1 n1 a1 ks1,.mk k2 t2 n2 a2 ks2,.mk k3 t3 n3 a3 ks3]) [.slice (some ⟨tL.size,0,none⟩) 3 3]:=by
      refine aD.adD (cx:=[_,_,_,_,_]) (cy:=[_,_,_,_,_]) (cz:=[_,_,_,_,_]) adO (aD.ext gA Eo fun x hx=>.inl hx) (aD.ext gB Eo fun x hx=>.inl hx) (aD.ext hrc Eo fun x hx=>.inl (by omega)) rfl rfl rfl (by omega)
     have aa3:=(((((np.ext ki).fr dy (by simpa using D8)).fr dB (by simpa using D8)).ext rN).fr iP (by simpa using D8)).fr rO (by simpa using D8)
     have adP:=(((((TZ.ext ki).fr dy (by simpa using eS)).fr dB (by simpa using eS)).ext rN).fr iP (by simpa using eS)).fr rO (by simpa using eS)
     simp only[go_sem]
     refine bL (aa3.ext Eo) (by simp) rfl fun Om adQ Ov aeJ=>?_
     have Ul:=aD.fr fm Ov (B':=fun x=>x < H.size∨x=H.size∨x=H2.size) (by simp) fun x hx=>.inl hx
     have adR:=Ps.on hs (Uk.ext Eo) Ov (by simp; omega)
     have adS:Fr [X.b] H Om:=(adK.trans (gW Eo)).trans' Ov (by simp; omega)
     have adT:=(adP.ext Eo).fr Ov (by simp; omega)
     simp only[go_sem]
     refine (rK adR (by omega)).mono ?_
     rintro v Wh ⟨adU,Ow⟩
     have Ep:=adQ.fr Ow (by simpa using D8)
     have adV:=adT.fr Ow (by simpa using eS)
     have adW:=Ep.cell
     have Um:=aD.fr Ul Ow (B':=fun x=>x < H.size∨x=H.size) (by simp; omega) fun x hx=>.inl (by omega)
     simp only[go_sem,adW]
     refine aC adV rfl (ax (t:=[]) rfl) fun Wi Un Uo aeK=>?_
     have adX:=Un.cell
     simp only[go_sem,adX]
     refine ⟨.mk 30 [] 0 (hd ts).at_ [.mk k1 t1 n1 a1 ks1,.mk k2 t2 n2 a2 ks2,.mk k3 t3 n3 a3 ks3],r5,by rw[qQ]; rfl,⟨_,rfl,aD.nd (aD.fr Um Uo (by simp) fun x hx=>by omega)⟩,Ps.on hs adU Uo (by simp),(adS.trans Ow).trans' Uo (by simp)⟩
set_option maxHeartbeats 4000000 in
theorem Er {k:Nat} (hex:∀ j,k=j + 1→ij j 28 [] (mB j).1 jO) (aa4:ij k 158 [] (dZ (bp k)) jO):ij k 156 [] (kN (bp k)) jO:=by
 refine ⟨fun {X H ts} hs=>?_⟩
 refine aK (args:=[_]) Tryz.func156 Ta (ahi rfl) ?_
 have N6:=hs.lt
 have eS:H.size≠X.b:=by omega
 simp only[go_sem,c156]
 refine ay fun H0 kD kG ID=>?_
 simp only[go_sem]
 refine aa4.use (hs.ext kG) (fun e H' he hf=>⟨e,bN he,rfl,(gW kG).trans hf⟩) fun n r v H1 he hv gK bY=>?_
 obtain ⟨cs,rfl,Kh⟩:=hv
 obtain ⟨kk,tt,nn,aa,ks⟩:=n
 obtain ⟨kv,rfl,jF⟩:=aD.cL Kh
 have td:=(gW kG).trans bY
 simp only[go_sem]
 refine ay fun H2 ju cQ Kg=>?_
 simp only[go_sem]
 refine aC ju rfl (ax (dp jF)) fun H3 oJ dE Oi=>?_
 have gm:=gV cQ dE
 obtain ⟨bn,hbn⟩:∃ bn,bn=H1.size:=⟨_,rfl⟩
 rw[← hbn] at oJ ⊢
 have adE:=bY.size
 have Hf:=(kD.fr bY (by simpa using eS)).ext gm
 simp only[go_sem]
 refine bC (fun (s:Nd × List Tk × Value) H'=>∃ f,s.2.1.length≤f∧kN (bp k) ts=dC (bp k) f s.1 s.2.1∧Ps X H' s.2.1 k∧Fr [X.b] H H'∧H3.size≤H'.size∧eg H' H.size 24 [.int .i64 0,sv [],.int .i64 0,.int .i64 0,.slice none 0 0]∧
  ∃ kk tt nn aa ks,s.1= .mk kk tt nn aa ks∧eg H' bn 24 [.int .i64 kk,sv tt,.int .i64 nn,.int .i64 aa,s.2.2]∧aD H' (fun x=>x < H0.size∨x=bn) (aW ks) [s.2.2])
  (fun s=>[(0,ptr X.b),(2,.pointer (some ⟨H.size,0,none⟩)),(3,.pointer (some ⟨bn,0,none⟩))]) (fun s=>s.2.1.length) (.mk kk tt nn aa ks,r,kv) ?_ ?_ ?_
 ·refine ⟨r.length,afJ _,by unfold kN; rw[az he],gK.ext gm,td.trans (gW gm),afJ _,Hf,kk,tt,nn,aa,ks,rfl,oJ,?_⟩
  exact jF.ext gm fun x hx=>by omega
 ·simp only[go_sem]
 ·rintro ⟨n,cur,kv⟩ H4 ⟨f,hf,B1,tG,Dr,hz4,Q1,kk,tt,nn,aa,ks,rfl,G9,Ob⟩
  simp only at hf B1 tG Dr G9 Ob ⊢
  have aaV:=dE.size
  have qw:=aho.2 tG.nil
  have hct:cur.tail.length=cur.length - 1:=by simp
  obtain ⟨f,rfl⟩:∃ f',f=f' + 1:=⟨f - 1,by omega⟩
  have Dm:bn≠X.b:=by omega
  simp only[go_sem]
  refine (look_ok tG).mono ?_
  rintro v H5 ⟨rfl,fP⟩
  have hA:=hH (tG.ext fP) [46]
  unfold sv at hA
  simp only[go_sem,jD]
  refine hA.mono ?_
  rintro v H6 ⟨rfl,BW,fB⟩
  have M8:=(G9.ext fP).fr fB (by simpa using Dm)
  have lg:=(Q1.ext fP).fr fB (by simpa using eS)
  have hz5:=fP.size
  have IH:=fB.size
  have Eb:=aD.fr (aD.ext Ob fP (B':=fun x=>x < H0.size∨x=bn) fun x hx=>.inl hx) fB (B':=fun x=>x < H0.size∨x=bn) (by simp; omega) fun x hx=>.inl hx
  have IC:=(Dr.trans (gW fP)).trans fB
  have Kj:=M8.cell
  cases e:aY [46] cur with
  | true=>
    rw[e,if_pos rfl] at BW
    have eZ:dC (bp k) (f + 1) (.mk kk tt nn aa ks) cur=bd (cK 1) (fun t=>dC (bp k) f (.mk 42 t.text 0 (hd cur).at_ [.mk kk tt nn aa ks])) cur.tail:=by simp only[dC,e,if_true]
    simp only[go_sem,Kj]
    refine ⟨?_,?_⟩
    ·refine (iy 1 (by decide)).use BW (fun e' H' s8 fJ=>⟨e',by rw[B1,eZ]; exact bN s8,rfl,IC.trans fJ⟩) fun t r' v H7 s8 hv uI fK=>?_
     cases hv
     have yl:=M8.fr fK (by simpa using Dm)
     have th:=lg.fr fK (by simpa using eS)
     have Hh:=fK.size
     have yB:=aD.fr Eb fK (B':=fun x=>x < H0.size∨x=bn) (by simp; omega) fun x hx=>.inl hx
     have Kr:=yl.cell
     simp only[go_sem,jD,Kr]
     refine db fun H8 kC dy Ue=>?_
     have fm:aD H8 (fun x=>x < H0.size∨x=bn) (aW [.mk kk tt nn aa ks]) [.slice (some ⟨H7.size,0,none⟩) 1 1]:=
      aD.Ua (cx:=[_,_,_,_,_]) kC (aD.nd (aD.ext yB dy fun x hx=>.inl hx)) rfl (by omega)
     simp only[go_sem,sv]
     refine aC (yl.ext dy) rfl (ax rfl) fun H9 pN dB Kk=>?_
     simp only[go_sem]
     have hle:=(eR 1).of s8
     refine aj (.mk 42 t.text 0 (hd cur).at_ [.mk kk tt nn aa ks],r',.slice (some ⟨H7.size,0,none⟩) 1 1) ?_ ?_ ?_
     ·show r'.length < cur.length
      omega
     ·simp only[go_sem]
     ·refine ⟨f,show r'.length≤f by omega,by rw[B1,eZ]; exact az s8,Ps.on hs (uI.ext dy) dB (by simp; omega),((IC.trans fK).trans (gW dy)).trans' dB (by simp; omega),by omega,(th.ext dy).fr dB (by simp; omega),_,_,_,_,_,rfl,pN,?_⟩
      exact aD.fr fm dB (by simp) fun x hx=>.inl hx
    ·refine db fun H8 kC dy Ue=>?_
     have fm:aD H8 (fun x=>x < H0.size∨x=bn) (aW [.mk kk tt nn aa ks]) [.slice (some ⟨H6.size,0,none⟩) 1 1]:=
      aD.Ua (cx:=[_,_,_,_,_]) kC (aD.nd (aD.ext Eb dy fun x hx=>.inl hx)) rfl (by omega)
     have Ef:=M8.ext dy
     have Up:=Ef.cell
     simp only[go_sem,Up]
     refine (iy 1 (by decide)).use (BW.ext dy) (fun e' H' s8 fJ=>⟨e',by rw[B1,eZ]; exact bN s8,rfl,(IC.trans (gW dy)).trans fJ⟩) fun t r' v H7 s8 hv uI fK=>?_
     cases hv
     have yl:=Ef.fr fK (by simpa using Dm)
     have th:=(lg.ext dy).fr fK (by simpa using eS)
     have Hh:=fK.size
     have Kq:=aD.fr fm fK (B':=fun x=>x < H0.size∨x=bn) (by simp; omega) fun x hx=>.inl hx
     have Kr:=yl.cell
     simp only[go_sem,jD,Kr,sv]
     refine aC yl rfl (ax rfl) fun H9 pN dB Kk=>?_
     simp only[go_sem]
     have hle:=(eR 1).of s8
     refine aj (.mk 42 t.text 0 (hd cur).at_ [.mk kk tt nn aa ks],r',.slice (some ⟨H6.size,0,none⟩) 1 1) ?_ ?_ ?_
     ·show r'.length < cur.length
      omega
     ·simp only[go_sem]
     ·refine ⟨f,show r'.length≤f by omega,by rw[B1,eZ]; exact az s8,Ps.on hs uI dB (by simp; omega),((IC.trans (gW dy)).trans fK).trans' dB (by simp; omega),by omega,th.fr dB (by simp; omega),_,_,_,_,_,rfl,pN,?_⟩
      exact aD.fr Kq dB (by simp) fun x hx=>.inl hx
  | false=>
    rw[e,if_neg (by decide)] at BW
    have hI:=wG BW [91]
    unfold sv at hI
    simp only[go_sem]
    refine hI.mono ?_
    rintro v H7 ⟨rfl,fK⟩
    have yl:=M8.ext fK
    have th:=lg.ext fK
    have yB:=aD.ext Eb fK (B':=fun x=>x < H0.size∨x=bn) fun x hx=>.inl hx
    have uI:=BW.ext fK
    have Ki:=IC.trans (gW fK)
    have Hh:=fK.size
    have Kr:=yl.cell
    cases e2:aY [91] cur with
    | false=>
      simp only[go_sem,Kr]
      refine aC th rfl (ax (dp yB)) fun H9 pN dB Kk=>?_
      have tH:=pN.cell
      simp only[go_sem,tH]
      refine ⟨.mk kk tt nn aa ks,cur,by rw[B1]; simp[dC,e,e2],⟨_,rfl,?_⟩,Ps.on hs uI dB (by simp),Ki.trans' dB (by simp)⟩
      exact aD.nd (aD.fr yB dB (by simp; omega) fun x hx=>by omega)
    | true=>
      have eZ:dC (bp k) (f + 1) (.mk kk tt nn aa ks) cur=ea (bp k) [91] (fun x=>bd x.1 fun m=>bd (aU [93]) fun _=>dC (bp k) f (.mk 43 [] 0 (hd cur).at_ [.mk kk tt nn aa ks,m])) cur:=by simp only[dC,e,e2,if_true,ae6,if_false]
      cases k with
      | zero=>
        have hE:=nP uI (s:=[91]) (.inr rfl)
        unfold sv at hE
        simp only[go_sem]
        refine hE.mono (fun _ _ h=>h.elim) ?_
        rintro ch H8 ⟨rfl,dy⟩
        rw[e2]
        exact ⟨(6,(hd cur).at_),by rw[B1,eZ]; exact An e2,rfl,Ki.trans dy⟩
      | succ j=>
        have hE:=rJ uI e2
        unfold sv at hE
        have hj:=hs.He
        have qQ:=(B1.trans eZ).trans (wI (x:=mB j) e2)
        simp only[go_sem]
        refine hE.mono ?_
        rintro v H8 ⟨rfl,qu,dy⟩
        have Ef:=yl.fr dy (by simpa using Dm)
        have Hg:=th.fr dy (by simpa using eS)
        have We:=dy.size
        have Ee:=aD.fr yB dy (B':=fun x=>x < H0.size∨x=bn) (by simp; omega) fun x hx=>.inl hx
        have yX:=Ki.trans dy
        have Up:=Ef.cell
        simp only[go_sem,Up]
        refine (hex j rfl).use qu (fun e' H' s8 fJ=>⟨e',by rw[qQ]; exact bN s8,rfl,yX.trans fJ⟩) fun n' r' v H9 s8 BE vf dB=>?_
        rw[az s8] at qQ
        obtain ⟨JP,rfl,B2⟩:=BE
        obtain ⟨k',t',n',a',iK⟩:=n'
        obtain ⟨Wd,rfl,aaW⟩:=aD.cL B2
        have yC:=Ef.fr dB (by simpa using Dm)
        have hr9:=Hg.fr dB (by simpa using eS)
        have hz9:=dB.size
        have hk9:=aD.fr Ee dB (B':=fun x=>x < H0.size∨x=bn) (by simp; omega) fun x hx=>.inl hx
        have Q2:=yX.trans dB
        have Km:=yC.cell
        simp only[go_sem,Km]
        refine db fun kb nN dK Kn=>?_
        have fm:aD kb (fun x=>x < H0.size∨x=bn) (aW [.mk kk tt nn aa ks,.mk k' t' n' a' iK]) [.slice (some ⟨H9.size,0,none⟩) 2 2]:=by
         refine aD.Ub (cx:=[_,_,_,_,_]) (cy:=[_,_,_,_,_]) nN (aD.nd (aD.ext hk9 dK fun x hx=>.inl hx)) (aD.ext B2 dK fun x hx=>.inl ?_) rfl rfl (by omega)
         omega
        simp only[go_sem]
        refine aC (yC.ext dK) rfl (ax (t:=[]) rfl) fun qx El nR Kp=>?_
        have Uq:=aD.fr fm nR (B':=fun x=>x < H0.size∨x=bn) (by simp) fun x hx=>.inl hx
        have adY:=Ps.on hs (vf.ext dK) nR (by simp; omega)
        have aa5:Fr [X.b] H qx:=(Q2.trans (gW dK)).trans' nR (by simp; omega)
        have adZ:=(hr9.ext dK).fr nR (by simp; omega)
        simp only[go_sem]
        refine (bj [93]).use adY (fun e' H' he hf=>⟨e',by rw[qQ]; exact bN he,rfl,aa5.trans hf⟩) fun _ r2 v vg Wc hv Uj iP=>?_
        rw[az Wc] at qQ
        have adJ:=iP.size
        simp only[go_sem]
        refine (rK Uj (by omega)).mono ?_
        rintro v tL ⟨Uk,rO⟩
        have adL:=rO.size
        simp only[go_sem]
        have hle:=(Al j).1.of s8
        have N5:=(bG _).of Wc
        have Ur:=aD.fr Uq iP (B':=fun x=>x < H0.size∨x=bn) (by simp; omega) fun x hx=>.inl hx
        refine aj (.mk 43 [] 0 (hd cur).at_ [.mk kk tt nn aa ks,.mk k' t' n' a' iK],r2,.slice (some ⟨H9.size,0,none⟩) 2 2) ?_ ?_ ?_
        ·show r2.length < cur.length
         omega
        ·simp only[go_sem]
        ·refine ⟨f,show r2.length≤f by omega,qQ,Uk,(aa5.trans iP).trans rO,by omega,(adZ.fr iP (by simpa using eS)).fr rO (by simpa using eS),_,_,_,_,_,rfl,(El.fr iP (by simpa using Dm)).fr rO (by simpa using Dm),?_⟩
         exact aD.fr Ur rO (by simp; omega) fun x hx=>.inl hx
end Go.Proofs.YtmhdkbmnpekpoaaGreatDoor
namespace Gx
open Go
inductive dR where
 | dz (b t:Nat) (cs:List Value)
 | row (e m:Nat) (v:Value) (ds:List iH) (g:Option Nat)
def dR.bs:dR→List Nat
 | .dz b _ _=>[b]
 | .row _ _ _ _ g=>g.toList
def Lk (N:Nat) (O:List Nat) (l:List dR):Nat→Prop:=fun x=>x < N∨x ∈ O∨x ∈ l.flatMap dR.bs
def dR.ok (H:Heap) (B:Nat→Prop):dR→Prop
 | .dz b t cs=>eg H b t cs
 | .row e m v ds g=>vd H B e m v ds g
structure Lv (O0:List Nat) (H0:Heap) (O:List Nat) (S:Heap→Prop) (H:Heap) (l:List dR) (ds:List (iH × List Value)):Prop where
 fr:Fr O0 H0 H
 own:∀ x ∈ O,x < H.size∧(x ∈ O0∨H0.size≤x)
 nd:(l.flatMap dR.bs).Nodup
 lo:∀ x ∈ l.flatMap dR.bs,H0.size≤x∧x ∉ O∧x < H.size
 ok:∀ p ∈ l,p.ok H (Lk H0.size O l)
 fD:∀ p ∈ ds,aD H (Lk H0.size O l) p.1 p.2
 Ox:∀ (M:List Nat) (H':Heap),Fr M H H'→(∀ x ∈ M,H0.size≤x∧x ∉ O)→S H'
section
variable {O0 O O' M:List Nat} {b t e m:Nat} {v:Value} {cs:List Value} {dl:List iH} {g:Option Nat} {S S':Heap→Prop} {H0 H H':Heap} {l l':List dR} {ds:List (iH × List Value)}
theorem Lv.st (L:Lv O0 H0 O S H l ds):S H:=L.Ox [] H (Fr.refl _ _) (by simp)
theorem Lv.start (hO:∀ x ∈ O,x < H.size) (hS:∀ (M:List Nat) (H':Heap),Fr M H H'→(∀ x ∈ M,H.size≤x∧x ∉ O)→S H'):Lv O H O S H [] []:=
 ⟨Fr.refl _ _,fun x hx=>⟨hO x hx,.inl hx⟩,by simp,by simp,by simp,by simp,hS⟩
theorem dR.mE {e:dR} {B B':Nat→Prop} (h:e.ok H B) (hf:Fr M H H') (hm:∀ x ∈ M,B x∨H.size≤x) (hg:∀ x ∈ e.bs,x ∉ M) (hb:∀ x,B' x→B x∨H.size≤x):e.ok H' B':=by
 cases e with
 | dz b t cs=>exact eg.fr h hf (hg b (by simp[dR.bs]))
 | row e m v ds g=>exact vd.fr h hf hm (fun b hb=>hg b (by simp[dR.bs,hb])) hb
theorem dR.lt {e:dR} {B:Nat→Prop} (h:e.ok H B):∀ x ∈ e.bs,x < H.size:=by
 cases e with
 | dz b t cs=>intro x hx; simp[dR.bs] at hx; subst hx; exact eg.lt h
 | row e m v ds g=>intro x hx; simp[dR.bs] at hx; exact vd.lt h hx
theorem Lv.step (L:Lv O0 H0 O S H l ds) (hf:Fr M H H') (hM:∀ x ∈ M,x ∈ O∨H.size≤x) (hO:∀ x ∈ O',x < H'.size∧(x ∈ O∨H.size≤x))
 (hS:∀ (M:List Nat) (nA:Heap),Fr M H' nA→(∀ x ∈ M,H0.size≤x∧x ∉ O')→S' nA):Lv O0 H0 O' S' H' l ds:=by
 have dO:=L.fr.size
 have hn:∀ p ∈ l,∀ x ∈ p.bs,x ∉ M:=fun p hp x hx hm=>by
  obtain ⟨_,h2,h3⟩:=L.lo x (ahA.2 ⟨p,hp,hx⟩)
  rcases hM x hm with q | q
  ·exact h2 q
  ·omega
 have hm:∀ x ∈ M,Lk H0.size O l x∨H.size≤x:=fun x hx=>(hM x hx).imp (fun q=>.inr (.inl q)) id
 have hb:∀ x,Lk H0.size O' l x→Lk H0.size O l x∨H.size≤x:=by
  rintro x (q | q | q)
  ·exact .inl (.inl q)
  ·exact (hO x q).2.imp (fun q=>.inr (.inl q)) id
  ·exact .inl (.inr (.inr q))
 refine ⟨L.fr.trans' hf fun x hx=>?_,fun x hx=>⟨(hO x hx).1,?_⟩,L.nd,fun x hx=>?_,fun p hp=>dR.mE (L.ok p hp) hf hm (hn p hp) hb,fun p hp=>aD.fr (L.fD p hp) hf hm hb,hS⟩
 ·rcases hM x hx with q | q
  ·exact (L.own x q).2
  ·exact .inr (by omega)
 ·rcases (hO x hx).2 with q | q
  ·exact (L.own x q).2
  ·exact .inr (by omega)
 ·obtain ⟨h1,h2,h3⟩:=L.lo x hx
  refine ⟨h1,fun q=>?_,afS h3 hf.size⟩
  rcases (hO x q).2 with q | q
  ·exact h2 q
  ·omega
theorem Lv.tM (L:Lv O0 H0 O S H l ds) (hf:Fr M H H') (hM:∀ x ∈ M,H0.size≤x∧x ∉ O):∀ (M':List Nat) (nA:Heap),Fr M' H' nA→(∀ x ∈ M',H0.size≤x∧x ∉ O)→S nA:=fun M' nA fJ hM'=>by
 refine L.Ox (M ++ M') nA ?_ fun x hx=>(ahu.1 hx).elim (hM x) (hM' x)
 exact (hf.mono fun x hx=>.inl (by simp[hx])).trans (fJ.mono fun x hx=>.inl (by simp[hx]))
theorem Lv.ext (L:Lv O0 H0 O S H l ds) (hf:Fr [] H H'):Lv O0 H0 O S H' l ds:=
 L.step hf (by simp) (fun x hx=>⟨afS (L.own x hx).1 hf.size,.inl hx⟩) (L.tM hf (by simp))
theorem Lv.call (L:Lv O0 H0 O S H l ds) (hf:Fr O H H') (hS:∀ (M:List Nat) (nA:Heap),Fr M H' nA→(∀ x ∈ M,H0.size≤x∧x ∉ O)→S' nA):Lv O0 H0 O S' H' l ds:=
 L.step hf (fun x hx=>.inl hx) (fun x hx=>⟨afS (L.own x hx).1 hf.size,.inl hx⟩) hS
theorem Lv.push (L:Lv O0 H0 O S H l ds) {t:Nat} {cs:List Value} (hf:Fr [] H H') (hn:eg H' H.size t cs):Lv O0 H0 O S H' (.dz H.size t cs :: l) ds:=by
 have dO:=L.fr.size
 have hb:∀ x,Lk H0.size O (.dz H.size t cs :: l) x→Lk H0.size O l x∨H.size≤x:=by
  rintro x (q | q | q)
  ·exact .inl (.inl q)
  ·exact .inl (.inr (.inl q))
  ·simp only[afN,dR.bs,ahm,ahv,afa] at q
   rcases q with rfl | q
   ·exact .inr (afJ _)
   ·exact .inl (.inr (.inr q))
 have ba:=hn.lt
 refine ⟨L.fr.trans' hf (by simp),fun x hx=>⟨afS (L.own x hx).1 hf.size,(L.own x hx).2⟩,?_,fun x hx=>?_,fun p hp=>?_,fun p hp=>aD.fr (L.fD p hp) hf (by simp) hb,L.tM hf (by simp)⟩
 ·simp only[afN,dR.bs,ahm,ahv,ahT]
  exact ⟨fun q=>by have:=(L.lo _ q).2.2; omega,L.nd⟩
 ·simp only[afN,dR.bs,ahm,ahv,afa] at hx
  rcases hx with rfl | hx
  ·exact ⟨dO,fun q=>by have:=(L.own _ q).1; omega,ba⟩
  ·obtain ⟨h1,h2,h3⟩:=L.lo x hx
   exact ⟨h1,h2,by omega⟩
 ·rcases afa.1 hp with rfl | hp
  ·exact hn
  ·exact dR.mE (L.ok p hp) hf (by simp) (by simp) hb
theorem Lv.aS (L:Lv O0 H0 O S H l ds) {t:Nat} {cs:List Value} {R:Value→Heap→Prop} (h:∀ b H',Lv O0 H0 O S H' (.dz b t cs :: l) ds→R (.pointer (some ⟨b,0,none⟩)) H'):GS H t cs R:=
 ay fun H' hn hf _=>h _ H' (L.push hf hn)
theorem Lv.bc (L:Lv O0 H0 O S H l ds) {t n:Nat} {cs:List Value} {R:Value→Heap→Prop} (h:∀ b H',Lv O0 H0 O S H' (.dz b t cs :: l) ds→R (.slice (some ⟨b,0,none⟩) n n) H'):GU H t n cs R:=
 db fun H' hn hf _=>h _ H' (L.push hf hn)
theorem Lv.Us (L:Lv O0 H0 O S H l ds) {i:Nat} {e e':dR} (hi:l[i]?=some e) (hf:Fr M H H') (hM:∀ x ∈ M,x ∈ e.bs) (Wj:∀ x ∈ e'.bs,x ∈ e.bs∨H.size≤x) (Wk:e'.bs.Nodup)
 (dj:e'.ok H' (fun x=>Lk H0.size O l x∨x ∈ e'.bs)):Lv O0 H0 O S H' (l.set i e') ds:=by
 have dO:=L.fr.size
 obtain ⟨ba,hie⟩:=List.getElem?_eq_some_iff.1 hi
 obtain ⟨l1,l2,rfl,hs⟩:∃ l1 l2,l=l1 ++ e :: l2∧l.set i e'=l1 ++ e' :: l2:=by
  refine ⟨l.take i,l.drop (i + 1),?_,?_⟩
  ·rw[← hie,← afM ba,ahK]
  ·rw[List.set_eq_take_append_cons_drop,if_pos ba]
 rw[hs]
 have aa6:=L.nd
 simp only[ahF,afN,ahO] at aa6
 obtain ⟨n1,⟨n2,n3,n4⟩,n5⟩:=aa6
 have Bz:∀ x,x ∈ (l1 ++ e' :: l2).flatMap dR.bs↔x ∈ l1.flatMap dR.bs∨x ∈ e'.bs∨x ∈ l2.flatMap dR.bs:=by
  intro x; rw[ahF,afN,ahu,ahu]
 have rP:∀ x,x ∈ (l1 ++ e :: l2).flatMap dR.bs↔x ∈ l1.flatMap dR.bs∨x ∈ e.bs∨x ∈ l2.flatMap dR.bs:=by
  intro x; rw[ahF,afN,ahu,ahu]
 have aa7:∀ x,Lk H0.size O (l1 ++ e' :: l2) x→Lk H0.size O (l1 ++ e :: l2) x∨x ∈ e'.bs:=by
  rintro x (q | q | q)
  ·exact .inl (.inl q)
  ·exact .inl (.inr (.inl q))
  ·rcases (Bz x).1 q with q | q | q
   ·exact .inl (.inr (.inr ((rP x).2 (.inl q))))
   ·exact .inr q
   ·exact .inl (.inr (.inr ((rP x).2 (.inr (.inr q)))))
 have M9:∀ x,Lk H0.size O (l1 ++ e' :: l2) x→Lk H0.size O (l1 ++ e :: l2) x∨H.size≤x:=fun x hx=>by
  rcases aa7 x hx with q | q
  ·exact .inl q
  ·exact (Wj x q).imp (fun q=>.inr (.inr ((rP x).2 (.inr (.inl q))))) id
 have hm:∀ x ∈ M,Lk H0.size O (l1 ++ e :: l2) x∨H.size≤x:=fun x hx=>.inl (.inr (.inr ((rP x).2 (.inr (.inl (hM x hx))))))
 have Ks:∀ x ∈ e.bs,H0.size≤x∧x ∉ O∧x < H.size:=fun x hx=>L.lo x ((rP x).2 (.inr (.inl hx)))
 have di:=dR.lt dj
 have aa8:∀ p ∈ l1 ++ l2,p.ok H' (Lk H0.size O (l1 ++ e' :: l2)):=fun p hp=>by
  have Wl:p ∈ l1 ++ e :: l2:=by
   rcases ahu.1 hp with hp | hp
   ·exact ahu.2 (.inl hp)
   ·exact ahu.2 (.inr (afa.2 (.inr hp)))
  refine dR.mE (L.ok p Wl) hf hm (fun x hx hxm=>?_) M9
  have hxe:=hM x hxm
  rcases ahu.1 hp with hp | hp
  ·exact n5 x (ahA.2 ⟨p,hp,hx⟩) x (ahu.2 (.inl hxe)) rfl
  ·exact n4 x hxe x (ahA.2 ⟨p,hp,hx⟩) rfl
 refine ⟨L.fr.trans' hf fun x hx=>.inr (Ks x (hM x hx)).1,fun x hx=>⟨afS (L.own x hx).1 hf.size,(L.own x hx).2⟩,?_,fun x hx=>?_,fun p hp=>?_,fun p hp=>aD.fr (L.fD p hp) hf hm M9,L.tM hf fun x hx=>⟨(Ks x (hM x hx)).1,(Ks x (hM x hx)).2.1⟩⟩
 ·simp only[ahF,afN,ahO]
  refine ⟨n1,⟨Wk,n3,fun a ha b hb=>?_⟩,fun a ha b hb=>?_⟩
  ·rcases Wj a ha with q | q
   ·exact n4 a q b hb
   ·have:=(L.lo b ((rP b).2 (.inr (.inr hb)))).2.2
    omega
  ·have ta:=(L.lo a ((rP a).2 (.inl ha))).2.2
   rcases ahu.1 hb with hb | hb
   ·rcases Wj b hb with q | q
    ·exact n5 a ha b (ahu.2 (.inl q))
    ·omega
   ·exact n5 a ha b (ahu.2 (.inr hb))
 ·rcases (Bz x).1 hx with q | q | q
  ·obtain ⟨h1,h2,h3⟩:=L.lo x ((rP x).2 (.inl q))
   exact ⟨h1,h2,afS h3 hf.size⟩
  ·have hl:=di x q
   rcases Wj x q with r | r
   ·exact ⟨(Ks x r).1,(Ks x r).2.1,hl⟩
   ·exact ⟨by omega,fun s=>by have:=(L.own x s).1; omega,hl⟩
  ·obtain ⟨h1,h2,h3⟩:=L.lo x ((rP x).2 (.inr (.inr q)))
   exact ⟨h1,h2,afS h3 hf.size⟩
 ·rcases ahu.1 hp with hp | hp
  ·exact aa8 p (ahu.2 (.inl hp))
  ·rcases afa.1 hp with rfl | hp
   ·exact dR.mE dj (Fr.refl [] H') (by simp) (by simp) fun x hx=>.inl (aa7 x hx)
   ·exact aa8 p (ahu.2 (.inr hp))
theorem Lv.Na (L:Lv O0 H0 O S H l ds) (i:Nat) {b t:Nat} {cs JP:List Value} (hi:l[i]?=some (.dz b t cs)) (hf:Fr [b] H H') (hn:eg H' b t JP):Lv O0 H0 O S H' (l.set i (.dz b t JP)) ds:=
 L.Us hi hf (by simp[dR.bs]) (by simp[dR.bs]) (by simp[dR.bs]) hn
theorem Lv.get (L:Lv O0 H0 O S H l ds) (i:Nat) {b t:Nat} {cs:List Value} (hi:l[i]?=some (.dz b t cs)):eg H b t cs:=L.ok _ (afR hi)
theorem Lv.cell (L:Lv O0 H0 O S H l ds) (i:Nat) {b t:Nat} {cs:List Value} (hi:l[i]?=some (.dz b t cs)) (o:Nat):ct H b o=cs[o]?:=(L.get i hi).cell o
theorem Lv.ae (L:Lv O0 H0 O S H l ds) (i:Nat) {b t:Nat} {cs vs:List Value} {R:Heap→Prop} (hi:l[i]?=some (.dz b t cs)) (hl:vs.length=cs.length) (h1:∀ v ∈ vs,v.oneCell'=true)
 (hR:∀ H',Lv O0 H0 O S H' (l.set i (.dz b t vs)) ds→R H'):Nz H ⟨b,0,none⟩ vs 0 R:=
 aC (L.get i hi) hl h1 fun H' hn hf _=>hR H' (L.Na i hi hf hn)
theorem Lv.bu (L:Lv O0 H0 O S H l ds) (i:Nat) {b t o:Nat} {cs:List Value} {v:Value} {R:Heap→Prop} (hi:l[i]?=some (.dz b t cs)) (ho:o < cs.length) (h1:v.oneCell'=true)
 (hR:∀ H',Lv O0 H0 O S H' (l.set i (.dz b t (cs.set o v))) ds→R H'):Nz H ⟨b,o,none⟩ [v] 0 R:=
 bL (L.get i hi) ho h1 fun H' hn hf _=>hR H' (L.Na i hi hf hn)
theorem Lv.sub (L:Lv O0 H0 O S H l ds) {l':List dR} (hs:l'.Sublist l) {ds':List (iH × List Value)} (hd:∀ p ∈ ds',aD H (Lk H0.size O l') p.1 p.2):Lv O0 H0 O S H l' ds':=by
 have hfs:(l'.flatMap dR.bs).Sublist (l.flatMap dR.bs):=by
  clear hd L
  induction hs with
  | slnil=>simp
  | cons a _ ih=>rw[afN]; exact ih.trans (List.sublist_append_right _ _)
  | cons_cons a _ ih=>rw[afN,afN]; exact List.Sublist.append (ahx _) ih
 have M9:∀ x,Lk H0.size O l' x→Lk H0.size O l x∨H.size≤x:=by
  rintro x (q | q | q)
  ·exact .inl (.inl q)
  ·exact .inl (.inr (.inl q))
  ·exact .inl (.inr (.inr (hfs.subset q)))
 exact ⟨L.fr,L.own,hfs.nodup L.nd,fun x hx=>L.lo x (hfs.subset hx),fun p hp=>dR.mE (L.ok p (hs.subset hp)) (Fr.refl [] _) (by simp) (by simp) M9,hd,L.Ox⟩
theorem Lv.Ut (L:Lv O0 H0 O S H l ds) {l':List dR} (hs:l'.Sublist l) {d:iH} {cs:List Value} (h:aD H (Lk H0.size O l) d cs):aD H (Lk H0.size O l') d cs:=by
 refine h.more ?_
 rintro x (q | q | q)
 ·exact .inl (.inl q)
 ·exact .inl (.inr (.inl q))
 ·refine .inl (.inr (.inr ?_))
  obtain ⟨p,hp,hx⟩:=ahA.1 q
  exact ahA.2 ⟨p,hs.subset hp,hx⟩
theorem Lv.drop (L:Lv O0 H0 O S H l ds) {l':List dR} (hs:l'.Sublist l) {ds':List (iH × List Value)} (hd:∀ p ∈ ds',p ∈ ds):Lv O0 H0 O S H l' ds':=
 L.sub hs fun p hp=>L.Ut hs (L.fD p (hd p hp))
theorem Lv.add (L:Lv O0 H0 O S H l ds) {d:iH} {cs:List Value} (h:aD H (Lk H0.size O l) d cs):Lv O0 H0 O S H l ((d,cs) :: ds):=
 ⟨L.fr,L.own,L.nd,L.lo,L.ok,fun p hp=>by
  rcases afa.1 hp with rfl | hp
  ·exact h
  ·exact L.fD p hp,L.Ox⟩
theorem Lv.built (L:Lv O0 H0 O S H l ds) {d:iH} {cs:List Value} (h:aD H' (fun x=>x < H.size) d cs):aD H' (Lk H0.size O l) d cs:=by
 refine h.more ?_
 rintro x (q | q | q)
 ·exact .inl (afS q L.fr.size)
 ·exact .inl (L.own x q).1
 ·exact .inl (L.lo x q).2.2
theorem Lv.B3 (L:Lv O0 H0 O S H l ds) (e m:Nat):Lv O0 H0 O S H (.row e m (.slice none 0 0) [] none :: l) ds:=by
 have M9:∀ x,Lk H0.size O (.row e m (.slice none 0 0) [] none :: l) x→Lk H0.size O l x∨H.size≤x:=by
  rintro x (q | q | q)
  ·exact .inl (.inl q)
  ·exact .inl (.inr (.inl q))
  ·exact .inl (.inr (.inr (by simpa [dR.bs] using q)))
 refine ⟨L.fr,L.own,by simpa [dR.bs] using L.nd,fun x hx=>L.lo x (by simpa [dR.bs] using hx),fun p hp=>?_,fun p hp=>(L.fD p hp).more M9,L.Ox⟩
 rcases afa.1 hp with rfl | hp
 ·exact vd.nil
 ·exact dR.mE (L.ok p hp) (Fr.refl [] _) (by simp) (by simp) M9
theorem Lv.Es (L:Lv O0 H0 O S H l ds) (i:Nat) {e m:Nat} {v:Value} {dl:List iH} {g:Option Nat} (hi:l[i]?=some (.row e m v dl g)):vd H (Lk H0.size O l) e m v dl g:=L.ok _ (afR hi)
theorem Lv.app {P:Program} {t tx bytes tn nb n1 c1 m:Nat} {z:Value} {R:Value→Heap→Prop} {d:iH} {cs:List Value} (L:Lv O0 H0 O S H (.dz nb tn cs :: l) ds) (hE:qo P t e m bytes z) (i:Nat) {v:Value} {dl:List iH} {g:Option Nat}
 (hi:l[i]?=some (.row e m v dl g)) {ex:Nat} (hk:P.underlying tx=some (.slice ex)) (hl:cs.length=m)
 (hc:∀ u ∈ cs,u.oneCell'=true) (hd:aD H (Lk H0.size O l) d cs) (h1:n1=1) (Iz:dl.length + 1≤maxLen) (hb:(dl.length + 1) * bytes≤140737488355328)
 (hR:∀ a c g' H',Lv O0 H0 O S H' (l.set i (.row e m (.slice a (dl.length + 1) c) (dl ++ [d]) g')) ds→R (.slice a (dl.length + 1) c) H'):App P t tx t H v (.slice (some ⟨nb,0,none⟩) n1 c1) R:=by
 have L':=L.drop (l':=l) (ahj _ _) fun p hp=>hp
 have fm:=L'.Es i hi
 have Bz:=afR hi
 refine TG (cs:=cs) hE fm hk (L.get 0 rfl) hl hc (hd.more fun x hx=>.inl ?_) h1 Iz hb fun a c H' g' ho hf QR=>hR a c g' H' ?_
 ·rcases hx with q | q
  ·exact q
  ·exact .inr (.inr (ahA.2 ⟨_,Bz,by simp[dR.bs,q]⟩))
 ·refine L'.Us hi hf (fun x hx=>hx) (fun x hx=>?_) (by cases g' <;> simp[dR.bs]) ?_
  ·simp only[dR.bs,ahH] at hx ⊢
   exact QR x hx
  ·obtain ⟨css,q1,q2,q3⟩:=ho
   refine ⟨css,q1,q2,q3.more fun x hx=>.inl ?_⟩
   simp only[dR.bs,ahH] at hx
   rcases hx with (hx | hx) | hx
   ·exact .inl hx
   ·exact .inr hx
   ·exact .inr hx
theorem Lv.Oz (L:Lv O0 H0 O S H l ds) (i:Nat) (hi:l[i]?=some (.row e m v dl g)):Lv O0 H0 O S H (l.eraseIdx i) ((.list m dl,[v]) :: ds):=by
 have hs:(l.eraseIdx i).Sublist l:=List.eraseIdx_sublist l i
 refine (L.drop hs fun p hp=>hp).add ?_
 refine vd.rep ((L.Es i hi).ext (Fr.refl [] _) (B':=Lk H0.size O (l.eraseIdx i)) ?_) fun b hb hB=>?_
 ·rintro x (q | q | q)
  ·exact .inl (.inl q)
  ·exact .inl (.inr (.inl q))
  ·exact .inl (.inr (.inr (ahA.2 (by obtain ⟨p,hp,hx⟩:=ahA.1 q; exact ⟨p,hs.subset hp,hx⟩))))
 ·subst hb
  have hbl:=L.lo b (ahA.2 ⟨_,afR hi,by simp[dR.bs]⟩)
  have Wk:=L.nd
  obtain ⟨ba,hie⟩:=List.getElem?_eq_some_iff.1 hi
  have hl:l=l.take i ++ .row e m v dl (some b) :: l.drop (i + 1):=by rw[← hie,← afM ba,ahK]
  have he:l.eraseIdx i=l.take i ++ l.drop (i + 1):=List.eraseIdx_eq_take_drop_succ l i
  rw[hl] at Wk
  simp only[ahF,afN,dR.bs,Option.toList_some,ahm,ahv,ahO,ahT,afa] at Wk
  rcases hB with q | q | q
  ·omega
  ·exact hbl.2.1 q
  ·rw[he,ahF,ahu] at q
   rcases q with q | q
   ·exact Wk.2.2 b q b (.inl rfl) rfl
   ·exact Wk.2.1.1 q
theorem Lv.Kt (L:Lv O0 H0 O S H (.dz b t cs :: l) ds) {n:Nat} {css:List (List Value)} (Iu:cs=css.flatten) (hl:∀ x ∈ css,x.length=m) (hR:fq H (Lk H0.size O (.dz b t cs :: l)) dl css) (hn:n=dl.length) (Iz:dl.length≤maxLen) :
 Lv O0 H0 O S H (.row t m (.slice (some ⟨b,0,none⟩) n n) dl (some b) :: l) ds:=by
 have hb:=L.get 0 rfl
 subst Iu hn
 have hlen:css.length=dl.length:=cS.length (hR [] (by simp))
 refine L.Us (i:=0) rfl (Fr.refl [] _) (by simp) (fun x hx=>.inl (by simpa [dR.bs] using hx)) (by simp[dR.bs]) ?_
 refine ⟨css,Own.mu hb (by rw[kL hl,hlen]) Iz,hl,fun M hM=>?_⟩
 refine hR M fun x hx=>?_
 rcases hM x hx with (q | q) | q
 ·exact q
 ·exact .inr (.inr (by simpa [dR.bs] using .inl (by simpa [dR.bs] using q)))
 ·exact .inr (.inr (by simpa [dR.bs] using .inl (by simpa [eq_comm] using q)))
end
end Gx
namespace Go.Proofs.YtmhdkbmnpekpoaaGreatDoor
open Gx Go
abbrev iQ (X:Cx) (H0:Heap) (ts:List Tk) (k:Nat) (H:Heap) (l:List dR) (ds:List (iH × List Value)):Prop:=Lv [X.b] H0 [X.b] (fun H=>Ps X H ts k) H l ds
abbrev II {γ:Type} (X:Cx) (H0:Heap) (P0:Except kc γ):cd→Heap→Prop:=fun ch H'=>∃ e,P0= .error e∧ch=Oh e∧Fr [X.b] H0 H'
section
variable {X:Cx} {H0 H H':Heap} {Ek ts r:List Tk} {k0 k:Nat} {l:List dR} {ds:List (iH × List Value)} {γ:Type} {P0:Except kc (γ × List Tk)} {Q:Value→Heap→Prop} {E:cd→Heap→Prop}
theorem Ps.walk (h:Ps X H ts k):iQ X H ts k H [] []:=Lv.start (by simpa using h.lt) fun M H' hf hM=>Ps.on h h hf fun x hx=>(hM x hx).1
theorem _root_.Gx.Lv.ps (L:iQ X H0 ts k H l ds):Ps X H ts k:=Lv.st L
theorem _root_.Gx.Lv.Uu {bQ:List Tk} {k':Nat} (L:iQ X H0 ts k H l ds) (h0:Ps X H0 Ek k0) (hf:Fr [X.b] H H') (h:Ps X H' bQ k'):iQ X H0 bQ k' H' l ds:=
 Lv.call L hf fun M nA fJ hM=>Ps.on h0 h fJ fun x hx=>(hM x hx).1
theorem ij.go {α:Type} {f:Nat} {av:List Value} {p:PP α} {R:α→Value→Heap→Heap→Prop} {g:α→PP γ} (h:ij k f av p R) (h0:Ps X H0 Ek k0) (L:iQ X H0 ts k H l ds) (hp:P0=bd p g ts)
 (hR:∀ a r v H',iQ X H0 r k H' l ds→P0=g a r→p ts= .ok (a,r)→R a v H H'→Q v H'):bU afI f (ptr X.b :: av).toArray H Q (II X H0 P0):=
 h.use L.ps (fun e H' he hf=>⟨e,by rw[hp,bN he],rfl,L.fr.trans hf⟩) fun a r v H' he hv hs hf=>hR a r v H' (L.Uu h0 hf hs) (by rw[hp,az he]) he hv
theorem ij.goN {f:Nat} {av:List Value} {p:PP Nd} {g:Nd→PP γ} (h:ij k f av p jO) (h0:Ps X H0 Ek k0) (L:iQ X H0 ts k H l ds) (hp:P0=bd p g ts)
 (hR:∀ kk tt nn aa ks kv r H',iQ X H0 r k H' l ((aW ks,[kv]) :: ds)→P0=g (.mk kk tt nn aa ks) r→p ts= .ok (.mk kk tt nn aa ks,r)→Q (.agg #[.int .i64 kk,sv tt,.int .i64 nn,.int .i64 aa,kv]) H') :
 bU afI f (ptr X.b :: av).toArray H Q (II X H0 P0):=
 h.go h0 L hp fun a r v H' L' NN he ⟨cs,hv,hr⟩=>by
  subst hv
  obtain ⟨kk,tt,nn,aa,ks⟩:=a
  obtain ⟨kv,rfl,jF⟩:=aD.cL hr
  exact hR kk tt nn aa ks kv r H' (L'.add (L.built jF)) NN he
theorem jw {α β δ:Type} (p:PP α) (f:α→PP β) (g:β→PP δ) (ts:List Tk):bd (bd p f) g ts=bd p (fun a=>bd (f a) g) ts:=by
 unfold bd
 cases p ts with
 | error e=>rfl
 | ok x=>rfl
theorem Uv {α:Type} (p:PP α) (ts:List Tk):bd p ret ts=p ts:=by
 unfold bd
 cases p ts with
 | error e=>rfl
 | ok x=>rfl
theorem ij.Q4 {f:Nat} {av:List Value} {p:PP Nd} {P0:Except kc (Nd × List Tk)} (h:ij k f av p jO) (h0:Ps X H0 Ek k0) (L:iQ X H0 ts k H l ds) (hp:P0=p ts)
 (hR:∀ kk tt nn aa ks kv r H',iQ X H0 r k H' l ((aW ks,[kv]) :: ds)→P0= .ok (.mk kk tt nn aa ks,r)→Q (.agg #[.int .i64 kk,sv tt,.int .i64 nn,.int .i64 aa,kv]) H') :
 bU afI f (ptr X.b :: av).toArray H Q (II X H0 P0):=
 h.goN h0 L (hp.trans (Uv p ts).symm) fun kk tt nn aa ks kv r H' L' NN he=>hR kk tt nn aa ks kv r H' L' (by rw[hp,he])
theorem kQ (L:iQ X H0 ts k H l ds) (hR:∀ H',iQ X H0 ts k H' l ds→Q (.agg (jD (hd ts)).toArray) H'):bU afI 35 #[ptr X.b] H Q E:=
 (look_ok L.ps).mono fun v H' ⟨hv,hf⟩=>hv ▸ hR H' (L.ext hf)
theorem B4 (L:iQ X H0 ts k H l ds) (s:Bs) (hR:∀ H',iQ X H0 ts k H' l ds→Q (.bool (aY s ts)) H'):bU afI 54 #[ptr X.b,sv s] H Q E:=
 (wG L.ps s).mono fun v H' ⟨hv,hf⟩=>hv ▸ hR H' (L.ext hf)
theorem bO (h0:Ps X H0 Ek k0) (L:iQ X H0 ts k H l ds) (s:Bs) (hT:aY s ts=true→∀ H',iQ X H0 ts.tail k H' l ds→Q (.bool true) H') (hF:aY s ts=false→∀ H',iQ X H0 ts k H' l ds→Q (.bool false) H'):bU afI 61 #[ptr X.b,sv s] H Q E:=
 (hH L.ps s).mono fun v H' ⟨hv,hs,hf⟩=>by
  subst hv
  cases e:aY s ts with
  | true=>rw[e,if_pos rfl] at hs; exact hT e H' (L.Uu h0 hf hs)
  | false=>rw[e,if_neg (by decide)] at hs; exact hF e H' (L.Uu h0 hf hs)
theorem wJ (h0:Ps X H0 Ek k0) (L:iQ X H0 ts k H l ds) (s:Bs) (hR:∀ H',iQ X H0 (if aY s ts then ts.tail else ts) k H' l ds→Q (.bool (aY s ts)) H'):bU afI 61 #[ptr X.b,sv s] H Q E:=
 (hH L.ps s).mono fun v H' ⟨hv,hs,hf⟩=>hv ▸ hR H' (L.Uu h0 hf hs)
theorem rQ (L:iQ X H0 ts k H l ds) {c:Int} (hp:P0= .error (c,(hd ts).at_)):bU afI 53 #[ptr X.b,.int .i64 c] H Q (II X H0 P0):=
 (rH L.ps c).mono (fun _ _ h=>h.elim) fun ch H' ⟨hc,hf⟩=>⟨_,hp,hc,L.fr.trans (gW hf)⟩
theorem nS {k':Nat} (h0:Ps X H0 Ek k0) (L:iQ X H0 ts k H l ds) (hk:k'=k + 1) (h64:k'≤64) (hR:∀ v H',iQ X H0 ts k' H' l ds→Q v H'):bU afI 58 #[ptr X.b] H Q E:=
 (rK L.ps (by omega)).mono fun v H' ⟨hs,hf⟩=>hR v H' (L.Uu h0 hf (hk ▸ hs))
theorem nU {α β:Type} {lo:Nat→Option β} {s:Bs} {body:β→PP α} {P0:Except kc (α × List Tk)} (h0:Ps X H0 Ek k0) (L:iQ X H0 ts k H l ds) (fj:lo 0=none) (ad0:∀ j,∃ x,lo (j + 1)=some x) (hp:P0=ea (lo k) s body ts)
 (hR:∀ j x H',k=j + 1→lo (j + 1)=some x→iQ X H0 ts.tail j H' l ds→aY s ts=true→P0=body x ts.tail→Q (.int .i64 (hd ts).at_) H'):bU afI 56 #[ptr X.b,sv s] H Q (II X H0 P0):=by
 cases e:aY s ts with
 | false=>
   refine (nP L.ps (s:=s) (.inl e)).mono (fun _ _ h=>h.elim) fun ch H' ⟨hc,hf⟩=>?_
   rw[e,if_neg (by decide)] at hc
   exact ⟨_,by rw[hp,Ol e],hc,L.fr.trans hf⟩
 | true=>
   cases k with
   | zero=>
     refine (nP L.ps (s:=s) (.inr rfl)).mono (fun _ _ h=>h.elim) fun ch H' ⟨hc,hf⟩=>?_
     rw[e,if_pos rfl] at hc
     exact ⟨_,by rw[hp,fj,An e],hc,L.fr.trans hf⟩
   | succ j=>
     obtain ⟨x,hx⟩:=ad0 j
     refine (rJ L.ps e).mono fun v H' ⟨hv,hs,hf⟩=>?_
     subst hv
     exact hR j x H' rfl hx (L.Uu h0 hf hs) e (by rw[hp,hx,wI e])
theorem _root_.Gx.Lv.fin {P0:Except kc (Nd × List Tk)} {kk nn aa:Int} {tt:Bs} {ks:List Nd} {kv:Value} (L:iQ X H0 r k H l ds) (hp:P0=ret (.mk kk tt nn aa ks) r) (hk:(aW ks,[kv]) ∈ ds∨(ks=[]∧kv= .slice none 0 0)) :
 ∃ a r,P0= .ok (a,r)∧jO a (.agg #[.int .i64 kk,sv tt,.int .i64 nn,.int .i64 aa,kv]) H0 H∧Ps X H r k∧Fr [X.b] H0 H:=by
 suffices hq:aD H (Lk H0.size [X.b] l) (aW ks) [kv] by
  exact ⟨_,r,hp,⟨_,rfl,aD.nd (hq.more fun x hx=>.inl (.inl hx))⟩,L.ps,L.fr⟩
 rcases hk with hk | ⟨rfl,rfl⟩
 ·exact L.fD _ hk
 ·exact kg
theorem _root_.Gx.Lv.nt (L:iQ X H0 r k H l ds) (i:Nat) (ns:List Nd) {v:Value} {g:Option Nat} (hi:l[i]?=some (.row 24 5 v (ns.map Nd.fD) g)):iQ X H0 r k H (l.eraseIdx i) ((aW ns,[v]) :: ds):=Lv.Oz L i hi
theorem _root_.Gx.Lv.one (L:iQ X H0 r k H l ds) {ks:List Nd} {kv:Value} (h:(aW ks,[kv]) ∈ ds):kv.oneCell'=true:=dp (L.fD _ h)
theorem _root_.Gx.Lv.ndr (L:iQ X H0 r k H l ds) {kk nn aa:Int} {tt:Bs} {ks:List Nd} {kv:Value} (h:(aW ks,[kv]) ∈ ds):aD H (Lk H0.size [X.b] l) (Nd.fD (.mk kk tt nn aa ks)) [.int .i64 kk,sv tt,.int .i64 nn,.int .i64 aa,kv]:=aD.nd (L.fD _ h)
end
theorem _root_.Gx.Lv.B5 {X:Cx} {H0 H:Heap} {r:List Tk} {k:Nat} {l:List dR} {ds:List (iH × List Value)} {b:Nat} {kk nn aa:Int} {tt:Bs} {ks:List Nd} {kv:Value} (L:iQ X H0 r k H (.dz b 24 [.int .i64 kk,sv tt,.int .i64 nn,.int .i64 aa,kv] :: l) ds) (hk:(aW ks,[kv]) ∈ ds) :
 iQ X H0 r k H (.row 24 5 (.slice (some ⟨b,0,none⟩) 1 1) ([Nd.mk kk tt nn aa ks].map Nd.fD) (some b) :: l) ds:=
 Lv.Kt L (css:=[[.int .i64 kk,sv tt,.int .i64 nn,.int .i64 aa,kv]]) (by simp) (by simp) (fq.nil.cons (L.ndr hk)) (by simp) (by simp[maxLen])
theorem ENd:qo afI 22 24 5 64 (.agg #[.int .i64 0,.string ⟨⟨[]⟩⟩,.int .i64 0,.int .i64 0,.slice none 0 0]):=⟨ahS,by kernel_rfl,rfl,by decide⟩
section
variable {X:Cx} {H0 H H':Heap} {Ek ts r:List Tk} {k0 k:Nat} {l:List dR} {ds:List (iH × List Value)}
theorem _root_.Gx.Lv.vh {nb tn:Nat} {R:Value→Heap→Prop} {kk nn aa:Int} {tt:Bs} {ks:List Nd} {kv v:Value} {g:Option Nat} {ns:List Nd} (L:iQ X H0 ts k H (.dz nb tn [.int .i64 kk,sv tt,.int .i64 nn,.int .i64 aa,kv] :: l) ds)
 (i:Nat) (hi:l[i]?=some (.row 24 5 v (ns.map Nd.fD) g)) (hk:(aW ks,[kv]) ∈ ds) (Iz:ns.length + 1≤1048576)
 (hR:∀ a c g' H',iQ X H0 ts k H' (l.set i (.row 24 5 (.slice a (ns ++ [Nd.mk kk tt nn aa ks]).length c) ((ns ++ [Nd.mk kk tt nn aa ks]).map Nd.fD) g')) ds→R (.slice a (ns ++ [Nd.mk kk tt nn aa ks]).length c) H') :
 App afI 22 22 22 H v (.slice (some ⟨nb,0,none⟩) 1 1) R:=by
 have L1:iQ X H0 ts k H l ds:=Lv.drop L (ahj _ _) fun p hp=>hp
 refine Lv.app L ENd i hi ahS rfl (ax (L.one hk)) (d:=Nd.fD (.mk kk tt nn aa ks)) (L1.ndr hk) rfl (by simp[maxLen]; omega) (by simp; omega) fun a c g' H' L'=>?_
 have e:ns.map Nd.fD ++ [Nd.fD (.mk kk tt nn aa ks)]=(ns ++ [Nd.mk kk tt nn aa ks]).map Nd.fD:=by simp
 have e2:(ns.map Nd.fD).length + 1=(ns ++ [Nd.mk kk tt nn aa ks]).length:=by simp
 rw[e,e2] at L'
 rw[e2]
 exact hR a c g' H' L'
end
theorem B6 {k:Nat} {e:PP Nd} (hex:ij k 28 [] e jO) (fn:Bs):ij k 160 [sv fn] (gD e fn) jO:=by
 refine ⟨fun {X H ts} hs=>?_⟩
 refine aK (args:=[_,_]) Tryz.func160 Td (ahi rfl) ?_
 have L:=hs.walk
 unfold sv
 simp only[go_sem,c160]
 refine L.aS fun b1 H1 L=>?_
 simp only[go_sem]
 refine kQ L fun H2 L=>?_
 simp only[go_sem,jD]
 refine L.aS fun b2 H3 L=>?_
 simp only[go_sem]
 refine L.ae 0 rfl rfl (ax (t:=[]) rfl) fun H4 L=>?_
 dsimp only[ahp,ahk]at L
 by_cases e1:fn=[114,101,99]
 ·subst e1
  have hp:gD e [114,101,99] ts=bd (cK 1) (fun t=>bd (aU [58]) fun _=>bd e fun x=>ret (.mk 52 t.text 0 (hd ts).at_ [x])) ts:=by simp only[gD,if_true]
  simp only[go_sem,cM]
  refine (iy 1 (by decide)).go hs L hp fun t r v H5 L hp _ hv=>?_
  cases hv
  simp only[go_sem,jD,sv]
  refine L.bu 0 rfl (by simp) rfl fun H6 L=>?_
  dsimp only[ahp,ahk]at L
  simp only[go_sem]
  refine (bj [58]).go hs L hp fun _ r v H7 L hp _ _=>?_
  have L:=L.B3 24 5
  have c:=L.cell 1 rfl
  simp only[go_sem,c]
  refine hex.goN hs L hp fun kk tt nn aa ks kv r H8 L hp he=>?_
  have c:=L.cell 1 rfl
  simp only[go_sem,c]
  refine L.bc fun b3 H9 L=>?_
  have c:=L.cell 2 rfl
  simp only[go_sem,c]
  refine L.vh (ns:=[]) (ks:=ks) 0 rfl (by simp) (by decide) fun a c g' kb L=>?_
  dsimp only[ahp,ahk]at L
  simp only[go_sem]
  refine L.bu 1 rfl (by simp) rfl fun qx L=>?_
  dsimp only[ahp,ahk]at L
  have L:=L.nt 0 [.mk kk tt nn aa ks] rfl
  dsimp only[ahp,ahk]at L
  have c:=L.cell 0 rfl
  simp only[go_sem,c]
  refine L.ae 1 rfl rfl (ax rfl) fun HZ L=>?_
  dsimp only[ahp,ahk]at L
  have c:=L.cell 1 rfl
  simp only[go_sem,c]
  exact L.fin hp (.inl (by simp))
 ·by_cases e2:fn=[109,97,112]
  ·subst e2
   have hp:gD e [109,97,112] ts=bd e (fun x=>bd (aU [58]) fun _=>bd e fun y=>ret (.mk 52 [] 0 (hd ts).at_ [x,y])) ts:=by simp[gD]
   simp only[go_sem,cM,e1]
   refine hex.goN hs L hp fun kk tt nn aa ks kv r H5 L hp _=>?_
   simp only[go_sem]
   refine L.bc fun b3 H6 L=>?_
   have L:=L.B5 (ks:=ks) (by simp)
   simp only[go_sem]
   refine L.bu 1 rfl (by simp) rfl fun H7 L=>?_
   dsimp only[ahp,ahk]at L
   simp only[go_sem]
   refine (bj [58]).go hs L hp fun _ r v H8 L hp _ _=>?_
   have c:=L.cell 1 rfl
   simp only[go_sem,c]
   refine hex.goN hs L hp fun OA OB OC Bf iK Wd r H9 L hp _=>?_
   have c:=L.cell 1 rfl
   simp only[go_sem,c]
   refine L.bc fun b4 kb L=>?_
   have c:=L.cell 2 rfl
   simp only[go_sem,c]
   refine L.vh (ns:=[.mk kk tt nn aa ks]) (ks:=iK) 0 rfl (by simp) (by simp) fun a c g' qx L=>?_
   dsimp only[ahp,ahk]at L
   simp only[go_sem]
   refine L.bu 1 rfl (by simp) rfl fun vg L=>?_
   dsimp only[ahp,ahk]at L
   have L:=L.nt 0 [.mk kk tt nn aa ks,.mk OA OB OC Bf iK] rfl
   dsimp only[ahp,ahk]at L
   have c:=L.cell 0 rfl
   simp only[go_sem,c]
   refine L.ae 1 rfl rfl (ax (t:=[]) rfl) fun HZ L=>?_
   dsimp only[ahp,ahk]at L
   have c:=L.cell 1 rfl
   simp only[go_sem,c]
   exact L.fin hp (.inl (by simp))
  ·have hp:gD e fn ts=e ts:=by simp only[gD,e1,e2,if_false]
   simp only[go_sem,cM,e1,e2]
   refine hex.Q4 hs L hp fun kk tt nn aa ks kv r H5 L hp=>?_
   simp only[go_sem]
   refine L.ae 1 rfl rfl (ax (L.one (ks:=ks) (by simp))) fun H6 L=>?_
   dsimp only[ahp,ahk]at L
   have c:=L.cell 1 rfl
   simp only[go_sem,c]
   exact L.fin hp (.inl (by simp))
theorem Ao (s:Bs) (H:Heap):aE afI 159 #[sv s] H fun v H'=>v= .bool (decide (s ∈ aZ))∧Fr [] H H':=by
 refine af (args:=[_]) Tryz.func159 Tc (ahi rfl) ?_
 unfold sv
 by_cases h:s ∈ aZ
 ·rw[decide_eq_true h]
  simp only[aZ,afa,ahy,or_false] at h
  rcases h with rfl | rfl | rfl | rfl | rfl | rfl | rfl | rfl | rfl | rfl | rfl | rfl | rfl | rfl | rfl | rfl | rfl <;>
   ·simp only[go_sem,c159,cM]
    simp[Fr.refl]
 ·rw[decide_eq_false h]
  simp only[aZ,afa,ahy,or_false,not_or] at h
  obtain ⟨h1,h2,h3,h4,h5,h6,h7,h8,h9,Bg,Ku,Nb,Nc,Nf,Ng,BR,Nh⟩:=h
  simp only[go_sem,c159,cM,h1,h2,h3,h4,h5,h6,h7,h8,h9,Bg,Ku,Nb,Nc,Nf,Ng,BR,Nh]
  exact Fr.refl _ _
theorem B7 {ts r:List Tk} (h:dF ts= .ok (true,r)) (hn:ts≠[]):r.length < ts.length:=by
 unfold dF at h
 split at h
 ·cases h
  have:=aho.2 hn
  simp; omega
 ·unfold bd at h
  split at h
  ·cases h
  ·simp[ret] at h
theorem aa9:bp 0=none:=rfl
theorem aba (j:Nat):∃ x,bp (j + 1)=some x:=⟨_,rfl⟩
set_option maxHeartbeats 2000000 in
theorem Et {k:Nat} (hex:∀ j,k=j + 1→ij j 28 [] (mB j).1 jO):ij k 158 [] (dZ (bp k)) jO:=by
 refine ⟨fun {X H ts} hs=>?_⟩
 refine aK (args:=[_]) Tryz.func158 Tb (ahi rfl) ?_
 have L:=hs.walk
 simp only[go_sem,YE]
 refine L.aS fun b1 H1 L=>?_
 simp only[go_sem]
 refine kQ L fun H2 L=>?_
 simp only[go_sem,jD]
 refine L.aS fun b2 H3 L=>?_
 simp only[go_sem]
 refine L.ae 0 rfl rfl (rI (hd ts)) fun H4 L=>?_
 dsimp only[ahp,ahk]at L
 have c:=L.cell 0 rfl
 simp only[go_sem,c]
 refine L.aS fun b3 H5 L=>?_
 simp only[go_sem]
 refine L.ae 0 rfl rfl (ax (t:=[]) rfl) fun H6 L=>?_
 dsimp only[ahp,ahk]at L
 have c:=L.cell 1 rfl
 obtain ⟨hp,_⟩:dZ (bp k) ts=dZ (bp k) ts∧True:=⟨rfl,trivial⟩
 conv at hp=>rhs; unfold dZ
 by_cases k3:(hd ts).kind=3
 ·rw[if_pos (.inl k3)] at hp
  simp only[go_sem,c,k3]
  refine mC.Q4 hs L hp fun kk tt nn aa ks kv r H5 L hp=>?_
  simp only[go_sem]
  refine L.ae 2 rfl rfl (ax (L.one (ks:=ks) (by simp))) fun HZ L=>?_
  dsimp only[ahp,ahk]at L
  have c:=L.cell 2 rfl
  simp only[go_sem,c]
  exact L.fin hp (.inl (by simp))
 simp only[go_sem,c,k3]
 refine B4 L [45] fun H7 L=>?_
 cases e45:aY [45] ts with
 | true=>
   rw[if_pos (.inr e45)] at hp
   simp only[go_sem]
   refine mC.Q4 hs L hp fun kk tt nn aa ks kv r H5 L hp=>?_
   simp only[go_sem]
   refine L.ae 2 rfl rfl (ax (L.one (ks:=ks) (by simp))) fun HZ L=>?_
   dsimp only[ahp,ahk]at L
   have c:=L.cell 2 rfl
   simp only[go_sem,c]
   exact L.fin hp (.inl (by simp))
 | false=>
 rw[if_neg (by rw[e45]; simp[k3])] at hp
 have c:=L.cell 1 rfl
 by_cases k4:(hd ts).kind=4
 ·rw[if_pos k4] at hp
  simp only[go_sem,c,k4]
  refine rL.Q4 hs L hp fun kk tt nn aa ks kv r H5 L hp=>?_
  simp only[go_sem]
  refine L.ae 2 rfl rfl (ax (L.one (ks:=ks) (by simp))) fun HZ L=>?_
  dsimp only[ahp,ahk]at L
  have c:=L.cell 2 rfl
  simp only[go_sem,c]
  exact L.fin hp (.inl (by simp))
 rw[if_neg k4] at hp
 by_cases k1:(hd ts).kind=1
 ·rw[if_pos k1] at hp
  simp only[go_sem,c,k4,k1]
  refine (nQ 48).Q4 hs L hp fun kk tt nn aa ks kv r H5 L hp=>?_
  simp only[go_sem]
  refine L.ae 2 rfl rfl (ax (L.one (ks:=ks) (by simp))) fun HZ L=>?_
  dsimp only[ahp,ahk]at L
  have c:=L.cell 2 rfl
  simp only[go_sem,c]
  exact L.fin hp (.inl (by simp))
 rw[if_neg k1] at hp
 simp only[go_sem,c,k4,k1]
 refine bO hs L [116,114,117,101] (fun e H7 L=>?_) fun e H7 L=>?_
 ·rw[if_pos e] at hp
  simp only[go_sem]
  refine L.bu 0 rfl (by simp) rfl fun H8 L=>?_
  dsimp only[ahp,ahk]at L
  simp only[go_sem]
  have c:=L.cell 0 rfl
  simp only[go_sem,c]
  refine L.ae 2 rfl rfl (ax (t:=[]) rfl) fun HZ L=>?_
  dsimp only[ahp,ahk]at L
  have c:=L.cell 2 rfl
  simp only[go_sem,c]
  exact L.fin hp (.inr ⟨rfl,rfl⟩)
 rw[if_neg (by rw[e]; decide)] at hp
 simp only[go_sem]
 refine bO hs L [102,97,108,115,101] (fun e H7 L=>?_) fun e H7 L=>?_
 ·rw[if_pos e] at hp
  simp only[go_sem]
  refine L.bu 0 rfl (by simp) rfl fun H8 L=>?_
  dsimp only[ahp,ahk]at L
  simp only[go_sem]
  have c:=L.cell 0 rfl
  simp only[go_sem,c]
  refine L.ae 2 rfl rfl (ax (t:=[]) rfl) fun HZ L=>?_
  dsimp only[ahp,ahk]at L
  have c:=L.cell 2 rfl
  simp only[go_sem,c]
  exact L.fin hp (.inr ⟨rfl,rfl⟩)
 rw[if_neg (by rw[e]; decide)] at hp
 simp only[go_sem]
 refine bO hs L [115] (fun e H7 L=>?_) fun e H7 L=>?_
 ·rw[if_pos e] at hp
  simp only[go_sem]
  refine L.bu 0 rfl (by simp) rfl fun H8 L=>?_
  dsimp only[ahp,ahk]at L
  simp only[go_sem]
  have c:=L.cell 0 rfl
  simp only[go_sem,c]
  refine L.ae 2 rfl rfl (ax (t:=[]) rfl) fun HZ L=>?_
  dsimp only[ahp,ahk]at L
  have c:=L.cell 2 rfl
  simp only[go_sem,c]
  exact L.fin hp (.inr ⟨rfl,rfl⟩)
 rw[if_neg (by rw[e]; decide)] at hp
 simp only[go_sem]
 refine bO hs L [98,111,116,116,111,109] (fun e H7 L=>?_) fun e H7 L=>?_
 ·rw[if_pos e] at hp
  simp only[go_sem]
  refine L.bu 0 rfl (by simp) rfl fun H8 L=>?_
  dsimp only[ahp,ahk]at L
  simp only[go_sem]
  have c:=L.cell 0 rfl
  simp only[go_sem,c]
  refine L.ae 2 rfl rfl (ax (t:=[]) rfl) fun HZ L=>?_
  dsimp only[ahp,ahk]at L
  have c:=L.cell 2 rfl
  simp only[go_sem,c]
  exact L.fin hp (.inr ⟨rfl,rfl⟩)
 rw[if_neg (by rw[e]; decide)] at hp
 simp only[go_sem]
 refine B4 L [40] fun H7 L=>?_
 cases e40:aY [40] ts with
 | true=>
   rw[if_pos e40] at hp
   simp only[go_sem]
   refine nU (lo:=bp) hs L aa9 aba hp fun j x H8 hj hx L _ hp=>?_
   cases hx
   simp only[go_sem]
   refine (hex j hj).goN hs L hp fun kk tt nn aa ks kv r H9 L hp _=>?_
   simp only[go_sem]
   refine L.ae 0 rfl rfl (ax (L.one (ks:=ks) (by simp))) fun kb L=>?_
   dsimp only[ahp,ahk]at L
   simp only[go_sem]
   refine (bj [41]).go hs L hp fun _ r v qx L hp _ _=>?_
   simp only[go_sem]
   refine nS hs L hj hs.He fun _ vg L=>?_
   have c:=L.cell 0 rfl
   simp only[go_sem,c]
   refine L.ae 2 rfl rfl (ax (L.one (ks:=ks) (by simp))) fun HZ L=>?_
   dsimp only[ahp,ahk]at L
   have c:=L.cell 2 rfl
   simp only[go_sem,c]
   exact L.fin hp (.inl (by simp))
 | false=>
 rw[if_neg (by rw[e40]; decide)] at hp
 have c:=L.cell 1 rfl
 by_cases k2:(hd ts).kind=2
 ·simp only[go_sem,c,k2]
  refine (Ao (hd ts).text _).mono ?_
  rintro v H8 ⟨rfl,dy⟩
  have L:=L.ext dy
  by_cases gm:(hd ts).text ∈ aZ
  ·rw[if_pos ⟨k2,gm⟩] at hp
   obtain ⟨i,hb,hw,lE⟩:=L.ps.step (by omega)
   have hc:=hb.cell
   have c:=L.cell 1 rfl
   unfold ptr
   simp only[go_sem,gm,hc,hw]
   refine bL hb (by simp) rfl fun H9 pN dB _=>?_
   have L:=L.Uu hs dB (lE H9 pN dB)
   have c:=L.cell 1 rfl
   simp only[go_sem,c]
   refine L.bu 0 rfl (by simp) rfl fun kb L=>?_
   dsimp only[ahp,ahk]at L
   have c:=L.cell 1 rfl
   simp only[go_sem,c,sv]
   refine L.bu 0 rfl (by simp) rfl fun qx L=>?_
   dsimp only[ahp,ahk]at L
   have L:iQ X H ts.tail k qx [.dz b3 24 [.int .i64 51,sv (hd ts).text,.int .i64 0,.int .i64 (hd ts).at_,.slice none 0 0],.dz b2 58 (jD (hd ts)),.dz b1 24 [.int .i64 0,sv [],.int .i64 0,.int .i64 0,.slice none 0 0]] []:=L
   simp only[go_sem]
   refine nU (lo:=bp) hs L aa9 aba hp fun j x vg hj hx L _ hp=>?_
   cases hx
   have aaT:=hs.cap
   have hlen:ts.tail.tail.length≤1048576:=by
    obtain ⟨i',_,e',_⟩:=L.ps.ex
    rw[e',ahs]; omega
   have L:=L.B3 24 5
   have Br:Dn (gD (mB j).1 (hd ts).text):=Ak (Al j).1 _
   obtain ⟨js,B8⟩:∃ cur,cur=ts.tail.tail:=⟨_,rfl⟩
   rw[← B8] at L hp hlen
   simp only[go_sem]
   refine wJ hs L [41] fun tL L=>?_
   simp only[go_sem]
   refine bC (fun (s:Bool × List Tk × List Nd × Value) H'=>∃ g f,iQ X H s.2.1 j H' [.row 24 5 s.2.2.2 (s.2.2.1.map Nd.fD) g,.dz b3 24 [.int .i64 51,sv (hd ts).text,.int .i64 0,.int .i64 (hd ts).at_,s.2.2.2],.dz b2 58 (jD (hd ts)),.dz b1 24 [.int .i64 0,sv [],.int .i64 0,.int .i64 0,.slice none 0 0]] []∧
    (s.1=true→dZ (bp k) ts=bd (fL (gD (mB j).1 (hd ts).text) f s.2.2.1) (fun l=>ret (.mk 51 (hd ts).text 0 (hd ts).at_ l)) s.2.1∧s.2.1.length≤f∧s.2.2.1.length + s.2.1.length≤1048576)∧
    (s.1=false→dZ (bp k) ts=ret (Nd.mk 51 (hd ts).text 0 (hd ts).at_ s.2.2.1) s.2.1))
    (fun s=>[(0,ptr X.b),(2,.pointer (some ⟨b1,0,none⟩)),(3,.pointer (some ⟨b2,0,none⟩)),(4,.pointer (some ⟨b3,0,none⟩)),(5,.bool s.1)]) (fun s=>if s.1 then s.2.1.length + 1 else 0) (!(aY [41] js),(if aY [41] js then js.tail else js),[],.slice none 0 0) ?_ ?_ ?_
   ·refine ⟨none,js.length,L,fun h=>?_,fun h=>?_⟩
    ·have e:aY [41] js=false:=by simpa using h
     simp only[e,ae6,if_false]
     rw[hp]
     refine ⟨?_,afJ _,by simpa using hlen⟩
     unfold bd dY; simp only[e,ae6,if_false]
    ·have e:aY [41] js=true:=by simpa using h
     simp only[e,if_true]
     rw[hp]
     unfold bd dY; simp only[e,if_true]
   ·simp only[go_sem,ptr]
   ·rintro ⟨more,cur,ns,v⟩ Q3 ⟨g,f,L,hT,hF⟩
    simp only at L hT hF ⊢
    cases more with
    | false=>
      have hp:=hF rfl
      simp only[go_sem]
      refine nS hs L hj hs.He fun _ Om L=>?_
      have L:=L.nt 0 ns rfl
      dsimp only[ahp,ahk]at L
      have c:=L.cell 0 rfl
      simp only[go_sem,c]
      refine L.ae 2 rfl rfl (ax (L.one (ks:=ns) (by simp))) fun HZ L=>?_
      dsimp only[ahp,ahk]at L
      have c:=L.cell 2 rfl
      simp only[go_sem,c]
      exact L.fin hp (.inl (by simp))
    | true=>
      obtain ⟨hp,hf,hle⟩:=hT rfl
      have qw:=aho.2 L.ps.nil
      obtain ⟨f,rfl⟩:∃ f',f=f' + 1:=⟨f - 1,by omega⟩
      have hp:dZ (bp k) ts=bd (gD (mB j).1 (hd ts).text) (fun a=>bd (bd dF fun m=>if m then fL (gD (mB j).1 (hd ts).text) f (ns ++ [a]) else ret (ns ++ [a])) (fun l=>ret (.mk 51 (hd ts).text 0 (hd ts).at_ l))) cur:=by
       rw[hp]; simp only[fL,jw]
      have c:=L.cell 1 rfl
      have c2:=L.cell 2 rfl
      simp only[go_sem,c,c2,jD]
      refine (B6 (hex j hj) _).goN hs L hp fun kk tt nn aa ks kv r1 Om L hp he=>?_
      have Uw:=Br.of he
      have Ux:=L.ps.nil
      simp only[jw] at hp
      have c:=L.cell 1 rfl
      simp only[go_sem,c]
      refine L.bc fun bA HA L=>?_
      have c:=L.cell 2 rfl
      simp only[go_sem,c]
      refine L.vh (ns:=ns) (ks:=ks) 0 rfl (by simp) (by omega) fun a c g' HB L=>?_
      dsimp only[ahp,ahk]at L
      simp only[go_sem]
      refine L.bu 1 rfl (by simp) rfl fun HC L=>?_
      dsimp only[ahp,ahk]at L
      simp only[go_sem]
      refine B0.go hs L hp fun m r2 v HD L hp z6 hv=>?_
      cases hv
      have L:=L.drop (ds':=[]) (ahx _) (by simp)
      simp only[go_sem]
      refine aj (m,r2,ns ++ [.mk kk tt nn aa ks],.slice a (ns ++ [Nd.mk kk tt nn aa ks]).length c) ?_ ?_ ⟨g',f,L,fun h=>?_,fun h=>?_⟩
      ·have:=yY.of z6
       cases m
       ·show 0 < cur.length + 1
        omega
       ·have:=B7 z6 Ux
        show r2.length + 1 < cur.length + 1
        omega
      ·simp only[go_sem]
      ·simp only at h; subst h
       have:=B7 z6 Ux
       refine ⟨hp,show r2.length≤f by omega,?_⟩
       simp only[List.length_append,afK,aht]; omega
      ·simp only at h; subst h
       exact hp
  ·rw[if_neg (fun h=>gm h.2)] at hp
   simp only[go_sem,gm]
   exact rQ L hp
 ·rw[if_neg (fun h=>k2 h.1)] at hp
  simp only[go_sem,c,k2]
  exact rQ L hp
theorem Kv:∀ k:Nat,ij k 28 [] (aJ (bp k)) jO∧ij k 115 [] (fX (bp k)) jO:=by
 have key:∀ k:Nat,(∀ j,k=j + 1→ij j 28 [] (mB j).1 jO∧ij j 115 [] (mB j).2 jO)→ij k 28 [] (aJ (bp k)) jO∧ij k 115 [] (fX (bp k)) jO:=fun k h=>by
  have hl:=dG k
  have h1:=Et fun j hj=>(h j hj).1
  have h2:=Er (fun j hj=>(h j hj).1) h1
  have h3:=Ug hl h2
  have h4:=Hi hl h3
  have h5:=yD hl h4
  have h6:=Ui (fun j hj=>(h j hj).2) h5
  have h7:=Uh hl h6
  have h8:=aaX hl h7
  exact ⟨yE (fun j hj=>(h j hj).1) h8,h6⟩
 intro k
 induction k with
 | zero=>exact key 0 fun j hj=>by omega
 | succ k ih=>
   refine key (k + 1) fun j hj=>?_
   obtain rfl:j=k:=by omega
   rw[qv]; exact ih
def dM:Nat→List Nd→PP (List Nd)
 | 0,l=>ret l
 | f + 1,l=>fun ts=>if aY [44] ts then bd ey (fun q=>dM f (l ++ [q])) ts.tail else .ok (l,ts)
def ej:PP (List Nd):=bd ey fun q r=>dM r.length [q] r
def bJ:PP (List Nd):=fun ts=>if aY [40] ts then bd ej (fun l=>bd (aU [41]) fun _=>ret l) ts.tail else .ok ([],ts)
def lh (p:PP Nd):PP (List Nd):=bd (aU [40]) fun _=>bd p fun a=>bd (aU [44]) fun _=>bd p fun b=>bd (aU [41]) fun _=>ret [a,b]
def kH:PP (List Nd):=fun ts=>if (hd ts).kind=4 then ej ts else .ok ([],ts)
def jx:PP Nd:=fun ts=>bd kH (fun q=>bd (aU [61,62]) fun _=>bd ey fun c=>ret (.mk 20 [] 0 (hd ts).at_ (q ++ [c]))) ts
def eU:Nat→List Nd→PP (List Nd)
 | 0,l=>ret l
 | f + 1,l=>fun ts=>if aY [59] ts then bd jx (fun r=>eU f (l ++ [r])) ts.tail else .ok (l,ts)
def gg:PP (List Nd):=bd (aU [40]) fun _=>bd kH fun l ts=>bd (eU ts.length l) (fun l=>bd (aU [41]) fun _=>ret l) ts
def vi (x:PP Nd):PP Nd:=bd (cK 1) fun t=>bd (aU [58]) fun _=>bd x fun y=>ret (.mk 22 t.text 0 t.at_ [y])
def lM (x:PP Nd):Nat→List Nd→PP (List Nd)
 | 0,l=>ret l
 | f + 1,l=>bd (vi x) fun m ts=>if aY [44] ts then lM x f (l ++ [m]) ts.tail else .ok (l ++ [m],ts)
def kR (x:PP Nd):PP (List Nd):=fun ts=>bd (lM x (ts.length + 1) []) (fun l=>bd (aU [125]) fun _=>ret l) ts
abbrev LLo:=Option (PP Nd)
def bV (lo:LLo):PP Nd:=fun ts=>
 if (hd ts).kind=1 then dn 21 ts
 else if aY [102,108,97,103] ts then .ok (.mk 10 [] 0 (hd ts).at_ [],ts.tail)
 else if aY [114,101,103,105,115,116,101,114] ts then .ok (.mk 18 [] 0 (hd ts).at_ [],ts.tail)
 else if aY [115,101,116] ts then bd bJ (fun l=>ret (.mk 13 [] 0 (hd ts).at_ l)) ts.tail
 else if aY [102,108,97,116] ts then bd bJ (fun l=>ret (.mk 17 [] 0 (hd ts).at_ l)) ts.tail
 else if aY [109,97,112] ts then ea lo [109,97,112] (fun x=>bd bJ fun l=>bd x fun y=>ret (.mk 14 [] 0 (hd ts).at_ (l ++ [y]))) ts
 else if aY [109,97,120] ts then bd (lh ig) (fun l=>ret (.mk 11 [] 0 (hd ts).at_ l)) ts.tail
 else if aY [109,105,110] ts then bd (lh ig) (fun l=>ret (.mk 12 [] 0 (hd ts).at_ l)) ts.tail
 else if aY [108,101,120] ts then ea lo [108,101,120] (fun x=>bd (lh x) fun l=>ret (.mk 16 [] 0 (hd ts).at_ l)) ts
 else if aY [123] ts then ea lo [123] (fun x=>bd (kR x) fun l=>ret (.mk 15 [] 0 (hd ts).at_ l)) ts
 else if aY [99,108,111,115,101,100] ts then bd gg (fun l=>ret (.mk 19 [] 0 (hd ts).at_ l)) ts.tail
 else .error (2,(hd ts).at_)
def gX:Nat→PP Nd
 | 0=>bV none
 | k + 1=>bV (some (gX k))
def dW:Nat→LLo
 | 0=>none
 | k + 1=>some (gX k)
theorem fg (k:Nat):gX k=bV (dW k):=by cases k <;> rfl
def eV:PP Int:=fun ts=>
 if aY [105,110,116] ts then .ok (1,ts.tail)
 else if aY [98,111,111,108] ts then .ok (2,ts.tail)
 else if aY [110,97,109,101] ts then .ok (3,ts.tail)
 else if aY [110,97,109,101,115] ts then .ok (4,ts.tail)
 else .error (2,(hd ts).at_)
def eA:PP Nd:=bd (cK 1) fun t=>bd (aU [58]) fun _=>bd eV fun s=>ret (.mk 6 t.text s t.at_ [])
def wK (at_ kind:Int):PP Nd:=bd (cK 1) fun t=>bd (aU [40]) fun _=>bd (dY eA) fun ps=>bd (aU [111,110]) fun _=>bd (dn 48) fun o=>
 bd (if kind=5 then bd (aU [58]) fun _=>eV else ret 0) fun n=>bd (aU [61]) fun _=>bd (aJ (bp 64)) fun e=>bd (aU [59]) fun _=>ret (.mk kind t.text n at_ (ps ++ [o] ++ [e]))
def Eu (at_ kind:Int) (s:Bs):PP Nd:=bd (cK 1) fun t=>bd (aU s) fun _=>bd (gX 64) fun x=>bd (aU [59]) fun _=>ret (.mk kind t.text 0 at_ [x])
def eE:PP Nd:=fun ts=>
 if aY [108,97,116,116,105,99,101] ts then Eu (hd ts).at_ 2 [61] ts.tail
 else if aY [111,98,106,101,99,116] ts then Eu (hd ts).at_ 3 [58] ts.tail
 else if aY [117,112,100,97,116,101] ts then wK (hd ts).at_ 4 ts.tail
 else if aY [113,117,101,114,121] ts then wK (hd ts).at_ 5 ts.tail
 else .error (2,(hd ts).at_)
def jd:Nat→List Nd→PP (List Nd)
 | 0,l=>ret l
 | f + 1,l=>fun ts=>if (hd ts).kind=6 then .ok (l,ts) else bd eE (fun d=>jd f (l ++ [d])) ts
def ft:PP Nd:=fun ts=>bd (jd (ts.length + 1) []) (fun l=>ret (.mk 1 [] 0 0 l)) ts
def mF (p:PP Nd) (ts:List Tk):Except kc Nd:=match p ts with
 | .error e=>.error e
 | .ok (n,r)=>if (hd r).kind=6 then .ok n else .error (2,(hd r).at_)
theorem wM:∀ f l,Dn (dM f l)
 | 0,l=>Dn.ret l
 | f + 1,l=>by
   intro ts r b hb
   simp only[dM] at hb
   split at hb
   ·exact Dn.tl (jM.aO fun m=>wM f _) hb
   ·cases hb; exact afJ _
theorem wO:Dn ej:=jM.lf fun n ts r b hb=>(wM _ _).of hb
theorem nV:Dn bJ:=by
 intro ts r b hb
 unfold bJ at hb
 split at hb
 ·exact Dn.tl (wO.aO fun _=>(bG _).aO fun _=>Dn.ret _) hb
 ·cases hb; exact afJ _
theorem Ap {p:PP Nd} (h:Dn p):Dn (lh p):=(bG _).aO fun _=>h.aO fun _=>(bG _).aO fun _=>h.aO fun _=>(bG _).aO fun _=>Dn.ret _
theorem FL:Dn kH:=by
 intro ts r b hb
 unfold kH at hb
 split at hb
 ·exact wO.of hb
 ·cases hb; exact afJ _
theorem wP:Dn jx:=by
 intro ts r b hb
 unfold jx at hb
 exact Dn.of (FL.aO fun _=>(bG _).aO fun _=>jM.aO fun _=>Dn.ret _) hb
theorem yZ:∀ f l,Dn (eU f l)
 | 0,l=>Dn.ret l
 | f + 1,l=>by
   intro ts r b hb
   simp only[eU] at hb
   split at hb
   ·exact Dn.tl (wP.aO fun m=>yZ f _) hb
   ·cases hb; exact afJ _
theorem Ev:Dn gg:=(bG _).aO fun _=>FL.lf fun l ts r b hb=>Dn.of ((yZ _ l).aO fun _=>(bG _).aO fun _=>Dn.ret _) hb
theorem FM {x:PP Nd} (h:Dn x):Dn (vi x):=(eR 1).aO fun _=>(bG _).aO fun _=>h.aO fun _=>Dn.ret _
theorem FN {x:PP Nd} (h:Dn x):∀ f l,Dn (lM x f l)
 | 0,l=>Dn.ret l
 | f + 1,l=>(FM h).lf fun m ts r b hb=>by
   split at hb
   ·exact Dn.tl (FN h f _) hb
   ·cases hb; exact afJ _
theorem Kx {x:PP Nd} (h:Dn x):Dn (kR x):=by
 intro ts r b hb
 unfold kR at hb
 exact Dn.of ((FN h _ _).aO fun _=>(bG _).aO fun _=>Dn.ret _) hb
theorem kj {α:Type} {c:Prop} [Decidable c] {x y:Except kc (α × List Tk)} {n:Nat} (hx:∀ b r,x= .ok (b,r)→r.length≤n) (hy:∀ b r,y= .ok (b,r)→r.length≤n):∀ b r,(if c then x else y)= .ok (b,r)→r.length≤n:=by
 intro b r h
 by_cases hc:c
 ·rw[if_pos hc] at h; exact hx b r h
 ·rw[if_neg hc] at h; exact hy b r h
theorem Q5 {α:Type} {n:α} {ts:List Tk}:∀ b r,(Except.ok (n,ts.tail):Except kc (α × List Tk))= .ok (b,r)→r.length≤ts.length:=by
 intro b r h; cases h; exact fe _
theorem Aq {lo:LLo} (hl:∀ x,lo=some x→Dn x):Dn (bV lo):=by
 intro ts r b hb
 unfold bV at hb
 revert b r
 suffices h:∀ b r,bV lo ts= .ok (b,r)→r.length≤ts.length from fun r b hb=>h b r hb
 unfold bV
 refine kj (fun b r h=>(oK _).of h) (kj Q5 (kj Q5 (kj (fun b r h=>Dn.tl (nV.aO fun _=>Dn.ret _) h) (kj (fun b r h=>Dn.tl (nV.aO fun _=>Dn.ret _) h) (kj ?_ (kj (fun b r h=>Dn.tl ((Ap Aj).aO fun _=>Dn.ret _) h) (kj (fun b r h=>Dn.tl ((Ap Aj).aO fun _=>Dn.ret _) h) (kj ?_ (kj ?_ (kj (fun b r h=>Dn.tl (Ev.aO fun _=>Dn.ret _) h) fun b r h=>?_))))))))))
 ·intro b r h; exact Dn.of (kO fun x hx=>nV.aO fun _=>(hl x hx).aO fun _=>Dn.ret _) h
 ·intro b r h; exact Dn.of (kO fun x hx=>(Ap (hl x hx)).aO fun _=>Dn.ret _) h
 ·intro b r h; exact Dn.of (kO fun x hx=>(Kx (hl x hx)).aO fun _=>Dn.ret _) h
 ·cases h
theorem rR:∀ k,Dn (gX k)
 | 0=>Aq fun x hx=>by cases hx
 | k + 1=>Aq fun x hx=>by cases hx; exact rR k
theorem Ew (k:Nat):∀ x,dW k=some x→Dn x:=by
 intro x hx
 cases k with
 | zero=>cases hx
 | succ k=>cases hx; exact rR k
theorem rS:Dn eV:=by
 intro ts r b hb
 unfold eV at hb
 split at hb
 ·cases hb; exact fe _
 split at hb
 ·cases hb; exact fe _
 split at hb
 ·cases hb; exact fe _
 split at hb
 ·cases hb; exact fe _
 ·cases hb
theorem y0:Dn eA:=(eR 1).aO fun _=>(bG _).aO fun _=>rS.aO fun _=>Dn.ret _
theorem B9 (a k:Int):Dn (wK a k):=(eR 1).aO fun _=>(bG _).aO fun _=>(wD y0).aO fun _=>(bG _).aO fun _=>(oK _).aO fun _=>Dn.aO (by
 split
 ·exact (bG _).aO fun _=>rS
 ·exact Dn.ret _) fun _=>(bG _).aO fun _=>(nO (dG 64)).aO fun _=>(bG _).aO fun _=>Dn.ret _
theorem FO (a k:Int) (s:Bs):Dn (Eu a k s):=(eR 1).aO fun _=>(bG _).aO fun _=>(rR 64).aO fun _=>(bG _).aO fun _=>Dn.ret _
theorem wQ {ts r:List Tk} {n:Nd} (h:eE ts= .ok (n,r)) (hn:ts≠[]):r.length < ts.length:=by
 have hp:=aho.2 hn
 have ht:ts.tail.length=ts.length - 1:=by simp
 unfold eE at h
 split at h
 ·have:=(FO _ _ _).of h; omega
 split at h
 ·have:=(FO _ _ _).of h; omega
 split at h
 ·have:=(B9 _ _).of h; omega
 split at h
 ·have:=(B9 _ _).of h; omega
 ·cases h
end Go.Proofs.YtmhdkbmnpekpoaaGreatDoor
