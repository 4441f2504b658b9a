import Derived.Test.YtmhdkbmnpekpoaaGreatDoorB2
import Derived.Lib.AppendIntMem
import Derived.Lib.SmallJoins
section
namespace Gx
open Go
universe u_1 u_2
@[go_sem] theorem tiny0:∀ (n:Nat),0 + n=n:=@Nat.zero_add
@[go_sem] theorem tiny1:∀ (n:Nat),n + 0=n:=@Nat.add_zero
@[go_sem] theorem tiny2:∀ (n:Nat),Nat.succ n≠0:=@Nat.succ_ne_zero
@[go_sem] theorem tiny3:0≠1:=@Nat.zero_ne_one
@[go_sem] theorem tiny5:(!true)=false:=@Bool.not_true
@[go_sem] theorem tiny6:(!false)=true:=@Bool.not_false
@[go_sem] theorem tiny7:(true=false)=False:=@Bool.true_eq_false
@[go_sem] theorem tiny10:∀ {α:Type u_1} (val val_1:α),(some val=some val_1)=(val=val_1):=@Option.some.injEq
@[go_sem] theorem tiny12:∀ {α:Type u_1} {β:Type u_2} {f:α→β} {a:α} {l:List α},List.map f (a :: l)=f a :: List.map f l:=@List.map_cons
@[go_sem] theorem tiny13:∀ {α:Type u_1} {β:Type u_2} {f:α→β},List.map f []=[]:=@List.map_nil
@[go_sem] theorem tiny14:∀ {α:Type u_1} {a:α} {zs:List α},List.length (a :: zs)=List.length zs + 1:=@List.length_cons
@[go_sem] theorem tiny15:∀ {α:Type u_1} {a:α} {l:List α},(a :: l)[0]?=some a:=@List.getElem?_cons_zero
@[go_sem] theorem tiny16:∀ {α:Type u_1} {a:α} {i:Nat} {l:List α},(a :: l)[i + 1]?=l[i]?:=@List.getElem?_cons_succ
@[go_sem] theorem tiny17:∀ {α:Type u_1} {x:α} {xs:List α} {a:α},List.set (x :: xs) 0 a=a :: xs:=@List.set_cons_zero
@[go_sem] theorem tiny18:∀ {α:Type u_1} {x:α} {xs:List α} {i:Nat} {a:α},List.set (x :: xs) (i + 1) a=x :: List.set xs i a:=@List.set_cons_succ
@[go_sem] theorem tiny20:∀ (b:Bool),(b || false)=b:=@Bool.or_false
@[go_sem] theorem tiny21:∀ (b:Bool),(false || b)=b:=@Bool.false_or
@[go_sem] theorem tiny22:∀ (b:Bool),(b || true)=true:=@Bool.or_true
@[go_sem] theorem tiny23:∀ (b:Bool),(true || b)=true:=@Bool.true_or
@[go_sem] theorem tiny25:∀ {α:Type u_1} (l₁ l₂:List α),List.toArray l₁ ++ List.toArray l₂=List.toArray (l₁ ++ l₂):=@List.append_toArray
@[go_sem] theorem tiny26:∀ {α:Type u_1} (zs:List α),[] ++ zs=zs:=@List.nil_append
@[go_sem] theorem tiny27:∀ {α:Type u_1} {a:α} {zs bs:List α},a :: zs ++ bs=a :: (zs ++ bs):=@List.cons_append
@[go_sem] theorem tiny28:∀ {α:Type u_1} {zs:List α},Array.size (List.toArray zs)=List.length zs:=@List.size_toArray
@[go_sem] theorem tiny29:∀ {α:Type u_1} {xs:Array α},xs ++ #[]=xs:=@Array.append_empty
@[go_sem] theorem tiny30:∀ (n:Nat),Int.toNat ↑n=n:=@Int.toNat_natCast
@[go_sem] theorem tiny31:∀ (n:Nat),n * 1=n:=@Nat.mul_one
@[go_sem] theorem tiny32:∀ (n:Nat),1 * n=n:=@Nat.one_mul
@[go_sem] theorem tiny33:∀ {p:Prop} [inst:Decidable p],(decide p=true)=p:=@decide_eq_true_eq
@[go_sem] theorem tiny34:∀ {p:Prop} {x:Decidable p},decide p=false↔¬p:=@decide_eq_false_iff_not
@[go_sem] theorem tiny35:∀ (a b:Bool),((a && b)=true)=(a=true∧b=true):=@Bool.and_eq_true
@[go_sem] theorem tiny39:∀ {a b:Int},¬a < b↔b≤a:=@Int.not_lt
@[go_sem] theorem tiny43:∀ {α:Sort u_1} (a b:α),(a≠b)= ¬a=b:=@ne_eq
@[go_sem] theorem tiny44:(¬True)=False:=@not_true_eq_false
@[go_sem] theorem tiny45:(¬False)=True:=@not_false_eq_true
@[go_sem] theorem tiny46:∀ (p:Prop),(p∧p)=p:=@and_self
@[go_sem] theorem tiny47:∀ (h:Decidable True),decide True=true:=@decide_true
@[go_sem] theorem tiny48:∀ (h:Decidable False),decide False=false:=@decide_false
@[go_sem] theorem tiny49:∀ {α:Sort u_1} (a b:α),(bif true then a else b)=a:=@cond_true
@[go_sem] theorem tiny50:∀ {α:Sort u_1} (a b:α),(bif false then a else b)=b:=@cond_false
@[go_sem] theorem tiny51:∀ {α:Type u_1} {l:List α},List.take 0 l=[]:=@List.take_zero
@[go_sem] theorem tiny52:∀ {α:Type u_1} {l:List α},List.drop 0 l=l:=@List.drop_zero
@[go_sem] theorem tiny53:∀ {α:Type u_1} {a:α} {zs:List α} {i:Nat},List.take (i + 1) (a :: zs)=a :: List.take i zs:=@List.take_succ_cons
@[go_sem] theorem tiny54:∀ {α:Type u_1} {a:α} {l:List α} {i:Nat},List.drop (i + 1) (a :: l)=List.drop i l:=@List.drop_succ_cons
@[go_sem] theorem tiny55:∀ {α:Type u_1} (zs:List α),zs ++ []=zs:=@List.append_nil
@[go_sem] theorem tiny59:∀ {α:Type u_1} {xs:List α} {i:Nat},(List.toArray xs)[i]?=xs[i]?:=@List.getElem?_toArray
@[go_sem] theorem tiny60:∀ (b:Bool),(true && b)=b:=@Bool.true_and
@[go_sem] theorem tiny61:∀ (b:Bool),(false && b)=false:=@Bool.false_and
@[go_sem] theorem tiny62:∀ (b:Bool),(b && true)=b:=@Bool.and_true
@[go_sem] theorem tiny63:∀ (b:Bool),(b && false)=false:=@Bool.and_false
@[go_sem] theorem tiny70:∀ (p:Prop),(False∧p)=False:=@false_and
@[go_sem] theorem tiny71:∀ (p:Prop),(p∧False)=False:=@and_false
attribute [go_sem] Nat.reduceAdd Nat.reduceSub Nat.reduceMul Nat.reduceEqDiff Nat.reduceLT Nat.reduceLeDiff Nat.reduceBEq reduceCtorEq Int.reduceLE Int.reduceLT Int.reduceEq Int.reduceNeg Int.reduceToNat Int.reduceAdd Int.reduceSub
attribute [go_sem ↓] reduceIte Bool.false_eq_true
attribute [go_sem] Value.cells Bool.false_eq_true Int.cast_ofNat_Int List.drop_nil List.elem_cons List.length_nil List.take_nil Option.isNone_none Option.isSome_none
end Gx
end
section
namespace Gx
open Go
def RepP (H:Heap) (B:Nat→Prop) (d:Dat) (cs:List Value):Prop:=∀ M:List Nat,(∀ x ∈ M,B x)→Rep H M d cs
def RepsP (H:Heap) (B:Nat→Prop) (l:List Dat) (css:List (List Value)):Prop:=∀ M:List Nat,(∀ x ∈ M,B x)→Reps H M l css
def StaysP (H:Heap) (B:Nat→Prop) (H':Heap) (B':Nat→Prop):Prop:=∀ b,b < H.size→¬ B b→¬ B' b∧H'[b]?=H[b]?
section
variable {H H':Heap} {B B':Nat→Prop} {M:List Nat} {d:Dat} {cs:List Value} {l:List Dat} {css:List (List Value)}
theorem StaysP.list (hs:StaysP H B H' B') {M':List Nat} (hM:∀ x ∈ M',B' x):∃ M,(∀ x ∈ M,B x)∧Stays H M H' M':=by
 classical
 refine ⟨(List.range H.size).filter (fun b=>decide (B b)),fun x hx=>by simpa using (List.mem_filter.1 hx).2,fun b hb hn=>?_⟩
 have hB:¬ B b:=fun h=>hn (List.mem_filter.2 ⟨List.mem_range.2 hb,by simpa using h⟩)
 obtain ⟨h1,h2⟩:=hs b hb hB
 exact ⟨fun hm=>h1 (hM b hm),h2⟩
theorem RepP.to (h:RepP H B d cs) (hs:StaysP H B H' B'):RepP H' B' d cs:=fun M' hM=>by
 obtain ⟨M,h1,h2⟩:=hs.list hM
 exact Rep.to h2 d cs (h M h1)
theorem RepsP.to (h:RepsP H B l css) (hs:StaysP H B H' B'):RepsP H' B' l css:=fun M' hM=>by
 obtain ⟨M,h1,h2⟩:=hs.list hM
 exact Reps.to h2 l css (h M h1)
theorem StaysP.fr (hf:Fr M H H') (hm:∀ x ∈ M,B x∨H.size≤x) (hb:∀ x,B' x→B x∨H.size≤x):StaysP H B H' B':=fun b hb' hn=>
 ⟨fun h=>by rcases hb b h with q | q; exact hn q; omega,hf.same b hb' fun h=>by rcases hm b h with q | q; exact hn q; omega⟩
theorem StaysP.ext (hf:Fr [] H H') (hb:∀ x,B' x→B x∨H.size≤x):StaysP H B H' B':=StaysP.fr hf (by simp) hb
theorem RepP.fr (h:RepP H B d cs) (hf:Fr M H H') (hm:∀ x ∈ M,B x∨H.size≤x) (hb:∀ x,B' x→B x∨H.size≤x):RepP H' B' d cs:=h.to (StaysP.fr hf hm hb)
theorem RepP.ext (h:RepP H B d cs) (hf:Fr [] H H') (hb:∀ x,B' x→B x∨H.size≤x):RepP H' B' d cs:=h.to (StaysP.ext hf hb)
theorem RepP.more (h:RepP H B d cs) (hb:∀ x,B' x→B x∨H.size≤x):RepP H B' d cs:=h.ext (Fr.refl _ _) hb
theorem RepsP.more (h:RepsP H B l css) (hb:∀ x,B' x→B x∨H.size≤x):RepsP H B' l css:=h.to (StaysP.ext (Fr.refl _ _) hb)
theorem RepP.rep (h:RepP H B d cs):Rep H [] d cs:=h [] (by simp)
theorem RepP.of_rep (h:Rep H [] d cs):RepP H (fun _=>False) d cs:=fun M hM=>by
 have:M=[]:=by
  cases M with
  | nil=>rfl
  | cons x r=>exact (hM x (by simp)).elim
 subst this; exact h
theorem RepsP.nil:RepsP H B [] []:=fun M _=>by simp [Reps]
theorem RepsP.cons {x:List Value} (h:RepP H B d x) (hs:RepsP H B l css):RepsP H B (d :: l) (x :: css):=fun M hM=>by
 simp only [Reps]; exact ⟨x,css,rfl,h M hM,hs M hM⟩
theorem RepsP.append {l':List Dat} {css':List (List Value)} (h:RepsP H B l css) (h':RepsP H B l' css'):RepsP H B (l ++ l') (css ++ css'):=fun M hM=>Reps.append (h M hM) (h' M hM)
theorem RepP.nil (m:Nat):RepP H B (.list m []) [.slice none 0 0]:=fun M _=>Rep.nil m
def LsO (H:Heap) (B:Nat→Prop) (e m:Nat) (v:Value) (ds:List Dat) (g:Option Nat):Prop:=
 ∃ css,Own H e m v ds.length css.flatten g∧(∀ x ∈ css,x.length=m)∧RepsP H (fun b=>B b∨g=some b) ds css
variable {e m:Nat} {v:Value} {ds:List Dat} {g:Option Nat}
theorem LsO.nil:LsO H B e m (.slice none 0 0) [] none:=⟨[],Own.nil _ _ _,by simp,RepsP.nil⟩
theorem LsO.fr (h:LsO H B e m v ds g) (hf:Fr M H H') (hm:∀ x ∈ M,B x∨H.size≤x) (hg:∀ b,g=some b→b ∉ M) (hb:∀ x,B' x→B x∨H.size≤x):LsO H' B' e m v ds g:=by
 obtain ⟨css,h1,h2,h3⟩:=h
 refine ⟨css,h1.fr hf hg,h2,h3.to (StaysP.fr hf (fun x hx=>(hm x hx).imp .inl id) fun x hx=>?_)⟩
 rcases hx with hx | hx
 ·exact (hb x hx).imp .inl id
 ·exact .inl (.inr hx)
theorem LsO.ext (h:LsO H B e m v ds g) (hf:Fr [] H H') (hb:∀ x,B' x→B x∨H.size≤x):LsO H' B' e m v ds g:=h.fr hf (by simp) (by simp) hb
theorem LsO.lt (h:LsO H B e m v ds g) {b:Nat} (hg:g=some b):b < H.size:=by
 obtain ⟨css,h1,_⟩:=h
 exact h1.lt hg
theorem LsO.slice (h:LsO H B e m v ds g):∃ a c,v= .slice a ds.length c∧ds.length≤c∧c≤maxLen:=by
 obtain ⟨css,h1,_⟩:=h
 rcases h1.2 with ⟨_,rfl,h0⟩ | ⟨b,cap,cur,_,rfl,_,h4,h5,_⟩
 ·rw [h0]; exact ⟨none,0,rfl,Nat.le_refl _,Nat.zero_le _⟩
 ·exact ⟨_,_,rfl,h4,h5⟩
theorem LsO.rep (h:LsO H B e m v ds g) (hg:∀ b,g=some b→¬ B b):RepP H B (.list m ds) [v]:=fun M hM=>by
 obtain ⟨css,h1,h2,h3⟩:=h
 have hr:Reps H M ds css:=h3 M fun x hx=>.inl (hM x hx)
 have h1':=h1
 rcases h1.2 with ⟨_,rfl,h0⟩ | ⟨b,cap,cur,hb,rfl,hc,h4,h5,h6,h7⟩
 ·have:ds=[]:=List.eq_nil_of_length_eq_zero h0
  subst this
  exact Rep.nil m
 ·simp only [Rep]
  refine ⟨_,cap,css,rfl,h4,h5,hr,h2,?_⟩
  rcases Own.csR h1' with h8 | ⟨b',o,h8,h9⟩
  ·exact .inl h8
  ·simp at h8; obtain ⟨rfl,rfl⟩:=h8
   exact .inr ⟨b,0,rfl,fun hm=>hg b hb (hM b hm),h9⟩
theorem App_ls {P:Program} {t tx bytes tn nb n1 c1:Nat} {z:Value} {R:Value→Heap→Prop} (hE:ElemOk P t e m bytes z) (h:LsO H B e m v ds g) {ex:Nat} (hk:P.underlying tx=some (.slice ex)) (hn:Blk H nb tn cs) (hl:cs.length=m)
 (hc:∀ u ∈ cs,u.oneCell'=true) (hd:RepP H (fun b=>B b∨g=some b) d cs) (h1:n1=1) (h63:ds.length + 1≤maxLen) (hb:(ds.length + 1) * bytes≤140737488355328)
 (hR:∀ a c H' g',LsO H' B e m (.slice a (ds.length + 1) c) (ds ++ [d]) g'→Fr g.toList H H'→(∀ b,g'=some b→g=some b∨H.size≤b)→R (.slice a (ds.length + 1) c) H'):App P t tx t H v (.slice (some ⟨nb,0,none⟩) n1 c1) R:=by
 subst h1
 obtain ⟨css,ho,h2,h3⟩:=h
 refine App_own hE ho (m:=1) (SrcH.blk hk hn (by omega) hc) h63 hb fun a c H' g' ho' hf hg'=>?_
 refine hR a c H' g' ⟨css ++ [cs],?_,?_,?_⟩ hf hg'
 ·rw [List.flatten_append]
  simpa using ho'
 ·intro x hx
  rcases List.mem_append.1 hx with hx | hx
  ·exact h2 x hx
  ·simp at hx; subst hx; exact hl
 ·have hst:StaysP H (fun b=>B b∨g=some b) H' (fun b=>B b∨g'=some b):=StaysP.fr hf (fun x hx=>.inl (.inr (by simpa using hx))) fun x hx=>by
   rcases hx with hx | hx
   ·exact .inl (.inl hx)
   ·exact (hg' x hx).imp .inr id
  exact (h3.to hst).append ((RepsP.nil.cons hd).to hst)
end
theorem RepP.elems {H:Heap} {B:Nat→Prop} {m:Nat} {l:List Dat} {v:Value} (h:RepP H B (.list m l) [v]):∃ a c,v= .slice a l.length c∧l.length≤c∧c≤maxLen:=Rep.slice h.rep
end Gx
end
section
set_option linter.unusedSimpArgs false
set_option linter.unusedVariables false
set_option maxRecDepth 8000
namespace Go.Proofs.YtmhdkbmnpekpoaaGreatDoor
open Gx Go
abbrev Bs:=List UInt8
def sv (s:Bs):Value:=.string ⟨⟨s⟩⟩
theorem ba_eq (a b:Bs):((⟨⟨a⟩⟩:ByteArray)=⟨⟨b⟩⟩)=(a=b):=by
 apply propext
 constructor
 ·intro h
  have:=congrArg (fun x=>x.data.toList) h
  simpa using this
 ·rintro rfl; rfl
theorem ba_size (a:Bs):ByteArray.size ⟨⟨a⟩⟩=a.length:=rfl
theorem ba_ext (l:Bs) (i j:Nat):ByteArray.extract ⟨⟨l⟩⟩ i j=⟨⟨(l.take j).drop i⟩⟩:=by
 apply ByteArray.ext
 simp [ByteArray.data_extract,List.drop_take]
theorem ba_app (a b:Bs):(⟨⟨a⟩⟩ ++ ⟨⟨b⟩⟩:ByteArray)=⟨⟨a ++ b⟩⟩:=by
 apply ByteArray.ext
 simp [ByteArray.data_append]
theorem succ_i64 (i n:Nat) (h:i < n) (hn:n≤maxLen):IntKind.i64.wrap ((i:Int) + 1)=((i + 1:Nat):Int):=by
 unfold maxLen at hn
 rw [wrap_i64_id _ (by omega) (by omega)]; omega
theorem z0:((0:Nat):Int)=0:=rfl
theorem n1:((1:Nat):Int)=1:=rfl
theorem new_fr {H H1 H2:Heap} (hf1:Fr [] H H1) (hf2:Fr [H.size] H1 H2):Fr [] H H2:=hf1.trans' hf2 (by simp)
def letB (c:UInt8):Bool:=decide ((97:Int)≤c.toNat) && decide ((c.toNat:Int)≤122)
def digB (c:UInt8):Bool:=decide ((48:Int)≤c.toNat) && decide ((c.toNat:Int)≤57)
def partB (c:UInt8):Bool:=letB c || (digB c || decide ((c.toNat:Int)=45))
def blankB (c:UInt8):Bool:=decide ((c.toNat:Int)=32) || (decide ((c.toNat:Int)=9) || (decide ((c.toNat:Int)=10) || decide ((c.toNat:Int)=13)))
def lineB (c:UInt8):Bool:=!decide ((c.toNat:Int)=10)
def validN (s:Bs):Bool:=decide (0 < s.length) && (decide (s.length≤16) && (letB (s.getD 0 0) && s.all partB))
def kwList:List Bs:=[
 [97,110,100],[98,111,111,108],[98,111,116,116,111,109],[99,108,111,115,101,100],[99,111,110,102,108,105,99,116],[101,108,115,101],[102,97,108,115,101],[102,105,114,115,116],[102,108,97,103],[102,108,97,116],[105,102],[105,110],[105,110,116],[106,111,105,110],[107,101,121,115],
 [108,97,116,116,105,99,101],[108,101,113],[108,101,120],[109,97,112],[109,97,120],[109,105,110],[110,97,109,101],[110,97,109,101,115],[110,111,116],[110,117,109],[110,117,109,98,101,114],[111,98,106,101,99,116],[111,110],[111,110,101],[111,114],[112,97,105,114],
 [113,117,101,114,121],[114,101,99],[114,101,103,105,115,116,101,114],[115],[115,101,99,111,110,100],[115,101,116],[115,105,122,101],[115,117,109],[116,104,101,110],[116,114,117,101],[117,112,100,97,116,101],[118,97,108,117,101,115],[119,114,105,116,101]]
def signList:List Bs:=[[61],[58],[59],[44],[40],[41],[123],[125],[91],[93],[46],[43],[45],[60],[60,61],[61,61],[61,62]]
def kwB (s:Bs):Bool:=decide (s ∈ kwList)
def signB (s:Bs):Bool:=decide (s ∈ signList)
structure Tk where
 kind:Int
 text:Bs
 n:Int
 at_:Int
 deriving DecidableEq
def tkC (t:Tk):List Value:=[.int .i64 t.kind,sv t.text,.int .i64 t.n,.int .i64 t.at_]
theorem tkC_len (t:Tk):(tkC t).length=4:=rfl
def skB:Bool→Bs→Nat
 | _,[]=>0
 | false,c :: r=>if blankB c then skB false r + 1 else if (c.toNat:Int)=35 then skB true r + 1 else 0
 | true,c :: r=>if lineB c then skB true r + 1 else skB false r + 1
def numF:Nat→Bs→Nat
 | a,[]=>a
 | a,c :: r=>numF (10 * a + (c.toNat - 48)) r
def numL (w:Bs):Nat:=numF 0 w
theorem numF_up:∀ (w:Bs) (a:Nat),a≤numF a w
 | [],a=>Nat.le_refl _
 | c :: r,a=>Nat.le_trans (by omega) (numF_up r (10 * a + (c.toNat - 48)))
inductive TR where
 | ok (kind:Int) (text:Bs) (n:Int) (len:Nat)
 | bad (code:Int)
 deriving DecidableEq
def tokW (w:Bs):TR:=if 16 < w.length then .bad 3 else .ok (if kwB w then 2 else 1) w 0 w.length
def tokD (w:Bs):TR:=if 1 < w.length∧w.getD 0 0=48 then .bad 2 else if 1000000000000000 < numL w then .bad 5 else .ok 3 [] (numL w) w.length
def tokQ (w s:Bs):TR:=if s=[]∨s.getD 0 0≠39 then .bad 2 else if validN w then .ok 4 w 0 (w.length + 2) else .bad 3
def tokG (s:Bs):TR:=if 2≤s.length∧signB (s.take 2)=true then .ok 5 (s.take 2) 0 2 else if signB (s.take 1)=true then .ok 5 (s.take 1) 0 1 else .bad 2
def tokS:Bs→TR
 | []=>.ok 6 [] 0 0
 | c :: r=>if letB c then tokW ((c :: r).takeWhile partB) else if digB c then tokD ((c :: r).takeWhile digB)
   else if (c.toNat:Int)=39 then tokQ (r.takeWhile partB) (r.dropWhile partB) else tokG (c :: r)
inductive LR where
 | bad (code:Int) (at_:Nat)
 | ok (l:List Tk)
 deriving DecidableEq
def LR.cons (t:Tk):LR→LR
 | .bad e k=>.bad e k
 | .ok l=>.ok (t :: l)
def lexF:Nat→Bs→Nat→LR
 | 0,_,_=>.bad 0 0
 | f + 1,s,o=>match tokS (s.drop (skB false s)) with
   | .bad e=>.bad e (o + skB false s)
   | .ok k t n m=>if k=6 then .ok [⟨k,t,n,(o + skB false s:Nat)⟩] else
     LR.cons ⟨k,t,n,(o + skB false s:Nat)⟩ (lexF f (s.drop (skB false s + m)) (o + skB false s + m))
def lexA (l:Bs) (o:Nat):LR:=lexF (l.length + 1) (l.drop o) o
def lexT (l:Bs):LR:=if 65536 < l.length then .bad 6 65536 else lexA l 0
def twN (p:UInt8→Bool) (l:Bs):Nat:=(l.takeWhile p).length
theorem twN_le (p:UInt8→Bool) (l:Bs):twN p l≤l.length:=(List.takeWhile_sublist p).length_le
theorem twN_nil (p:UInt8→Bool):twN p []=0:=rfl
theorem twN_cons (p:UInt8→Bool) (c:UInt8) (r:Bs):twN p (c :: r)=if p c then twN p r + 1 else 0:=by
 unfold twN
 rw [List.takeWhile_cons]
 split <;> rfl
theorem take_twN (p:UInt8→Bool) (l:Bs):l.take (twN p l)=l.takeWhile p:=by
 induction l with
 | nil=>rfl
 | cons c r ih=>
   rw [twN_cons,List.takeWhile_cons]
   split
   ·rw [List.take_succ_cons,ih]
   ·rfl
theorem drop_twN (p:UInt8→Bool) (l:Bs):l.drop (twN p l)=l.dropWhile p:=by
 induction l with
 | nil=>rfl
 | cons c r ih=>
   rw [twN_cons,List.dropWhile_cons]
   split
   ·rw [List.drop_succ_cons,ih]
   ·rfl
theorem twN_stop (p:UInt8→Bool) (l:Bs) (c:UInt8) (r:Bs) (h:l.drop (twN p l)=c :: r):p c=false:=by
 induction l with
 | nil=>simp at h
 | cons d t ih=>
   rw [twN_cons] at h
   split at h
   ·rw [List.drop_succ_cons] at h; exact ih h
   ·rename_i hp
    simp at h; rw [← h.1]; simpa using hp
theorem twN_at (p:UInt8→Bool) (l:Bs) (i:Nat) (h:i < l.length):twN p (l.drop i)=if p l[i] then twN p (l.drop (i + 1)) + 1 else 0:=by
 rw [List.drop_eq_getElem_cons h,twN_cons]
theorem twN_end (p:UInt8→Bool) (l:Bs) (i:Nat) (h:l.length≤i):twN p (l.drop i)=0:=by
 rw [List.drop_eq_nil_of_le h]; rfl
theorem skB_le:∀ (b:Bool) (l:Bs),skB b l≤l.length
 | false,[]=>by simp [skB]
 | true,[]=>by simp [skB]
 | false,c :: r=>by
   have h1:=skB_le false r
   have h2:=skB_le true r
   simp only [skB,List.length_cons]
   split
   ·omega
   ·split <;> omega
 | true,c :: r=>by
   have h1:=skB_le false r
   have h2:=skB_le true r
   simp only [skB,List.length_cons]
   split <;> omega
theorem skB_run:∀ l:Bs,skB false l=twN blankB l + skB false (l.drop (twN blankB l))
 | []=>by simp [skB,twN_nil]
 | c :: r=>by
   rw [twN_cons]
   split
   ·rename_i h
    rw [List.drop_succ_cons]
    have:=skB_run r
    simp only [skB,h,if_true]
    omega
   ·simp
theorem skB_line:∀ l:Bs,skB true l=twN lineB l + skB false (l.drop (twN lineB l))
 | []=>by simp [skB,twN_nil]
 | c :: r=>by
   rw [twN_cons]
   split
   ·rename_i h
    rw [List.drop_succ_cons]
    have:=skB_line r
    simp only [skB,h,if_true]
    omega
   ·rename_i h
    have h':(c.toNat:Int)=10:=by simpa [lineB] using h
    have hb:blankB c=true:=by simp [blankB,h']
    simp [skB,h,hb]
theorem skB_hash {c:UInt8} (h:(c.toNat:Int)=35) (r:Bs):skB false (c :: r)=twN lineB (c :: r) + skB false ((c :: r).drop (twN lineB (c :: r))):=by
 have hb:blankB c=false:=by simp [blankB]; omega
 have hl:lineB c=true:=by simp [lineB]; omega
 have:=skB_line r
 rw [twN_cons,if_pos hl,List.drop_succ_cons]
 simp only [skB,hb,h,if_true]
 simp; omega
theorem skB_other {c:UInt8} (hb:blankB c=false) (h:¬ (c.toNat:Int)=35) (r:Bs):skB false (c :: r)=0:=by
 simp [skB,hb,h]
theorem tokS_len {s:Bs} {k n:Int} {t:Bs} {m:Nat} (h:tokS s= .ok k t n m):m≤s.length∧(s≠[]→1≤m∧k≠6)∧(s=[]→k=6):=by
 cases s with
 | nil=>simp [tokS] at h; simp [h]
 | cons c r=>
   refine ⟨?_,fun _=>?_,fun e=>by cases e⟩
   all_goals
    simp only [tokS] at h
    split at h
    ·rename_i hc
     have hp:partB c=true:=by simp [partB,hc]
     have hle:=twN_le partB (c :: r)
     unfold twN at hle
     have h1:1≤((c :: r).takeWhile partB).length:=by rw [List.takeWhile_cons,if_pos hp]; simp
     unfold tokW at h
     split at h
     ·cases h
     ·simp only [TR.ok.injEq] at h
      obtain ⟨h2,_,_,h3⟩:=h
      first
       | omega
       | (refine ⟨by omega,?_⟩; rw [← h2]; split <;> decide)
    ·split at h
     ·rename_i _ hc
      have hle:=twN_le digB (c :: r)
      unfold twN at hle
      have h1:1≤((c :: r).takeWhile digB).length:=by rw [List.takeWhile_cons,if_pos hc]; simp
      unfold tokD at h
      split at h
      ·cases h
      ·split at h
       ·cases h
       ·simp only [TR.ok.injEq] at h
        obtain ⟨h2,_,_,h3⟩:=h
        first
         | omega
         | exact ⟨by omega,by omega⟩
     ·split at h
      ·have hle:=twN_le partB r
       have hd:=drop_twN partB r
       unfold twN at hle hd
       unfold tokQ at h
       split at h
       ·cases h
       ·rename_i hne
        have hlt:(r.takeWhile partB).length < r.length:=by
         rcases Nat.lt_or_ge (r.takeWhile partB).length r.length with h' | h'
         ·exact h'
         ·rw [List.drop_eq_nil_of_le h'] at hd
          exact absurd (.inl hd.symm) hne
        split at h
        ·simp only [TR.ok.injEq] at h
         obtain ⟨h2,_,_,h3⟩:=h
         try simp only [List.length_cons]
         first
          | omega
          | exact ⟨by omega,by omega⟩
        ·cases h
      ·unfold tokG at h
       split at h
       ·rename_i h2
        simp only [TR.ok.injEq] at h
        obtain ⟨h3,_,_,h4⟩:=h
        first
         | omega
         | exact ⟨by omega,by omega⟩
       ·split at h
        ·simp only [TR.ok.injEq] at h
         obtain ⟨h3,_,_,h4⟩:=h
         try simp only [List.length_cons]
         first
          | omega
          | exact ⟨by omega,by omega⟩
        ·cases h
theorem lexF_fuel:∀ (f g:Nat) (s:Bs) (o:Nat),s.length < f→s.length < g→lexF f s o=lexF g s o
 | 0,_,s,o,h,_=>by omega
 | _ + 1,0,s,o,_,h=>by omega
 | f + 1,g + 1,s,o,hf,hg=>by
   simp only [lexF]
   have hk:=skB_le false s
   cases e:tokS (s.drop (skB false s)) with
   | bad c=>rfl
   | ok k t n m=>
     simp only
     split
     ·rfl
     ·rename_i h6
      obtain ⟨h1,h2,h3⟩:=tokS_len e
      have hne:s.drop (skB false s)≠[]:=fun h=>h6 (h3 h)
      obtain ⟨h4,_⟩:=h2 hne
      have h5:0 < (s.drop (skB false s)).length:=List.length_pos_iff.2 hne
      simp only [List.length_drop] at h1 h5
      rw [lexF_fuel f g _ _ (by simp only [List.length_drop]; omega) (by simp only [List.length_drop]; omega)]
theorem lexA_open (l:Bs) (o:Nat) (ho:o≤l.length):lexA l o=match tokS (l.drop (o + skB false (l.drop o))) with
 | .bad e=>.bad e (o + skB false (l.drop o))
 | .ok k t n m=>if k=6 then .ok [⟨k,t,n,(o + skB false (l.drop o):Nat)⟩] else LR.cons ⟨k,t,n,(o + skB false (l.drop o):Nat)⟩ (lexA l (o + skB false (l.drop o) + m)):=by
 unfold lexA
 rw [lexF]
 rw [List.drop_drop]
 cases e:tokS (l.drop (o + skB false (l.drop o))) with
 | bad c=>rfl
 | ok k t n m=>
   simp only
   split
   ·rfl
   ·rename_i h6
    obtain ⟨h1,h2,h3⟩:=tokS_len e
    have hne:l.drop (o + skB false (l.drop o))≠[]:=fun h=>h6 (h3 h)
    obtain ⟨h4,_⟩:=h2 hne
    have h5:0 < (l.drop (o + skB false (l.drop o))).length:=List.length_pos_iff.2 hne
    simp only [List.length_drop] at h1 h5
    rw [List.drop_drop,show o + (skB false (l.drop o) + m)=o + skB false (l.drop o) + m by omega]
    rw [lexF_fuel l.length (l.length + 1) _ _ (by simp only [List.length_drop]; omega) (by simp only [List.length_drop]; omega)]
end Go.Proofs.YtmhdkbmnpekpoaaGreatDoor
end
section
set_option linter.unusedSimpArgs false
set_option linter.unusedVariables false
set_option maxRecDepth 8000
namespace Go.Proofs.YtmhdkbmnpekpoaaGreatDoor
open Gx Go
def FolB (s s':Bs):Prop:=s'=[]∨s'.getD 0 0=s.getD 0 0∧s≠[]∨blankB (s'.getD 0 0)=true∧s'≠[]
theorem blank_not {c:UInt8} (h:blankB c=true):letB c=false∧digB c=false∧partB c=false:=by
 simp only [blankB,Bool.or_eq_true,decide_eq_true_eq] at h
 simp only [partB,letB,digB,Bool.or_eq_false_iff,Bool.and_eq_false_iff,decide_eq_false_iff_not]
 omega
theorem takeWhile_behind (p:UInt8→Bool) (hp:∀ c,blankB c=true→p c=false):∀ (w s s':Bs),(w ++ s).takeWhile p=w→FolB s s'→(w ++ s').takeWhile p=w
 | [],s,s',h,hf=>by
   rw [List.nil_append] at h ⊢
   cases s' with
   | nil=>rfl
   | cons d t=>
     rcases hf with hf | hf | hf
     ·cases hf
     ·cases s with
      | nil=>exact absurd rfl hf.2
      | cons e u=>
        simp at hf
        rw [List.takeWhile_cons] at h ⊢
        rw [hf]
        split at h
        ·cases h
        ·rename_i hn; rw [if_neg hn]
     ·simp at hf
      rw [List.takeWhile_cons,if_neg (by rw [hp d hf]; decide)]
 | c :: w,s,s',h,hf=>by
   rw [List.cons_append,List.takeWhile_cons] at h ⊢
   split at h
   ·rename_i hc
    simp only [List.cons.injEq,true_and] at h
    rw [if_pos hc,takeWhile_behind p hp w s s' h hf]
   ·cases h
theorem part_blank:∀ c,blankB c=true→partB c=false:=fun c h=>(blank_not h).2.2
theorem dig_blank:∀ c,blankB c=true→digB c=false:=fun c h=>(blank_not h).2.1
theorem takeWhile_self (p:UInt8→Bool) (s:Bs):∃ r,s=s.takeWhile p ++ r∧s.dropWhile p=r:=⟨s.dropWhile p,(List.takeWhile_append_dropWhile).symm,rfl⟩
theorem signs_two:∀ a b:UInt8,signB [a,b]=true→(a,b)=(60,61)∨(a,b)=(61,61)∨(a,b)=(61,62):=by
 intro a b h
 simp only [signB,decide_eq_true_eq,signList,List.mem_cons,List.cons.injEq,List.not_mem_nil,or_false,false_or,and_true,reduceCtorEq,and_false,List.ne_cons_self] at h
 simp only [Prod.mk.injEq]
 simpa using h
theorem sign_blank (a b:UInt8) (h:blankB b=true):signB [a,b]=false:=by
 cases e:signB [a,b] with
 | false=>rfl
 | true=>
   exfalso
   simp only [blankB,Bool.or_eq_true,decide_eq_true_eq] at h
   rcases signs_two a b e with h1 | h1 | h1
   all_goals
    simp only [Prod.mk.injEq] at h1
    rw [h1.2] at h
    revert h; decide
theorem tokS_behind {w s s':Bs} {k n:Int} {t:Bs} (h:tokS (w ++ s)= .ok k t n w.length) (hw:w≠[]) (hf:FolB s s'):tokS (w ++ s')= .ok k t n w.length:=by
 cases w with
 | nil=>exact absurd rfl hw
 | cons c r=>
   rw [List.cons_append] at h ⊢
   simp only [tokS] at h ⊢
   split at h
   ·rename_i hc
    rw [if_pos hc]
    have e:(c :: (r ++ s)).takeWhile partB=c :: r:=by
     unfold tokW at h
     split at h
     ·cases h
     ·simp only [TR.ok.injEq] at h
      have h1:=h.2.2.2
      have h2:=take_twN partB (c :: (r ++ s))
      unfold twN at h2
      rw [← h2,h1]
      rw [← List.cons_append,List.take_left]
    have e':=takeWhile_behind partB part_blank (c :: r) s s' (by rw [List.cons_append]; exact e) hf
    rw [List.cons_append] at e'
    rw [e'] ; rw [e] at h; exact h
   ·rename_i hc
    rw [if_neg hc]
    split at h
    ·rename_i hd
     rw [if_pos hd]
     have e:(c :: (r ++ s)).takeWhile digB=c :: r:=by
      unfold tokD at h
      split at h
      ·cases h
      ·split at h
       ·cases h
       ·simp only [TR.ok.injEq] at h
        have h1:=h.2.2.2
        have h2:=take_twN digB (c :: (r ++ s))
        unfold twN at h2
        rw [← h2,h1]
        rw [← List.cons_append,List.take_left]
     have e':=takeWhile_behind digB dig_blank (c :: r) s s' (by rw [List.cons_append]; exact e) hf
     rw [List.cons_append] at e'
     rw [e']; rw [e] at h; exact h
    ·rename_i hd
     rw [if_neg hd]
     split at h
     ·rename_i hq
      rw [if_pos hq]
      unfold tokQ at h
      split at h
      ·cases h
      ·rename_i hne
       split at h
       ·rename_i hv
        simp only [TR.ok.injEq,List.length_cons] at h
        obtain ⟨h1,h2,h3,h4⟩:=h
        obtain ⟨q,hq1,hq2⟩:=takeWhile_self partB (r ++ s)
        rw [hq2] at hne
        generalize hu:(r ++ s).takeWhile partB=u at *
        -- r=u ++ [39]
        have hlen:r.length=u.length + 1:=by omega
        cases q with
        | nil=>exact absurd (.inl rfl) hne
        | cons d q'=>
          have hd39:d=39:=by
           by_cases hx:d=39
           ·exact hx
           ·exact absurd (.inr (by simpa using hx)) hne
          subst hd39
          have hr:r=u ++ [39]:=by
           have:=congrArg (List.take (u.length + 1)) hq1
           rw [← hlen,List.take_left] at this
           rw [this,hlen,show u ++ 39 :: q'=(u ++ [39]) ++ q' by simp]
           rw [show u.length + 1=(u ++ [39]).length by simp,List.take_left]
          subst hr
          have hall:∀ x ∈ u,partB x=true:=by
           intro x hx
           rw [← hu] at hx
           exact (List.all_eq_true.1 (List.all_takeWhile (p:=partB))) x hx
          have e1:(u ++ [39] ++ s').takeWhile partB=u:=by
           rw [List.append_assoc,List.takeWhile_append_of_pos hall]
           rw [List.cons_append,List.takeWhile_cons,if_neg (by decide)]; simp
          have e2:(u ++ [39] ++ s').dropWhile partB=39 :: s':=by
           rw [List.append_assoc,List.dropWhile_append_of_pos hall]
           rw [List.cons_append,List.dropWhile_cons,if_neg (by decide)]; rfl
          rw [e1,e2]
          unfold tokQ
          rw [if_neg (by simp),if_pos hv,h1,h2,h3]
          simp
       ·cases h
     ·rename_i hq
      rw [if_neg hq]
      unfold tokG at h ⊢
      split at h
      ·rename_i h2
       simp only [TR.ok.injEq,List.length_cons] at h
       obtain ⟨h3,h4,h5,h6⟩:=h
       cases r with
       | nil=>simp at h6
       | cons d r'=>
         cases r' with
         | cons _ _=>simp at h6
         | nil=>
           have h2':signB [c,d]=true:=h2.2
           have h4':[c,d]=t:=h4
           show (if 2≤(c :: d :: s').length∧signB [c,d]=true then TR.ok 5 [c,d] 0 2 else if signB [c]=true then TR.ok 5 [c] 0 1 else TR.bad 2)=TR.ok k t n 2
           rw [if_pos ⟨by simp,h2'⟩,h3,h4',h5]
      ·rename_i h2
       split at h
       ·rename_i h1
        simp only [TR.ok.injEq,List.length_cons] at h
        obtain ⟨h3,h4,h5,h6⟩:=h
        cases r with
        | cons _ _=>simp at h6
        | nil=>
          have h1':signB [c]=true:=h1
          have h4':[c]=t:=h4
          have h2':¬ (2≤(c :: s).length∧signB (c :: s.take 1)=true):=h2
          have hno:¬ (2≤(c :: s').length∧signB (c :: s'.take 1)=true):=by
           rintro ⟨g1,g2⟩
           cases s' with
           | nil=>simp at g1
           | cons d u=>
             simp only [List.take_succ_cons,List.take_zero] at g2
             rcases hf with hf | hf | hf
             ·cases hf
             ·cases s with
              | nil=>exact hf.2 rfl
              | cons e v=>
                simp at hf
                subst hf
                exact h2' ⟨by simp,by simpa using g2⟩
             ·simp at hf
              rw [sign_blank c d hf] at g2; cases g2
          show (if 2≤(c :: s').length∧signB (c :: s'.take 1)=true then TR.ok 5 (c :: s'.take 1) 0 2 else if signB [c]=true then TR.ok 5 [c] 0 1 else TR.bad 2)=TR.ok k t n 1
          rw [if_neg hno,if_pos h1',h3,h4',h5]
       ·cases h
end Go.Proofs.YtmhdkbmnpekpoaaGreatDoor
end
section
set_option linter.unusedSimpArgs false
set_option linter.unusedVariables false
set_option maxRecDepth 8000
namespace Go.Proofs.YtmhdkbmnpekpoaaGreatDoor
open Gx Go
theorem letter_ok (c:UInt8) (H:Heap):HCalls Tryz.prog 125 #[.int .u8 c.toNat] H fun r H'=>r= .bool (letB c)∧H'=H:=by
 refine calls_of_vc (args:=[_]) Tryz.func125 c125ok (Nat.le_of_ble_eq_true rfl) ?_
 unfold letB
 cases e:decide ((97:Int)≤c.toNat) <;> simp (implicitDefEqProofs:=false) only [go_sem,c125,e]
theorem digit_ok (c:UInt8) (H:Heap):HCalls Tryz.prog 127 #[.int .u8 c.toNat] H fun r H'=>r= .bool (digB c)∧H'=H:=by
 refine calls_of_vc (args:=[_]) Tryz.func127 c127ok (Nat.le_of_ble_eq_true rfl) ?_
 unfold digB
 cases e:decide ((48:Int)≤c.toNat) <;> simp (implicitDefEqProofs:=false) only [go_sem,c127,e]
theorem line_ok (c:UInt8) (H:Heap):HCalls Tryz.prog 124 #[.int .u8 c.toNat] H fun r H'=>r= .bool (lineB c)∧H'=H:=by
 refine calls_of_vc (args:=[_]) Tryz.func124 c124ok (Nat.le_of_ble_eq_true rfl) ?_
 unfold lineB
 simp (implicitDefEqProofs:=false) only [go_sem,c124]
theorem blank_ok (c:UInt8) (H:Heap):HCalls Tryz.prog 123 #[.int .u8 c.toNat] H fun r H'=>r= .bool (blankB c)∧H'=H:=by
 refine calls_of_vc (args:=[_]) Tryz.func123 c123ok (Nat.le_of_ble_eq_true rfl) ?_
 unfold blankB
 cases e:decide ((c.toNat:Int)=32) <;> cases e1:decide ((c.toNat:Int)=9) <;> cases e2:decide ((c.toNat:Int)=10) <;> simp (implicitDefEqProofs:=false) only [go_sem,c123,e,e1,e2]
theorem part_ok (c:UInt8) (H:Heap):HCalls Tryz.prog 126 #[.int .u8 c.toNat] H fun r H'=>r= .bool (partB c)∧H'=H:=by
 refine calls_of_vc (args:=[_]) Tryz.func126 c126ok (Nat.le_of_ble_eq_true rfl) ?_
 simp (implicitDefEqProofs:=false) only [go_sem,c126]
 refine (letter_ok c H).mono ?_
 rintro r H' ⟨rfl,rfl⟩
 unfold partB
 cases e:letB c
 ·simp (implicitDefEqProofs:=false) only [go_sem]
  refine (digit_ok c H').mono ?_
  rintro r H' ⟨rfl,rfl⟩
  cases e1:digB c <;> simp (implicitDefEqProofs:=false) only [go_sem]
 ·simp (implicitDefEqProofs:=false) only [go_sem]
theorem word_ok (c:UInt8) (H:Heap):HCalls Tryz.prog 110 #[.int .u8 c.toNat] H fun r H'=>r= .bool (partB c)∧H'=H:=by
 refine calls_of_vc (args:=[_]) Tryz.func110 c110ok (Nat.le_of_ble_eq_true rfl) ?_
 unfold partB letB digB
 by_cases h1:(97:Int)≤c.toNat <;> by_cases h2:(c.toNat:Int)≤122 <;> by_cases h3:(48:Int)≤c.toNat <;> by_cases h4:(c.toNat:Int)≤57 <;> by_cases h5:(c.toNat:Int)=45
 all_goals first
  | (exfalso; omega)
  | (simp (implicitDefEqProofs:=false) only [go_sem,c110,h1,h2,h3,h4,h5]; done)
  | (simp (implicitDefEqProofs:=false) only [go_sem,c110,h1,h2,h3,h4,h5]; simp [h1,h2,h3,h4,h5])
theorem valid_ok (s:Bs) (H:Heap):HCalls Tryz.prog 91 #[sv s] H fun r H'=>r= .bool (validN s)∧H'=H:=by
 refine calls_of_vc (args:=[_]) Tryz.func91 c91ok (Nat.le_of_ble_eq_true rfl) ?_
 unfold sv
 have hz:((s.length:Int)=0)=(s.length=0):=by apply propext; omega
 by_cases h0:s.length=0
 ·simp (implicitDefEqProofs:=false) only [go_sem,c91,ba_size,hz,h0]
  simp [validN,h0]
 by_cases h16:16 < s.length
 ·have h16':(16:Int) < (s.length:Int):=by omega
  simp (implicitDefEqProofs:=false) only [go_sem,c91,ba_size,hz,h0,h16']
  simp [validN,show ¬ s.length≤16 by omega]
 have h16':¬ (16:Int) < (s.length:Int):=by omega
 have hp:(0:Int) < (s.length:Int):=by omega
 have hn1:decide (0 < s.length)=true:=decide_eq_true (by omega)
 have hn2:decide (s.length≤16)=true:=decide_eq_true (by omega)
 unfold validN
 rw [hn1,hn2]
 generalize hc:s.getD 0 0=c
 by_cases l1:(c.toNat:Int) < 97
 ·simp (implicitDefEqProofs:=false) only [go_sem,c91,ba_size,hz,h0,h16',hp,hc,l1]
  simp [letB,show ¬ (97:Int)≤c.toNat by omega]
 by_cases l2:(122:Int) < (c.toNat:Int)
 ·simp (implicitDefEqProofs:=false) only [go_sem,c91,ba_size,hz,h0,h16',hp,hc,l1,l2]
  simp [letB,show ¬ (c.toNat:Int)≤122 by omega]
 have hl:letB c=true:=by simp [letB]; omega
 rw [hl]
 simp (implicitDefEqProofs:=false) only [go_sem,c91,ba_size,hz,h0,h16',hp,hc,l1,l2]
 refine vc_loop (fun (i:Nat) H'=>i≤s.length∧(s.drop i).all partB=s.all partB∧H'=H)
  (fun i=>[(0,.string ⟨⟨s⟩⟩),(23,.int .i64 s.length),(24,.int .i64 i)]) (fun i=>s.length - i) 0 ?_ ?_ ?_
 ·exact ⟨Nat.zero_le _,rfl,rfl⟩
 ·simp (implicitDefEqProofs:=false) only [go_sem]
 ·rintro i H' ⟨hi,hv,rfl⟩
  rcases Nat.lt_or_ge i s.length with hlt | hge
  ·have hlt':(i:Int) < (s.length:Int):=by omega
   have hi0:(0:Int)≤(i:Int):=by omega
   have hw:=succ_i64 i s.length hlt (by unfold maxLen; omega)
   have hg:s.getD i 0=s[i]:=by simp [hlt]
   rw [List.drop_eq_getElem_cons hlt,List.all_cons] at hv
   simp (implicitDefEqProofs:=false) only [go_sem,hlt',hi0,ba_size,hg]
   refine (word_ok s[i] H').mono ?_
   rintro r H2 ⟨rfl,rfl⟩
   cases e:partB s[i]
   ·simp (implicitDefEqProofs:=false) only [go_sem]
    rw [← hv,e,Bool.false_and]
   ·simp (implicitDefEqProofs:=false) only [go_sem]
    refine loopK_intro (i + 1) (by show s.length - (i + 1) < s.length - i; omega) ?_ ⟨hlt,?_,rfl⟩
    ·simp (implicitDefEqProofs:=false) only [go_sem,hw]
    ·rw [← hv,e,Bool.true_and]
  ·have hlt':¬ (i:Int) < (s.length:Int):=by omega
   simp (implicitDefEqProofs:=false) only [go_sem,hlt']
   rw [List.drop_eq_nil_of_le hge] at hv
   rw [← hv]; rfl
def strC (s:Bs):List Value:=[sv s]
theorem strC_len (x:Bs):(strC x).length=1:=rfl
theorem rowS_at {H:Heap} {a:Option Addr} {l:List Bs} (h:RowR strC H a l) (j:Nat) (hj:j < l.length):∃ b o,a=some ⟨b,o,none⟩∧cellB H b (o + j)=some (.string ⟨⟨l[j]⟩⟩):=by
 obtain ⟨b,o,h1,h2⟩:=RowR.get h strC_len j hj (by decide)
 exact ⟨b,o,h1,by simpa [strC,sv] using h2 0 (by decide)⟩
theorem rowS_blk {H:Heap} {b t:Nat} {vs:List Value} (l:List Bs) (h:Blk H b t vs) (hv:vs=l.map sv):RowR strC H (some ⟨b,0,none⟩) l:=by
 subst hv
 refine .inr ⟨b,0,rfl,fun j hj=>?_⟩
 have e:l.flatMap strC=l.map sv:=by
  clear h hj
  induction l with
  | nil=>rfl
  | cons x l ih=>simp [strC,ih]
 simp only [e] at hj ⊢
 rw [Nat.zero_add,h.cell,List.getElem?_eq_getElem hj]
theorem index_ok {H:Heap} {a:Option Addr} {l:List Bs} {c:Nat} (s:Bs) (h:RowR strC H a l) (hc:l.length≤maxLen) :
 HCalls Tryz.prog 121 #[.slice a l.length c,sv s] H fun r H'=>∃ k:Int,r= .int .i64 k∧((k < 0∧s ∉ l)∨∃ j:Nat,k=j∧∃ hj:j < l.length,l[j]=s∧∀ (i:Nat) (hi:i < j),l[i]≠s)∧H'=H:=by
 refine calls_of_vc (args:=[_,_]) Tryz.func121 c121ok (Nat.le_of_ble_eq_true rfl) ?_
 simp (implicitDefEqProofs:=false) only [go_sem,c121]
 refine vc_loop (fun (i:Nat) H'=>i≤l.length∧(∀ (k:Nat) (hk:k < i) (hl:k < l.length),l[k]≠s)∧H'=H)
  (fun i=>[(0,.slice a l.length c),(1,sv s),(7,.int .i64 l.length),(8,.int .i64 i)]) (fun i=>l.length - i) 0 ?_ ?_ ?_
 ·exact ⟨Nat.zero_le _,fun k hk=>by omega,rfl⟩
 ·simp (implicitDefEqProofs:=false) only [go_sem]
 ·rintro i H' ⟨hi,hall,rfl⟩
  rcases Nat.lt_or_ge i l.length with hlt | hge
  ·have hlt':(i:Int) < (l.length:Int):=by omega
   have h0:(0:Int)≤(i:Int):=by omega
   obtain ⟨b1,o1,rfl,h1⟩:=rowS_at h i hlt
   have hw:=succ_i64 i l.length hlt (by omega)
   by_cases e:s=l[i]
   ·simp (implicitDefEqProofs:=false) only [go_sem,hlt',h0,h1,sv,ba_eq,e]
    exact ⟨_,rfl,.inr ⟨i,rfl,hlt,rfl,fun k hk=>by rw [← e]; exact hall k hk (by omega)⟩⟩
   ·simp (implicitDefEqProofs:=false) only [go_sem,hlt',h0,h1,sv,ba_eq,e]
    refine loopK_intro (i + 1) (by show l.length - (i + 1) < l.length - i; omega) ?_ ⟨hlt,fun k hk hl=>?_,rfl⟩
    ·simp (implicitDefEqProofs:=false) only [go_sem,hw,sv]
    ·rcases Nat.lt_or_ge k i with q | q
     ·exact hall k q hl
     ·obtain rfl:k=i:=by omega
      exact Ne.symm e
  ·have hlt':¬ (i:Int) < (l.length:Int):=by omega
   simp (implicitDefEqProofs:=false) only [go_sem,hlt']
   refine ⟨_,rfl,.inl ⟨by decide,fun hm=>?_⟩⟩
   obtain ⟨k,hk,e⟩:=List.getElem_of_mem hm
   exact hall k (by omega) hk e
theorem contains_ok {H:Heap} {a:Option Addr} {l:List Bs} {c:Nat} (s:Bs) (h:RowR strC H a l) (hc:l.length≤maxLen):HCalls Tryz.prog 111 #[.slice a l.length c,sv s] H fun r H'=>r= .bool (decide (s ∈ l))∧H'=H:=by
 refine calls_of_vc (args:=[_,_]) Tryz.func111 c111ok (Nat.le_of_ble_eq_true rfl) ?_
 simp (implicitDefEqProofs:=false) only [go_sem,c111]
 refine (index_ok s h hc).mono ?_
 rintro r H1 ⟨k,rfl,hk,rfl⟩
 simp (implicitDefEqProofs:=false) only [go_sem]
 congr 1
 rw [Bool.eq_iff_iff,decide_eq_true_eq,decide_eq_true_eq]
 rcases hk with ⟨h1,h2⟩ | ⟨j,rfl,hj,e,_⟩
 ·exact ⟨fun h=>by omega,fun h=>absurd h h2⟩
 ·exact ⟨fun _=>by rw [← e]; exact List.getElem_mem _,fun _=>by omega⟩
theorem keyword_ok (s:Bs) (H:Heap):HCalls Tryz.prog 92 #[sv s] H fun r H'=>r= .bool (kwB s)∧Fr [] H H':=by
 refine calls_of_vc (args:=[_]) Tryz.func92 c92ok (Nat.le_of_ble_eq_true rfl) ?_
 simp (implicitDefEqProofs:=false) only [go_sem,c92]
 refine NewS_intro fun H1 hb1 hf1 hs1=>?_
 simp (implicitDefEqProofs:=false) only [go_sem]
 refine (contains_ok (l:=kwList) s (rowS_blk kwList hb1 rfl) (by decide)).mono ?_
 rintro r H2 ⟨rfl,rfl⟩
 simp (implicitDefEqProofs:=false) only [go_sem]
 exact ⟨rfl,hf1⟩
theorem sign_ok (s:Bs) (H:Heap):HCalls Tryz.prog 129 #[sv s] H fun r H'=>r= .bool (signB s)∧Fr [] H H':=by
 refine calls_of_vc (args:=[_]) Tryz.func129 c129ok (Nat.le_of_ble_eq_true rfl) ?_
 simp (implicitDefEqProofs:=false) only [go_sem,c129]
 refine NewS_intro fun H1 hb1 hf1 hs1=>?_
 simp (implicitDefEqProofs:=false) only [go_sem]
 refine (contains_ok (l:=signList) s (rowS_blk signList hb1 rfl) (by decide)).mono ?_
 rintro r H2 ⟨rfl,rfl⟩
 simp (implicitDefEqProofs:=false) only [go_sem]
 exact ⟨rfl,hf1⟩
end Go.Proofs.YtmhdkbmnpekpoaaGreatDoor
end
section
set_option linter.unusedSimpArgs false
set_option linter.unusedVariables false
set_option maxRecDepth 8000
namespace Go.Proofs.YtmhdkbmnpekpoaaGreatDoor
open Gx Go
theorem getD_at (l:Bs) (i:Nat) (h:i < l.length):l.getD i 0=l[i]:=by simp [h]
theorem run_ok {p:UInt8→Bool} {f:Nat} (hb:hasBody Tryz.prog f=true) (hp:∀ (c:UInt8) (H:Heap),HCalls Tryz.prog f #[.int .u8 c.toNat] H fun r H'=>r= .bool (p c)∧H'=H)
 {l:Bs} (hl:l.length≤maxLen) {H:Heap} {b at_:Nat} (hat:at_≤l.length) (h:Blk H b 115 [sv l,.int .i64 at_]) :
 HCalls Tryz.prog 122 #[.pointer (some ⟨b,0,none⟩),.func (.func f) #[] #[]] H fun r H'=>r=sv ((l.drop at_).takeWhile p)∧Blk H' b 115 [sv l,.int .i64 (at_ + twN p (l.drop at_):Nat)]∧Fr [b] H H':=by
 refine calls_of_vc (args:=[_,_]) Tryz.func122 c122ok (Nat.le_of_ble_eq_true rfl) ?_
 have hc:=h.cell
 simp (implicitDefEqProofs:=false) only [go_sem,c122,hc]
 refine vc_loop (fun (i:Nat) H'=>(at_≤i∧i≤l.length∧i + twN p (l.drop i)=at_ + twN p (l.drop at_))∧Blk H' b 115 [sv l,.int .i64 i]∧Fr [b] H H')
  (fun i=>[(0,.pointer (some ⟨b,0,none⟩)),(1,.func (.func f) #[] #[]),(5,.int .i64 at_)]) (fun i=>l.length - i) at_ ?_ ?_ ?_
 ·exact ⟨⟨Nat.le_refl _,hat,rfl⟩,h,Fr.refl _ _⟩
 ·simp (implicitDefEqProofs:=false) only [go_sem]
 ·rintro i H' ⟨⟨h1,h2,h3⟩,hb',hf⟩
  have hc':=hb'.cell
  have stop:twN p (l.drop i)=0→(l.drop at_).takeWhile p=(l.take i).drop at_∧Blk H' b 115 [sv l,.int .i64 (at_ + twN p (l.drop at_):Nat)]∧Fr [b] H H':=by
   intro h0
   rw [h0,Nat.add_zero] at h3
   rw [← h3]
   refine ⟨?_,hb',hf⟩
   rw [← take_twN,List.drop_take]
   congr 1; omega
  rcases Nat.lt_or_ge i l.length with hlt | hge
  ·have hlt':(i:Int) < (l.length:Int):=by omega
   have hi0:(0:Int)≤(i:Int):=by omega
   have hw:=succ_i64 i l.length hlt hl
   have hg:=getD_at l i hlt
   have ht:=twN_at p l i hlt
   simp (implicitDefEqProofs:=false) only [go_sem,hc',sv,ba_size,hlt',hi0,hg,hb]
   refine (hp l[i] H').mono ?_
   rintro r H2 ⟨rfl,hEq⟩
   obtain rfl:=hEq.symm
   cases e:p l[i]
   ·rw [e] at ht
    obtain ⟨q1,q2,q3⟩:=stop (by simpa using ht)
    have hle:(at_:Int)≤(i:Int):=by omega
    have hil:(i:Int)≤(l.length:Int):=by omega
    have ha0:(0:Int)≤(at_:Int):=by omega
    simp (implicitDefEqProofs:=false) only [go_sem,hc',sv,ba_size,hlt',hi0,hg,e,hle,hil,ha0]
    refine ⟨?_,q2,q3⟩
    rw [q1]
    exact congrArg Value.string (ba_ext l at_ i)
   ·rw [e] at ht
    simp (implicitDefEqProofs:=false) only [go_sem,hc',sv,ba_size,hlt',hi0,hg,e,hw]
    refine Sto_one hb' (by simp) rfl fun H3 hb3 hf3 hs3=>?_
    simp (implicitDefEqProofs:=false) only [go_sem]
    refine loopK_intro (i + 1) (by show l.length - (i + 1) < l.length - i; omega) ?_ ⟨⟨by omega,hlt,by simp at ht; omega⟩,?_,hf.trans hf3⟩
    ·simp (implicitDefEqProofs:=false) only [go_sem]
    ·exact hb3
  ·have hlt':¬ (i:Int) < (l.length:Int):=by omega
   have hi0:(0:Int)≤(i:Int):=by omega
   obtain ⟨q1,q2,q3⟩:=stop (twN_end p l i hge)
   have hle:(at_:Int)≤(i:Int):=by omega
   have hil:(i:Int)≤(l.length:Int):=by omega
   have ha0:(0:Int)≤(at_:Int):=by omega
   simp (implicitDefEqProofs:=false) only [go_sem,hc',sv,ba_size,hlt',hi0,hle,hil,ha0]
   refine ⟨?_,q2,q3⟩
   rw [q1]
   exact congrArg Value.string (ba_ext l at_ i)
theorem body_blank:hasBody Tryz.prog 123=true:=by kernel_rfl
theorem body_line:hasBody Tryz.prog 124=true:=by kernel_rfl
theorem skip_ok {l:Bs} (hl:l.length≤maxLen) {H:Heap} {b at_:Nat} (hat:at_≤l.length) (h:Blk H b 115 [sv l,.int .i64 at_]) :
 HCalls Tryz.prog 113 #[.pointer (some ⟨b,0,none⟩)] H fun r H'=>Blk H' b 115 [sv l,.int .i64 (at_ + skB false (l.drop at_):Nat)]∧Fr [b] H H':=by
 refine calls_of_vc (args:=[_]) Tryz.func113 c113ok (Nat.le_of_ble_eq_true rfl) ?_
 simp (implicitDefEqProofs:=false) only [go_sem,c113]
 refine vc_loop (fun (i:Nat) H'=>(at_≤i∧i≤l.length∧i + skB false (l.drop i)=at_ + skB false (l.drop at_))∧Blk H' b 115 [sv l,.int .i64 i]∧Fr [b] H H')
  (fun i=>[(0,.pointer (some ⟨b,0,none⟩))]) (fun i=>l.length - i) at_ ?_ ?_ ?_
 ·exact ⟨⟨Nat.le_refl _,hat,rfl⟩,h,Fr.refl _ _⟩
 ·simp (implicitDefEqProofs:=false) only [go_sem]
 ·rintro i H' ⟨⟨h1,h2,h3⟩,hb',hf⟩
  simp (implicitDefEqProofs:=false) only [go_sem]
  refine (run_ok body_blank blank_ok hl h2 hb').mono ?_
  rintro r H2 ⟨rfl,hb2,hf2⟩
  have hle:=twN_le blankB (l.drop i)
  simp only [List.length_drop] at hle
  have hr:=skB_run (l.drop i)
  rw [List.drop_drop] at hr
  generalize hk:i + twN blankB (l.drop i)=k at *
  have hc2:=hb2.cell
  have hF:=hf.trans hf2
  have hk0:(0:Int)≤(k:Int):=by omega
  rcases Nat.lt_or_ge k l.length with hlt | hge
  ·have hlt':¬ (l.length:Int)≤(k:Int):=by omega
   have hlt2:(k:Int) < (l.length:Int):=by omega
   have hg:=getD_at l k hlt
   have hnb:blankB l[k]=false:=by
    refine twN_stop blankB (l.drop i) l[k] (l.drop (k + 1)) ?_
    rw [List.drop_drop,hk,← List.drop_eq_getElem_cons hlt]
   by_cases e:(l[k].toNat:Int)=35
   ·simp (implicitDefEqProofs:=false) only [go_sem,hc2,sv,ba_size,hlt',hlt2,hk0,hg,e]
    refine (run_ok body_line line_ok hl (Nat.le_of_lt hlt) hb2).mono ?_
    rintro r H3 ⟨rfl,hb3,hf3⟩
    have hh:=skB_hash e (l.drop (k + 1))
    rw [← List.drop_eq_getElem_cons hlt,List.drop_drop] at hh
    have hle2:=twN_le lineB (l.drop k)
    simp only [List.length_drop] at hle2
    have hpos:0 < twN lineB (l.drop k):=by
     rw [twN_at _ _ _ hlt,if_pos (by simp [lineB]; omega)]; omega
    simp (implicitDefEqProofs:=false) only [go_sem]
    refine loopK_intro (k + twN lineB (l.drop k)) (by show l.length - (k + twN lineB (l.drop k)) < l.length - i; omega) ?_ ⟨⟨by omega,by omega,by omega⟩,hb3,hF.trans hf3⟩
    simp (implicitDefEqProofs:=false) only [go_sem]
   ·have h0:skB false (l.drop k)=0:=by
     rw [List.drop_eq_getElem_cons hlt]; exact skB_other hnb e _
    simp (implicitDefEqProofs:=false) only [go_sem,hc2,sv,ba_size,hlt',hlt2,hk0,hg,e]
    rw [show at_ + skB false (l.drop at_)=k by omega]
    exact ⟨hb2,hF⟩
  ·have hlt':(l.length:Int)≤(k:Int):=by omega
   have h0:skB false (l.drop k)=0:=by
    rw [List.drop_eq_nil_of_le hge]; rfl
   simp (implicitDefEqProofs:=false) only [go_sem,hc2,sv,ba_size,hlt',hk0]
   rw [show at_ + skB false (l.drop at_)=k by omega]
   exact ⟨hb2,hF⟩
end Go.Proofs.YtmhdkbmnpekpoaaGreatDoor
end
section
set_option linter.unusedSimpArgs false
set_option linter.unusedVariables false
set_option maxRecDepth 8000
namespace Go.Proofs.YtmhdkbmnpekpoaaGreatDoor
open Gx Go
theorem hcalls_below {P:Program} {f:Nat} {args:Array Value} {H:Heap} {R:Value→Prop} (h:∀ w:World,w.heap=H→Calls P f args w fun e w'=>∃ v,e= .returned v∧R v∧RowKit.Below w.heap.size w w') :
 HCalls P f args H fun v H'=>R v∧Fr [] H H':=by
 intro w hw
 refine (h w hw).mono fun e w' ⟨v,he,hr,hb⟩=>?_
 subst he
 refine ⟨⟨hr,?_⟩,hb.os,hb.tape,hb.output⟩
 subst hw
 exact ⟨hb.size,fun k hk _=>hb.block k hk⟩
theorem gErr:Tryz.prog.globalNamed "strconv.ErrRange"=some 2:=by kernel_rfl
theorem gTab:Tryz.prog.globalNamed "internal/strconv.uint64pow10"=some 0:=by kernel_rfl
structure GlobH (H:Heap):Prop where
 err:∃ ev,cellB H 2 0=some ev∧(ev= .nilIface∨∃ t p,ev= .iface t p)
 tab:∃ t fr,H[0]?=some (.cells (Lib.pow10Tab.map fun z=>Value.int .u64 z).toArray t fr)
theorem GlobH.fr {M:List Nat} {H H':Heap} (h:GlobH H) (hf:Fr M H H') (h2:2 ∉ M) (h3:0 ∉ M):GlobH H':=by
 obtain ⟨⟨ev,h1,h4⟩,t,fr,h5⟩:=h
 refine ⟨⟨ev,cellB_fr h1 hf h2,h4⟩,t,fr,?_⟩
 have hlt:0 < H.size:=by
  rcases Nat.lt_or_ge 0 H.size with q | q
  ·exact q
  ·rw [Array.getElem?_eq_none q] at h5; cases h5
 rw [hf.same 0 hlt h3]; exact h5
theorem GlobH.ext {H H':Heap} (h:GlobH H) (hf:Fr [] H H'):GlobH H':=h.fr hf (by simp) (by simp)
theorem GlobH.ne {H:Heap} (h:GlobH H) {b t:Nat} {s:Bs} {l:List Value} (hb:Blk H b t (sv s :: l)):2≠b∧0≠b:=by
 obtain ⟨⟨ev,h1,h4⟩,t',fr,h5⟩:=h
 constructor
 ·rintro rfl
  have:=hb.cell 0
  rw [h1] at this
  simp at this
  rcases h4 with h4 | ⟨_,_,h4⟩ <;> rw [h4] at this <;> cases this
 ·rintro rfl
  unfold Blk at hb
  rw [h5] at hb
  simp only [Option.some.injEq,Obj.cells.injEq] at hb
  have:=congrArg (fun a=>a.toList.head?) hb.1
  simp [Lib.pow10Tab,sv] at this
theorem parse_go {M N:Nat} (hM:M + 1=N) (hN:N≤18446744073709551620) (hN':18446744073709551616≤N) (w:Bs):∀ (acc:Nat),w.all digB=true→(numF acc w < N→Lib.parseUintM M acc w= .ok (numF acc w))∧(acc < N→N≤numF acc w→Lib.parseUintM M acc w= .range):=by
 induction w with
 | nil=>
   intro acc _
   have e1:numF acc []=acc:=rfl
   have e2:Lib.parseUintM M acc []= .ok acc:=rfl
   rw [e1,e2]
   refine ⟨fun _=>rfl,fun h1 h2=>?_⟩
   exact absurd h2 (Nat.not_le.2 h1)
 | cons c r ih=>
   intro acc h
   rw [List.all_cons,Bool.and_eq_true] at h
   have hd:=h.1
   simp only [digB,Bool.and_eq_true,decide_eq_true_eq] at hd
   have e1:numF acc (c :: r)=numF (10 * acc + (c.toNat - 48)) r:=rfl
   have e2:Lib.parseUintM M acc (c :: r)=if 48≤c.toNat∧c.toNat≤57 then if 1844674407370955162≤acc then .range else if M < acc * 10 + (c.toNat - 48) then .range else Lib.parseUintM M (acc * 10 + (c.toNat - 48)) r else .syntax:=by simp only [Lib.parseUintM]
   rw [e1,e2,if_pos (by omega),Nat.mul_comm acc 10]
   have hu:=numF_up r (10 * acc + (c.toNat - 48))
   have ih:=ih (10 * acc + (c.toNat - 48)) h.2
   generalize numF (10 * acc + (c.toNat - 48)) r=m at *
   refine ⟨fun h1=>?_,fun h0 h1=>?_⟩
   ·rw [if_neg (by omega),if_neg (by omega)]; exact ih.1 h1
   ·by_cases q1:1844674407370955162≤acc
    ·rw [if_pos q1]
    ·rw [if_neg q1]
     by_cases q2:M < 10 * acc + (c.toNat - 48)
     ·rw [if_pos q2]
     ·rw [if_neg q2]; exact ih.2 (by omega) h1
theorem parse_dig {w:Bs} (h:w.all digB=true) (h0:w≠[]):Lib.parseIntB 64 w=if 9223372036854775808≤numL w then .range else .ok (numL w:Int):=by
 cases w with
 | nil=>exact absurd rfl h0
 | cons c r=>
   have hc:=h
   rw [List.all_cons,Bool.and_eq_true] at hc
   have hd:=hc.1
   simp only [digB,Bool.and_eq_true,decide_eq_true_eq] at hd
   unfold Lib.parseIntB
   simp only
   rw [if_neg (by omega)]
   unfold Lib.parseUintB
   rw [if_neg (by simp),show (2 ^ 64 - 1:Nat)=18446744073709551615 from rfl]
   have hg:=parse_go (M:=18446744073709551615) (N:=18446744073709551616) (by decide) (by decide) (by decide) (c :: r) 0 h
   have h45:¬ c.toNat=45:=by omega
   unfold numL
   generalize numF 0 (c :: r)=n at *
   by_cases hn:n < 18446744073709551616
   ·rw [hg.1 hn]
    by_cases h2:9223372036854775808≤n
    ·simp [h45,h2]
    ·simp [h45,h2]
   ·rw [hg.2 (by decide) (by omega),if_pos (by omega)]
theorem parseInt_ok {w:Bs} (h:w.all digB=true) (h0:w≠[]) (hl:w.length≤65536) {H:Heap} (hg:GlobH H) :
 HCalls Tryz.prog 128 #[sv w,.int .i64 10,.int .i64 64] H fun r H'=>(if 9223372036854775808≤numL w then ∃ n t p,r= .tuple #[.int .i64 n,.iface t p] else r= .tuple #[.int .i64 (numL w),.nilIface])∧Fr [] H H':=by
 refine hcalls_below (R:=fun r=>if 9223372036854775808≤numL w then ∃ n t p,r= .tuple #[.int .i64 n,.iface t p] else r= .tuple #[.int .i64 (numL w),.nilIface]) fun W hW=>?_
 have hp:=parse_dig h h0
 split at hp
 ·obtain ⟨⟨ev,h1,h4⟩,_⟩:=hg
  subst hW
  refine (Tryz.strconv_ParseInt_10_at64_range ⟨⟨w⟩⟩ (show w.length≤_ by omega) hp ev W (by rw [cell?_eq]; exact (cellAt_mk W.heap 2 0).trans h1) h4).mono fun e w' ⟨N,he,_,_,hb⟩=>?_
  exact ⟨_,he,by rw [if_pos (by assumption)]; exact ⟨_,_,_,rfl⟩,hb⟩
 ·refine (Tryz.strconv_ParseInt_10_at64_ok ⟨⟨w⟩⟩ (show w.length≤_ by omega) _ hp W).mono fun e w' ⟨he,hw⟩=>?_
  refine ⟨_,he,by rw [if_neg (by assumption)],?_⟩
  rcases hw with rfl | ⟨t,rfl⟩
  ·exact RowKit.Below.refl _ _
  ·exact Joins.below_bytesWorld _ _ _ _ (Nat.le_refl _)
theorem formatInt_ok {n:Int} (h0:-9223372036854775808≤n) (h1:n≤9223372036854775807) {H:Heap} (hg:GlobH H) :
 HCalls Tryz.prog 100 #[.int .i64 n,.int .i64 10] H fun r H'=>r=sv (Lib.itoa n)∧Fr [] H H':=by
 refine hcalls_below (R:=fun r=>r=sv (Lib.itoa n)) fun W hW=>?_
 refine (Tryz.strconv_FormatInt_10 n h0 h1 W ?_).mono fun e w' ⟨he,k,os,hw⟩=>?_
 ·obtain ⟨_,t,fr,h5⟩:=hg
  subst hW
  unfold Lib.TabIs World.var?
  rw [gTab,Option.bind_some,h5]
 ·subst hw
  exact ⟨_,he,rfl,Lib.below_grow _ _ (Nat.le_refl _) _ _⟩
end Go.Proofs.YtmhdkbmnpekpoaaGreatDoor
end
section
set_option linter.unusedSimpArgs false
set_option linter.unusedVariables false
set_option maxRecDepth 8000
namespace Go.Proofs.YtmhdkbmnpekpoaaGreatDoor
open Gx Go
theorem body_part:hasBody Tryz.prog 126=true:=by kernel_rfl
theorem body_digit:hasBody Tryz.prog 127=true:=by kernel_rfl
def TokR (l:Bs) (at_ b:Nat) (H:Heap) (r:Value) (H':Heap):Prop:=
 match tokS (l.drop at_) with
 | .ok k t n m=>r= .tuple #[.agg #[.int .i64 k,sv t,.int .i64 n,.int .i64 at_],.int .i64 0]∧Blk H' b 115 [sv l,.int .i64 (at_ + m:Nat)]∧Fr [b] H H'
 | .bad e=>(∃ (k:Int) (t:Bs) (n a:Int),r= .tuple #[.agg #[.int .i64 k,sv t,.int .i64 n,.int .i64 a],.int .i64 e])∧Fr [b] H H'
theorem one4 {k n a:Int} {t:Bs}:∀ v ∈ [Value.int .i64 k,sv t,.int .i64 n,.int .i64 a],v.oneCell'=true:=by
 intro v hv
 simp only [List.mem_cons,List.not_mem_nil,or_false] at hv
 rcases hv with rfl | rfl | rfl | rfl <;> rfl
theorem one2 {a b:Value} (h1:a.oneCell'=true) (h2:b.oneCell'=true):∀ v ∈ [a,b],v.oneCell'=true:=by simp [h1,h2]
structure St (H:Heap) (l:Bs) (b x1 x2:Nat) (i k:Int) (t:Bs) (n a:Int) (H':Heap):Prop where
 sc:Blk H' b 115 [sv l,.int .i64 i]
 tk:Blk H' x2 58 [.int .i64 k,sv t,.int .i64 n,.int .i64 a]
 re:Blk H' x1 58 [.int .i64 0,sv [],.int .i64 0,.int .i64 0]
 fr:Fr [b] H H'
 ne:x1≠x2∧b≠x1∧b≠x2∧H.size≤x1∧H.size≤x2
section
variable {H H' H2:Heap} {l t t':Bs} {b x1 x2:Nat} {i k n a i' k' n' a':Int}
theorem St.ext (h:St H l b x1 x2 i k t n a H') (hf:Fr [] H' H2):St H l b x1 x2 i k t n a H2:=
 ⟨h.sc.ext hf,h.tk.ext hf,h.re.ext hf,h.fr.trans' hf (by simp),h.ne⟩
theorem St.set (h:St H l b x1 x2 i k t n a H') (hb:Blk H2 x2 58 [.int .i64 k',sv t',.int .i64 n',.int .i64 a']) (hf:Fr [x2] H' H2):St H l b x1 x2 i k' t' n' a' H2:=by
 obtain ⟨h1,h2,h3,h4,h5⟩:=h.ne
 exact ⟨h.sc.fr hf (by simp [h3]),hb,h.re.fr hf (by simp [h1]),h.fr.trans' hf (by simp; omega),h.ne⟩
theorem St.scan (h:St H l b x1 x2 i k t n a H') (hb:Blk H2 b 115 [sv l,.int .i64 i']) (hf:Fr [b] H' H2):St H l b x1 x2 i' k t n a H2:=by
 obtain ⟨h1,h2,h3,h4,h5⟩:=h.ne
 exact ⟨hb,h.tk.fr hf (by simp [Ne.symm h3]),h.re.fr hf (by simp [Ne.symm h2]),h.fr.trans hf,h.ne⟩
theorem St.glob (h:St H l b x1 x2 i k t n a H') (hg:GlobH H) {u:Value} (hb:Blk H b 115 [sv l,u]):GlobH H':=by
 obtain ⟨h1,h2⟩:=hg.ne hb
 exact hg.fr h.fr (by simp [h1]) (by simp [h2])
theorem St.fin (h:St H l b x1 x2 i k t n a H') (hf:Fr [x1] H' H2):Blk H2 b 115 [sv l,.int .i64 i]∧Fr [b] H H2:=by
 obtain ⟨h1,h2,h3,h4,h5⟩:=h.ne
 exact ⟨h.sc.fr hf (by simp [h2]),h.fr.trans' hf (by simp; omega)⟩
end
set_option maxHeartbeats 4000000 in
theorem token_ok {l:Bs} (hl:l.length≤65536) {H:Heap} {b at_:Nat} (hat:at_≤l.length) (h:Blk H b 115 [sv l,.int .i64 at_]) (hg:GlobH H) :
 HCalls Tryz.prog 114 #[.pointer (some ⟨b,0,none⟩)] H fun r H'=>TokR l at_ b H r H':=by
 have hlm:l.length≤maxLen:=by unfold maxLen; omega
 refine calls_of_vc (args:=[_]) Tryz.func114 c114ok (Nat.le_of_ble_eq_true rfl) ?_
 have hne:=hg.ne h
 simp (implicitDefEqProofs:=false) only [go_sem,c114]
 refine NewP_intro fun H1 hn1 hf1 hs1=>?_
 have hb1:=h.ext hf1
 have hc1:=hb1.cell
 have hblt:=h.lt
 simp (implicitDefEqProofs:=false) only [go_sem,hc1]
 refine NewP_intro fun H2 hn2 hf2 hs2=>?_
 have hn12:=hn1.ext hf2
 have hb2:=hb1.ext hf2
 have hF2:Fr [] H H2:=hf1.trans hf2
 generalize hx1:H.size=x1 at *
 generalize hx2:H1.size=x2 at *
 have hx12:x1≠x2:=by omega
 have hbx1:b≠x1:=by omega
 have hbx2:b≠x2:=by omega
 simp (implicitDefEqProofs:=false) only [go_sem]
 refine Sto_all hn2 rfl (one4 (t:=[])) fun H3 hn3 hf3 hs3=>?_
 have hn13:=hn12.fr hf3 (by simp [hx12])
 have hb3:=hb2.fr hf3 (by simp [hbx2])
 have hF3:Fr [] H H3:=hF2.trans' hf3 (by simp; omega)
 have hg3:=hg.ext hF3
 clear hn1 hn2 hn12 hb1 hb2 hc1
 have S3:St H l b x1 x2 at_ 0 [] 0 at_ H3:=⟨hb3,hn3,hn13,hF3.mono (by simp),hx12,hbx1,hbx2,by omega,by omega⟩
 clear hn13 hn3 hb3 hf3 hf2 hf1 hF2
 have hc3:=S3.sc.cell
 -- how every way ends
 have fin:∀ {k n:Int} {t:Bs} {m:Nat} {H4 H5:Heap},tokS (l.drop at_)= .ok k t n m→St H l b x1 x2 (at_ + m:Nat) k t n at_ H4→Fr [x1] H4 H5→
  TokR l at_ b H (.tuple #[.agg #[.int .i64 k,sv t,.int .i64 n,.int .i64 at_],.int .i64 0]) H5:=by
  intro k n t m H4 H5 e hs hf
  unfold TokR; rw [e]; exact ⟨rfl,hs.fin hf⟩
 have finB:∀ {i k n a e:Int} {t:Bs} {H4 H5:Heap},tokS (l.drop at_)= .bad e→St H l b x1 x2 i k t n a H4→Fr [x1] H4 H5→TokR l at_ b H (.tuple #[.agg #[.int .i64 k,sv t,.int .i64 n,.int .i64 a],.int .i64 e]) H5:=by
  intro i k n a e t H4 H5 he hs hf
  unfold TokR; rw [he]; exact ⟨⟨_,_,_,_,rfl⟩,(hs.fin hf).2⟩
 rcases Nat.lt_or_ge at_ l.length with hlt | hge
 case inr=>
  have hal:at_=l.length:=by omega
  have hal':((at_:Int)=(l.length:Int))=True:=by simp [hal]
  have ht:tokS (l.drop at_)= .ok 6 [] 0 0:=by rw [List.drop_eq_nil_of_le hge]; rfl
  simp (implicitDefEqProofs:=false) only [go_sem,hc3,sv,ba_size,hal']
  refine Sto_one S3.tk (by simp) rfl fun H4 hn4 hf4 hs4=>?_
  have S4:=S3.set (k':=6) (t':=[]) (n':=0) (a':=at_) hn4 hf4
  have hc4:=S4.tk.cell
  simp (implicitDefEqProofs:=false) only [go_sem,hc4]
  refine Sto_all S4.re rfl (one4 (t:=[])) fun H5 hn5 hf5 hs5=>?_
  have hc5:=hn5.cell
  simp (implicitDefEqProofs:=false) only [go_sem,hc5]
  exact fin ht S4 hf5
 have hal':((at_:Int)=(l.length:Int))=False:=by simp; omega
 have hlt':(at_:Int) < (l.length:Int):=by omega
 have ha0:(0:Int)≤(at_:Int):=by omega
 have hgd:=getD_at l at_ hlt
 have hdr:=List.drop_eq_getElem_cons hlt
 simp (implicitDefEqProofs:=false) only [go_sem,hc3,sv,ba_size,hal',hlt',ha0,hgd]
 refine (letter_ok l[at_] H3).mono ?_
 rintro r H4 ⟨rfl,hEq⟩
 obtain rfl:=hEq.symm
 cases hlet:letB l[at_]
 case true=>
  have htok:tokS (l.drop at_)=tokW ((l.drop at_).takeWhile partB):=by rw [hdr]; simp only [tokS,hlet,if_true]
  simp (implicitDefEqProofs:=false) only [go_sem]
  refine (run_ok body_part part_ok hlm hat S3.sc).mono ?_
  rintro r H5 ⟨rfl,hb5,hf5⟩
  generalize hw:(l.drop at_).takeWhile partB=w at *
  have hwl:twN partB (l.drop at_)=w.length:=by unfold twN; rw [hw]
  rw [hwl] at hb5
  have S5:=S3.scan hb5 hf5
  simp (implicitDefEqProofs:=false) only [go_sem,sv]
  refine Sto_one S5.tk (by simp) rfl fun H6 hn6 hf6 hs6=>?_
  have S6:=S5.set (k':=0) (t':=w) (n':=0) (a':=at_) hn6 hf6
  simp (implicitDefEqProofs:=false) only [go_sem]
  refine Sto_one S6.tk (by simp) rfl fun H7 hn7 hf7 hs7=>?_
  have S7:=S6.set (k':=1) (t':=w) (n':=0) (a':=at_) hn7 hf7
  have hc7:=S7.tk.cell
  by_cases h16:16 < w.length
  ·have h16':(16:Int) < (w.length:Int):=by omega
   simp (implicitDefEqProofs:=false) only [go_sem,hc7,sv,ba_size,h16']
   refine Sto_all S7.re rfl one4 fun H8 hn8 hf8 hs8=>?_
   have hc8:=hn8.cell
   simp (implicitDefEqProofs:=false) only [go_sem,hc8]
   exact finB (by rw [htok]; unfold tokW; rw [if_pos h16]) S7 hf8
  ·have h16':¬ (16:Int) < (w.length:Int):=by omega
   simp (implicitDefEqProofs:=false) only [go_sem,hc7,sv,ba_size,h16']
   refine (keyword_ok w H7).mono ?_
   rintro r H8 ⟨rfl,hf8⟩
   have S8:=S7.ext hf8
   have hc8:=S8.tk.cell
   cases ek:kwB w
   ·simp (implicitDefEqProofs:=false) only [go_sem,hc8]
    refine Sto_all S8.re rfl one4 fun H9 hn9 hf9 hs9=>?_
    have hc9:=hn9.cell
    simp (implicitDefEqProofs:=false) only [go_sem,hc9]
    exact fin (by rw [htok]; unfold tokW; rw [if_neg h16,ek]; rfl) S8 hf9
   ·simp (implicitDefEqProofs:=false) only [go_sem]
    refine Sto_one S8.tk (by simp) rfl fun H9 hn9 hf9 hs9=>?_
    have S9:=S8.set (k':=2) (t':=w) (n':=0) (a':=at_) hn9 hf9
    have hc9:=S9.tk.cell
    simp (implicitDefEqProofs:=false) only [go_sem,hc9]
    refine Sto_all S9.re rfl one4 fun H10 hn10 hf10 hs10=>?_
    have hc10:=hn10.cell
    simp (implicitDefEqProofs:=false) only [go_sem,hc10]
    exact fin (by rw [htok]; unfold tokW; rw [if_neg h16,ek]; rfl) S9 hf10
 simp (implicitDefEqProofs:=false) only [go_sem]
 refine (digit_ok l[at_] H3).mono ?_
 rintro r H4 ⟨rfl,hEq⟩
 obtain rfl:=hEq.symm
 cases hdig:digB l[at_]
 case true=>
  have htok:tokS (l.drop at_)=tokD ((l.drop at_).takeWhile digB):=by rw [hdr]; simp only [tokS,hlet,hdig,Bool.false_eq_true,if_false,if_true]
  simp (implicitDefEqProofs:=false) only [go_sem]
  refine (run_ok body_digit digit_ok hlm hat S3.sc).mono ?_
  rintro r H5 ⟨rfl,hb5,hf5⟩
  have hall:((l.drop at_).takeWhile digB).all digB=true:=List.all_takeWhile
  have hne0:(l.drop at_).takeWhile digB≠[]:=by rw [hdr,List.takeWhile_cons,if_pos hdig]; simp
  have hwle:((l.drop at_).takeWhile digB).length≤65536:=by
   have:=twN_le digB (l.drop at_)
   unfold twN at this
   simp only [List.length_drop] at this
   omega
  generalize hw:(l.drop at_).takeWhile digB=w at *
  have hwl:twN digB (l.drop at_)=w.length:=by unfold twN; rw [hw]
  rw [hwl] at hb5
  have S5:=S3.scan hb5 hf5
  have hc5:=S5.tk.cell
  have hw0:0 < w.length:=List.length_pos_iff.2 hne0
  have hw0':(0:Int) < (w.length:Int):=by omega
  by_cases hlead:1 < w.length∧w.getD 0 0=48
  ·have h1':(1:Int) < (w.length:Int):=by omega
   simp (implicitDefEqProofs:=false) only [go_sem,hc5,sv,ba_size,h1',hw0',hlead.2]
   have h48:((UInt8.toNat 48:Nat):Int)=48:=by decide
   simp (implicitDefEqProofs:=false) only [go_sem,h48]
   refine Sto_all S5.re rfl (one4 (t:=[])) fun H8 hn8 hf8 hs8=>?_
   have hc8:=hn8.cell
   simp (implicitDefEqProofs:=false) only [go_sem,hc8]
   exact finB (by rw [htok]; unfold tokD; rw [if_pos hlead]) S5 hf8
  ·have htok2:tokS (l.drop at_)=if 1000000000000000 < numL w then .bad 5 else .ok 3 [] (numL w) w.length:=by rw [htok]; unfold tokD; rw [if_neg hlead]
   have hcase:((1:Int) < (w.length:Int)∧¬ ((w.getD 0 0).toNat:Int)=48)∨¬ (1:Int) < (w.length:Int):=by
    rcases Nat.lt_or_ge 1 w.length with q | q
    ·refine .inl ⟨by omega,fun e=>hlead ⟨q,?_⟩⟩
     apply UInt8.toNat_inj.1
     have:(UInt8.toNat 48)=48:=by decide
     omega
    ·exact .inr (by omega)
   rcases hcase with ⟨h1',h48'⟩ | h1'
   case' inl=>simp (implicitDefEqProofs:=false) only [go_sem,hc5,sv,ba_size,h1',hw0',h48']
   case' inr=>simp (implicitDefEqProofs:=false) only [go_sem,hc5,sv,ba_size,h1']
   all_goals
    refine (parseInt_ok hall hne0 hwle (S5.glob hg h)).mono ?_
    rintro r H6 ⟨hr,hf6⟩
    have S6:=S5.ext hf6
    have hc6:=S6.tk.cell
    by_cases hbig:9223372036854775808≤numL w
    ·rw [if_pos hbig] at hr
     obtain ⟨n',t',p',rfl⟩:=hr
     simp (implicitDefEqProofs:=false) only [go_sem,hc6]
     refine Sto_all S6.re rfl (one4 (t:=[])) fun H8 hn8 hf8 hs8=>?_
     have hc8:=hn8.cell
     simp (implicitDefEqProofs:=false) only [go_sem,hc8]
     exact finB (by rw [htok2,if_pos (by omega)]) S6 hf8
    ·rw [if_neg hbig] at hr
     subst hr
     by_cases hmax:1000000000000000 < numL w
     ·have hmax':(1000000000000000:Int) < (numL w:Int):=by omega
      simp (implicitDefEqProofs:=false) only [go_sem,hc6,hmax']
      refine Sto_all S6.re rfl (one4 (t:=[])) fun H8 hn8 hf8 hs8=>?_
      have hc8:=hn8.cell
      simp (implicitDefEqProofs:=false) only [go_sem,hc8]
      exact finB (by rw [htok2,if_pos hmax]) S6 hf8
     ·have hmax':¬ (1000000000000000:Int) < (numL w:Int):=by omega
      simp (implicitDefEqProofs:=false) only [go_sem,hc6,hmax']
      refine Sto_one S6.tk (by simp) rfl fun H7 hn7 hf7 hs7=>?_
      have S7:=S6.set (k':=3) (t':=[]) (n':=0) (a':=at_) hn7 hf7
      simp (implicitDefEqProofs:=false) only [go_sem]
      refine Sto_one S7.tk (by simp) rfl fun H8 hn8 hf8 hs8=>?_
      have S8:=S7.set (k':=3) (t':=[]) (n':=numL w) (a':=at_) hn8 hf8
      have hc8:=S8.tk.cell
      simp (implicitDefEqProofs:=false) only [go_sem,hc8]
      refine Sto_all S8.re rfl (one4 (t:=[])) fun H9 hn9 hf9 hs9=>?_
      have hc9:=hn9.cell
      simp (implicitDefEqProofs:=false) only [go_sem,hc9]
      exact fin (by rw [htok2,if_neg hmax]) S8 hf9
 case false=>
  have hw1:IntKind.i64.wrap ((at_:Int) + 1)=((at_ + 1:Nat):Int):=by rw [wrap_i64_id _ (by omega) (by omega)]; omega
  by_cases hq:(l[at_].toNat:Int)=39
  ·have htok:tokS (l.drop at_)=tokQ ((l.drop (at_ + 1)).takeWhile partB) ((l.drop (at_ + 1)).dropWhile partB):=by
    rw [hdr]; simp only [tokS,hlet,hdig,hq,Bool.false_eq_true,if_false,if_true]
   simp (implicitDefEqProofs:=false) only [go_sem,hq,hc3,hw1]
   refine Sto_one S3.sc (by simp) rfl fun H4 hn4 hf4 hs4=>?_
   have S4:=S3.scan (i':=(at_ + 1:Nat)) hn4 hf4
   simp (implicitDefEqProofs:=false) only [go_sem]
   refine (run_ok body_part part_ok hlm (Nat.succ_le_of_lt hlt) S4.sc).mono ?_
   rintro r H5 ⟨rfl,hb5,hf5⟩
   have hdw:=drop_twN partB (l.drop (at_ + 1))
   rw [List.drop_drop] at hdw
   have hwle:=twN_le partB (l.drop (at_ + 1))
   simp only [List.length_drop] at hwle
   generalize hw:(l.drop (at_ + 1)).takeWhile partB=w at *
   have hwl:twN partB (l.drop (at_ + 1))=w.length:=by unfold twN; rw [hw]
   rw [hwl] at hb5 hdw hwle
   rw [← hdw] at htok
   have S5:=S4.scan hb5 hf5
   simp (implicitDefEqProofs:=false) only [go_sem,sv]
   refine Sto_one S5.tk (by simp) rfl fun H6 hn6 hf6 hs6=>?_
   have S6:=S5.set (k':=0) (t':=w) (n':=0) (a':=at_) hn6 hf6
   have hc6:=S6.sc.cell
   have hk6:=S6.tk.cell
   generalize hk:at_ + 1 + w.length=k at *
   have hk0:(0:Int)≤(k:Int):=by omega
   rcases Nat.lt_or_ge k l.length with hkl | hkl
   ·have hk1:¬ (k:Int)=(l.length:Int):=by omega
    have hk2:(k:Int) < (l.length:Int):=by omega
    have hgk:=getD_at l k hkl
    have hdk:=List.drop_eq_getElem_cons hkl
    by_cases h39:(l[k].toNat:Int)=39
    ·have hwk:IntKind.i64.wrap ((k:Int) + 1)=((k + 1:Nat):Int):=by rw [wrap_i64_id _ (by omega) (by omega)]; omega
     have htok2:tokS (l.drop at_)=if validN w then .ok 4 w 0 (w.length + 2) else .bad 3:=by
      rw [htok,hdk]; unfold tokQ
      have:l[k]=39:=by
       apply UInt8.toNat_inj.1
       have:(UInt8.toNat 39)=39:=by decide
       omega
      rw [if_neg (by simp [this])]
     simp (implicitDefEqProofs:=false) only [go_sem,hc6,hk6,sv,ba_size,hk0,hk1,hk2,hgk,h39,hwk]
     refine Sto_one S6.sc (by simp) rfl fun H7 hn7 hf7 hs7=>?_
     have S7:=S6.scan (i':=(k + 1:Nat)) hn7 hf7
     have hc7:=S7.tk.cell
     simp (implicitDefEqProofs:=false) only [go_sem,hc7]
     refine (valid_ok w H7).mono ?_
     rintro r H8 ⟨rfl,hEq⟩
     obtain rfl:=hEq.symm
     cases ev:validN w
     ·simp (implicitDefEqProofs:=false) only [go_sem,hc7]
      refine Sto_all S7.re rfl one4 fun H8 hn8 hf8 hs8=>?_
      have hc8:=hn8.cell
      simp (implicitDefEqProofs:=false) only [go_sem,hc8]
      exact finB (by rw [htok2,ev]; rfl) S7 hf8
     ·simp (implicitDefEqProofs:=false) only [go_sem]
      refine Sto_one S7.tk (by simp) rfl fun H8 hn8 hf8 hs8=>?_
      have S8:=S7.set (k':=4) (t':=w) (n':=0) (a':=at_) hn8 hf8
      have hc8:=S8.tk.cell
      simp (implicitDefEqProofs:=false) only [go_sem,hc8]
      refine Sto_all S8.re rfl one4 fun H9 hn9 hf9 hs9=>?_
      have hc9:=hn9.cell
      simp (implicitDefEqProofs:=false) only [go_sem,hc9]
      exact fin (m:=w.length + 2) (by rw [htok2,ev]; rfl) (by rw [show at_ + (w.length + 2)=k + 1 by omega]; exact S8) hf9
    ·simp (implicitDefEqProofs:=false) only [go_sem,hc6,hk6,sv,ba_size,hk0,hk1,hk2,hgk,h39]
     refine Sto_all S6.re rfl one4 fun H8 hn8 hf8 hs8=>?_
     have hc8:=hn8.cell
     simp (implicitDefEqProofs:=false) only [go_sem,hc8]
     refine finB ?_ S6 hf8
     rw [htok,hdk]; unfold tokQ
     have hne39:(l[k] :: l.drop (k + 1)).getD 0 0≠39:=by
      intro e
      have e':l[k]=39:=e
      rw [e'] at h39
      exact h39 (by decide)
     rw [if_pos (.inr hne39)]
   ·have hk1:((k:Int)=(l.length:Int))=True:=by simp; omega
    simp (implicitDefEqProofs:=false) only [go_sem,hc6,hk6,sv,ba_size,hk0,hk1]
    refine Sto_all S6.re rfl one4 fun H8 hn8 hf8 hs8=>?_
    have hc8:=hn8.cell
    simp (implicitDefEqProofs:=false) only [go_sem,hc8]
    refine finB ?_ S6 hf8
    rw [htok,List.drop_eq_nil_of_le hkl]; rfl
  ·have htok:tokS (l.drop at_)=tokG (l.drop at_):=by
    rw [hdr]; simp only [tokS,hlet,hdig,hq,Bool.false_eq_true,if_false]
   have hw2:IntKind.i64.wrap ((at_:Int) + 2)=((at_ + 2:Nat):Int):=by rw [wrap_i64_id _ (by omega) (by omega)]; omega
   have e1:(⟨⟨l⟩⟩:ByteArray).extract at_ (at_ + 1)=⟨⟨(l.drop at_).take 1⟩⟩:=by rw [ba_ext,List.drop_take]; simp
   have e2:(⟨⟨l⟩⟩:ByteArray).extract at_ (at_ + 2)=⟨⟨(l.drop at_).take 2⟩⟩:=by rw [ba_ext,List.drop_take]; simp
   have g1:(at_:Int)≤((at_ + 1:Nat):Int):=by omega
   have g2:((at_ + 1:Nat):Int)≤(l.length:Int):=by omega
   have g3:(0:Int)≤((at_ + 1:Nat):Int):=by omega
   have g5:((at_ + 2:Nat):Int)=(at_:Int) + 2:=by omega
   have g6:((at_ + 1:Nat):Int)=(at_:Int) + 1:=by omega
   have ls1:signB ((l.drop at_).take 1)=true→¬ (2≤(l.drop at_).length∧signB ((l.drop at_).take 2)=true)→tokS (l.drop at_)= .ok 5 ((l.drop at_).take 1) 0 1:=fun h1 h2=>by
    rw [htok]; unfold tokG; rw [if_neg h2,if_pos h1]
   have ls0:signB ((l.drop at_).take 1)=false→¬ (2≤(l.drop at_).length∧signB ((l.drop at_).take 2)=true)→tokS (l.drop at_)= .bad 2:=fun h1 h2=>by
    rw [htok]; unfold tokG; rw [if_neg h2,h1]; rfl
   by_cases hlen:at_ + 2≤l.length
   ·have hlen':¬ (l.length:Int) < ((at_ + 2:Nat):Int):=by omega
    have g4:(at_:Int)≤((at_ + 2:Nat):Int):=by omega
    have g7:((at_ + 2:Nat):Int)≤(l.length:Int):=by omega
    have g8:(0:Int)≤((at_ + 2:Nat):Int):=by omega
    simp (implicitDefEqProofs:=false) only [go_sem,hq,hc3,sv,ba_size,hw2,hlen',g4,g7,g8,ha0,e2]
    refine (sign_ok ((l.drop at_).take 2) H3).mono ?_
    rintro r H4 ⟨rfl,hf4⟩
    have S4:=S3.ext hf4
    have hc4:=S4.sc.cell
    have hk4:=S4.tk.cell
    cases es:signB ((l.drop at_).take 2)
    ·have hno:¬ (2≤(l.drop at_).length∧signB ((l.drop at_).take 2)=true):=by rw [es]; simp
     simp (implicitDefEqProofs:=false) only [go_sem,hc4,sv,ba_size,hw1,hw2,hlen',g1,g2,g3,g4,g7,g8,ha0,e1,e2]
     refine Sto_one S4.tk (by simp) rfl fun H5 hn5 hf5 hs5=>?_
     have S5:=S4.set (k':=5) (t':=[]) (n':=0) (a':=at_) hn5 hf5
     have hc5:=S5.sc.cell
     have hk5:=S5.tk.cell
     simp (implicitDefEqProofs:=false) only [go_sem,hc5,hk5,sv,ba_size,hw1,g1,g2,g3,ha0,e1]
     refine Sto_one S5.tk (by simp) rfl fun H6 hn6 hf6 hs6=>?_
     have S6:=S5.set (k':=5) (t':=(l.drop at_).take 1) (n':=0) (a':=at_) hn6 hf6
     have hc6:=S6.sc.cell
     have hk6:=S6.tk.cell
     simp (implicitDefEqProofs:=false) only [go_sem,hc6,hk6,sv,ba_size,hw1,g1,g2,g3,ha0,e1]
     refine (sign_ok ((l.drop at_).take 1) H6).mono ?_
     rintro r H7 ⟨rfl,hf7⟩
     have S7:=S6.ext hf7
     have hc7:=S7.sc.cell
     have hk7:=S7.tk.cell
     cases es1:signB ((l.drop at_).take 1)
     ·simp (implicitDefEqProofs:=false) only [go_sem,hc7,hk7]
      refine Sto_all S7.re rfl one4 fun H8 hn8 hf8 hs8=>?_
      have hc8:=hn8.cell
      simp (implicitDefEqProofs:=false) only [go_sem,hc8]
      exact finB (ls0 es1 hno) S7 hf8
     ·simp (implicitDefEqProofs:=false) only [go_sem,hc7,hk7,hw1]
      refine Sto_one S7.sc (by simp) rfl fun H8 hn8 hf8 hs8=>?_
      have S8:=S7.scan (i':=(at_ + 1:Nat)) hn8 hf8
      have hk8:=S8.tk.cell
      simp (implicitDefEqProofs:=false) only [go_sem,hk8]
      refine Sto_all S8.re rfl one4 fun H9 hn9 hf9 hs9=>?_
      have hc9:=hn9.cell
      simp (implicitDefEqProofs:=false) only [go_sem,hc9]
      exact fin (ls1 es1 hno) S8 hf9
    ·have htok2:tokS (l.drop at_)= .ok 5 ((l.drop at_).take 2) 0 2:=by
      rw [htok]; unfold tokG; rw [if_pos ⟨by simp only [List.length_drop]; omega,es⟩]
     simp (implicitDefEqProofs:=false) only [go_sem,hc4,sv,ba_size,hw2,hlen',g4,g7,g8,ha0,e2]
     refine Sto_one S4.tk (by simp) rfl fun H5 hn5 hf5 hs5=>?_
     have S5:=S4.set (k':=5) (t':=[]) (n':=0) (a':=at_) hn5 hf5
     have hc5:=S5.sc.cell
     have hk5:=S5.tk.cell
     simp (implicitDefEqProofs:=false) only [go_sem,hc5,hk5,sv,ba_size,hw2,hlen',g4,g7,g8,ha0,e2]
     refine Sto_one S5.tk (by simp) rfl fun H6 hn6 hf6 hs6=>?_
     have S6:=S5.set (k':=5) (t':=(l.drop at_).take 2) (n':=0) (a':=at_) hn6 hf6
     have hc6:=S6.sc.cell
     have hk6:=S6.tk.cell
     simp (implicitDefEqProofs:=false) only [go_sem,hc6,hk6,sv,ba_size,hw2,g4,g7,g8,ha0,e2]
     refine (sign_ok ((l.drop at_).take 2) H6).mono ?_
     rintro r H7 ⟨rfl,hf7⟩
     have S7:=S6.ext hf7
     have hc7:=S7.sc.cell
     have hk7:=S7.tk.cell
     rw [es]
     simp (implicitDefEqProofs:=false) only [go_sem,hc7,hk7,hw2]
     refine Sto_one S7.sc (by simp) rfl fun H8 hn8 hf8 hs8=>?_
     have S8:=S7.scan (i':=(at_ + 2:Nat)) hn8 hf8
     have hk8:=S8.tk.cell
     simp (implicitDefEqProofs:=false) only [go_sem,hk8]
     refine Sto_all S8.re rfl one4 fun H9 hn9 hf9 hs9=>?_
     have hc9:=hn9.cell
     simp (implicitDefEqProofs:=false) only [go_sem,hc9]
     exact fin htok2 S8 hf9
   ·have hno:¬ (2≤(l.drop at_).length∧signB ((l.drop at_).take 2)=true):=by
     simp only [List.length_drop]; omega
    have hlen':(l.length:Int) < ((at_ + 2:Nat):Int):=by omega
    have S4:=S3
    have hc4:=hc3
    have hk4:=S4.tk.cell
    simp (implicitDefEqProofs:=false) only [go_sem,hq,hc4,sv,ba_size,hw1,hw2,hlen',g1,g2,g3,ha0,e1,e2]
    refine Sto_one S4.tk (by simp) rfl fun H5 hn5 hf5 hs5=>?_
    have S5:=S4.set (k':=5) (t':=[]) (n':=0) (a':=at_) hn5 hf5
    have hc5:=S5.sc.cell
    have hk5:=S5.tk.cell
    simp (implicitDefEqProofs:=false) only [go_sem,hc5,hk5,sv,ba_size,hw1,g1,g2,g3,ha0,e1]
    refine Sto_one S5.tk (by simp) rfl fun H6 hn6 hf6 hs6=>?_
    have S6:=S5.set (k':=5) (t':=(l.drop at_).take 1) (n':=0) (a':=at_) hn6 hf6
    have hc6:=S6.sc.cell
    have hk6:=S6.tk.cell
    simp (implicitDefEqProofs:=false) only [go_sem,hc6,hk6,sv,ba_size,hw1,g1,g2,g3,ha0,e1]
    refine (sign_ok ((l.drop at_).take 1) H6).mono ?_
    rintro r H7 ⟨rfl,hf7⟩
    have S7:=S6.ext hf7
    have hc7:=S7.sc.cell
    have hk7:=S7.tk.cell
    cases es1:signB ((l.drop at_).take 1)
    ·simp (implicitDefEqProofs:=false) only [go_sem,hc7,hk7]
     refine Sto_all S7.re rfl one4 fun H8 hn8 hf8 hs8=>?_
     have hc8:=hn8.cell
     simp (implicitDefEqProofs:=false) only [go_sem,hc8]
     exact finB (ls0 es1 hno) S7 hf8
    ·simp (implicitDefEqProofs:=false) only [go_sem,hc7,hk7,hw1]
     refine Sto_one S7.sc (by simp) rfl fun H8 hn8 hf8 hs8=>?_
     have S8:=S7.scan (i':=(at_ + 1:Nat)) hn8 hf8
     have hk8:=S8.tk.cell
     simp (implicitDefEqProofs:=false) only [go_sem,hk8]
     refine Sto_all S8.re rfl one4 fun H9 hn9 hf9 hs9=>?_
     have hc9:=hn9.cell
     simp (implicitDefEqProofs:=false) only [go_sem,hc9]
     exact fin (ls1 es1 hno) S8 hf9
end Go.Proofs.YtmhdkbmnpekpoaaGreatDoor
end
section
set_option linter.unusedSimpArgs false
set_option linter.unusedVariables false
set_option maxRecDepth 8000
namespace Go.Proofs.YtmhdkbmnpekpoaaGreatDoor
open Gx Go
def tkV (t:Tk):Value:=.agg #[.int .i64 t.kind,sv t.text,.int .i64 t.n,.int .i64 t.at_]
def ftV (c a:Int):Value:=.agg #[.int .i64 c,.int .i64 a]
def zTk:Tk:=⟨0,[],0,0⟩
structure NR where
 tok:Tk
 fin:Int
 code:Int
 fat:Int
def NR.val (r:NR):Value:=.tuple #[tkV r.tok,.int .i64 r.fin,ftV r.code r.fat]
def ansT (k:Nat):TR→NR
 | .ok kd t n m=>⟨⟨kd,t,n,k⟩,(k + m:Nat),0,0⟩
 | .bad e=>⟨zTk,0,e,k⟩
def nextN (l:Bs) (a:Nat):NR:=ansT (a + skB false (l.drop a)) (tokS (l.drop (a + skB false (l.drop a))))
def nextT (l:Bs) (a:Int):NR:=if 65536 < l.length then ⟨zTk,0,6,65536⟩ else if a < 0∨(l.length:Int) < a then ⟨zTk,0,1,0⟩ else nextN l a.toNat
theorem fr_new {H H1 H2:Heap} {x:Nat} (h:Fr [] H H1) (h2:Fr [x] H1 H2) (hx:H.size≤x):Fr [] H H2:=h.trans' h2 (by simp; omega)
theorem bad_code {s:Bs} {e:Int} (h:tokS s= .bad e):e≠0:=by
 cases s with
 | nil=>simp [tokS] at h
 | cons c r=>
   simp only [tokS,tokW,tokD,tokQ,tokG] at h
   repeat' split at h
   all_goals first
    | (cases h; done)
    | (simp only [TR.bad.injEq] at h; omega)
set_option maxHeartbeats 4000000 in
theorem next_ok (l:Bs) (hl:l.length≤maxLen) (a:Int) {H:Heap} (hg:GlobH H):HCalls Tryz.prog 95 #[sv l,.int .i64 a] H fun r H'=>r=(nextT l a).val∧Fr [] H H':=by
 refine calls_of_vc (args:=[_,_]) Tryz.func95 c95ok (Nat.le_of_ble_eq_true rfl) ?_
 unfold sv
 simp (implicitDefEqProofs:=false) only [go_sem,c95]
 refine NewP_intro fun H1 hb1 hf1 hs1=>?_
 simp (implicitDefEqProofs:=false) only [go_sem]
 refine NewP_intro fun H2 hb2 hf2 hs2=>?_
 have hb12:=hb1.ext hf2
 have hF2:=hf1.trans hf2
 have hz1:H.size≤H.size:=Nat.le_refl _
 generalize hx1:H.size=x1 at *
 generalize hx2:H1.size=x2 at *
 have hx12:x1≠x2:=by omega
 unfold nextT
 by_cases hmax:65536 < l.length
 ·have hmax':(65536:Int) < (l.length:Int):=by omega
  rw [if_pos hmax]
  simp (implicitDefEqProofs:=false) only [go_sem,ba_size,hmax']
  refine Sto_all hb12 rfl (one4 (t:=[])) fun H3 hb3 hf3 hs3=>?_
  have hb23:=hb2.fr hf3 (by simp [Ne.symm hx12])
  simp (implicitDefEqProofs:=false) only [go_sem]
  refine Sto_all hb23 rfl (one2 rfl rfl) fun H4 hb4 hf4 hs4=>?_
  have hc4:=hb4.cell
  have hc3:=(hb3.fr hf4 (by simp [hx12])).cell
  simp (implicitDefEqProofs:=false) only [go_sem,hc3,hc4]
  exact ⟨rfl,fr_new (fr_new hF2 hf3 (by omega)) hf4 (by omega)⟩
 rw [if_neg hmax]
 have hmax':¬ (65536:Int) < (l.length:Int):=by omega
 by_cases hr:a < 0∨(l.length:Int) < a
 ·rw [if_pos hr]
  have hr':(decide (a < 0)=true)∨(decide (a < 0)=false∧(l.length:Int) < a):=by
   by_cases q:a < 0
   ·exact .inl (by simpa using q)
   ·exact .inr ⟨by simpa using q,by omega⟩
  rcases hr' with q | ⟨q,q2⟩
  case' inl=>simp (implicitDefEqProofs:=false) only [go_sem,ba_size,hmax',q]
  case' inr=>simp (implicitDefEqProofs:=false) only [go_sem,ba_size,hmax',q,q2]
  all_goals
   refine Sto_all hb12 rfl (one4 (t:=[])) fun H3 hb3 hf3 hs3=>?_
   have hb23:=hb2.fr hf3 (by simp [Ne.symm hx12])
   simp (implicitDefEqProofs:=false) only [go_sem]
   refine Sto_all hb23 rfl (one2 rfl rfl) fun H4 hb4 hf4 hs4=>?_
   have hc4:=hb4.cell
   have hc3:=(hb3.fr hf4 (by simp [hx12])).cell
   simp (implicitDefEqProofs:=false) only [go_sem,hc3,hc4]
   exact ⟨rfl,fr_new (fr_new hF2 hf3 (by omega)) hf4 (by omega)⟩
 rw [if_neg hr]
 obtain ⟨k,rfl⟩:∃ k:Nat,a=k:=⟨a.toNat,by omega⟩
 have hk:k≤l.length:=by omega
 have q1:decide ((k:Int) < 0)=false:=by simp
 have q2:¬ (l.length:Int) < (k:Int):=by omega
 rw [Int.toNat_natCast]
 simp (implicitDefEqProofs:=false) only [go_sem,ba_size,hmax',q1,q2]
 refine NewP_intro fun H3 hb3 hf3 hs3=>?_
 generalize hx3:H2.size=x3 at *
 simp (implicitDefEqProofs:=false) only [go_sem]
 refine Sto_all hb3 rfl (one2 rfl rfl) fun H4 hb4 hf4 hs4=>?_
 simp (implicitDefEqProofs:=false) only [go_sem]
 refine (skip_ok (l:=l) hl hk hb4).mono ?_
 rintro r H5 ⟨hb5,hf5⟩
 have hsk:k + skB false (l.drop k)≤l.length:=by
  have:=skB_le false (l.drop k)
  simp only [List.length_drop] at this
  omega
 unfold nextN
 generalize hj:k + skB false (l.drop k)=j at *
 have hF5:Fr [] H H5:=fr_new (fr_new (hF2.trans hf3) hf4 (by omega)) hf5 (by omega)
 have hb15:=((hb12.ext hf3).fr hf4 (by simp; omega)).fr hf5 (by simp; omega)
 have hb25:=((hb2.ext hf3).fr hf4 (by simp; omega)).fr hf5 (by simp; omega)
 have hc5:=hb5.cell
 simp (implicitDefEqProofs:=false) only [go_sem,hc5]
 refine (token_ok (l:=l) (by omega) hsk hb5 (hg.ext hF5)).mono ?_
 rintro r H6 ht
 unfold TokR at ht
 cases e:tokS (l.drop j) with
 | bad c=>
   rw [e] at ht
   obtain ⟨⟨k',t',n',a',rfl⟩,hf6⟩:=ht
   have hc0:(c=0)=False:=by simp [bad_code e]
   have hb16:=hb15.fr hf6 (by simp; omega)
   have hb26:=hb25.fr hf6 (by simp; omega)
   have hF6:=fr_new hF5 hf6 (by omega)
   simp (implicitDefEqProofs:=false) only [go_sem]
   refine NewP_intro fun H7 hb7 hf7 hs7=>?_
   generalize hx7:H6.size=x7 at *
   have hlt6:=hb26.lt
   simp (implicitDefEqProofs:=false) only [go_sem,sv]
   refine Sto_all hb7 rfl one4 fun H8 hb8 hf8 hs8=>?_
   have hb18:=(hb16.ext hf7).fr hf8 (by simp; omega)
   have hb28:=(hb26.ext hf7).fr hf8 (by simp; omega)
   have hF8:=fr_new (hF6.trans hf7) hf8 (by omega)
   simp (implicitDefEqProofs:=false) only [go_sem,hc0]
   refine Sto_all hb18 rfl (one4 (t:=[])) fun H9 hb9 hf9 hs9=>?_
   have hb29:=hb28.fr hf9 (by simp [Ne.symm hx12])
   simp (implicitDefEqProofs:=false) only [go_sem]
   refine Sto_all hb29 rfl (one2 rfl rfl) fun H10 hb10 hf10 hs10=>?_
   have hc10:=hb10.cell
   have hc9:=(hb9.fr hf10 (by simp [hx12])).cell
   simp (implicitDefEqProofs:=false) only [go_sem,hc9,hc10]
   exact ⟨rfl,fr_new (fr_new hF8 hf9 (by omega)) hf10 (by omega)⟩
 | ok kd t n m=>
   rw [e] at ht
   obtain ⟨rfl,hb6,hf6⟩:=ht
   have hb16:=hb15.fr hf6 (by simp; omega)
   have hb26:=hb25.fr hf6 (by simp; omega)
   have hF6:=fr_new hF5 hf6 (by omega)
   simp (implicitDefEqProofs:=false) only [go_sem]
   refine NewP_intro fun H7 hb7 hf7 hs7=>?_
   generalize hx7:H6.size=x7 at *
   have hlt6:=hb6.lt
   simp (implicitDefEqProofs:=false) only [go_sem,sv]
   refine Sto_all hb7 rfl one4 fun H8 hb8 hf8 hs8=>?_
   have hb18:=(hb16.ext hf7).fr hf8 (by simp; omega)
   have hb28:=(hb26.ext hf7).fr hf8 (by simp; omega)
   have hb68:=(hb6.ext hf7).fr hf8 (by simp; omega)
   have hF8:=fr_new (hF6.trans hf7) hf8 (by omega)
   have hc8:=hb8.cell
   have hc68:=hb68.cell
   simp (implicitDefEqProofs:=false) only [go_sem,hc8,hc68]
   refine Sto_all hb18 rfl (one4 (t:=t)) fun H9 hb9 hf9 hs9=>?_
   have hb29:=hb28.fr hf9 (by simp [Ne.symm hx12])
   have hc9':=(hb8.fr hf9 (by simp; omega)).cell
   have hc69:=(hb68.fr hf9 (by simp; omega)).cell
   simp (implicitDefEqProofs:=false) only [go_sem,hc9',hc69]
   refine Sto_all hb29 rfl (one2 rfl rfl) fun H10 hb10 hf10 hs10=>?_
   have hc10:=hb10.cell
   have hc9:=(hb9.fr hf10 (by simp [hx12])).cell
   simp (implicitDefEqProofs:=false) only [go_sem,hc9,hc10]
   exact ⟨rfl,fr_new (fr_new hF8 hf9 (by omega)) hf10 (by omega)⟩
end Go.Proofs.YtmhdkbmnpekpoaaGreatDoor
end
section
set_option linter.unusedSimpArgs false
set_option linter.unusedVariables false
set_option maxRecDepth 8000
namespace Go.Proofs.YtmhdkbmnpekpoaaGreatDoor
open Gx Go
theorem ETk:ElemOk Tryz.prog 70 58 4 40 (.agg #[.int .i64 0,.string ⟨⟨[]⟩⟩,.int .i64 0,.int .i64 0]):=⟨Tryz.underlying70,by kernel_rfl,rfl,by decide⟩
def LR.app (pre:List Tk):LR→LR
 | .bad e k=>.bad e k
 | .ok l=>.ok (pre ++ l)
theorem LR.app_nil (r:LR):LR.app [] r=r:=by cases r <;> rfl
theorem LR.app_cons (pre:List Tk) (t:Tk) (r:LR):LR.app pre (LR.cons t r)=LR.app (pre ++ [t]) r:=by cases r <;> simp [LR.app,LR.cons]
def lexN (l:Bs) (o:Nat):LR:=if 65536 < l.length then .bad 6 65536 else lexA l o
theorem lexN_zero (l:Bs):lexN l 0=lexT l:=rfl
theorem lexN_step (l:Bs) (o:Nat) (ho:o≤l.length) :
 ((nextT l o).code≠0→∃ k:Nat,lexN l o= .bad (nextT l o).code k∧(nextT l o).fat=k)∧
 ((nextT l o).code=0→(nextT l o).tok.kind=6→l.length≤65536∧lexN l o= .ok [(nextT l o).tok])∧
 ((nextT l o).code=0→(nextT l o).tok.kind≠6→l.length≤65536∧∃ e:Nat,lexN l o=LR.cons (nextT l o).tok (lexN l e)∧(nextT l o).fin=e∧o < e∧e≤l.length):=by
 unfold nextT lexN
 by_cases h:65536 < l.length
 ·rw [if_pos h]
  exact ⟨fun _=>⟨65536,by rw [if_pos h],rfl⟩,fun h=>by simp at h,fun h=>by simp at h⟩
 rw [if_neg h,if_neg (by omega),Int.toNat_natCast]
 unfold nextN
 have hsk:o + skB false (l.drop o)≤l.length:=by
  have:=skB_le false (l.drop o)
  simp only [List.length_drop] at this
  omega
 have hop:=lexA_open l o ho
 generalize hj:o + skB false (l.drop o)=j at *
 cases e:tokS (l.drop j) with
 | bad c=>
   rw [e] at hop
   refine ⟨fun _=>⟨j,by rw [if_neg h,hop]; rfl,rfl⟩,fun h0=>absurd h0 (bad_code e),fun h0=>absurd h0 (bad_code e)⟩
 | ok kd t n m=>
   rw [e] at hop
   refine ⟨fun h0=>absurd rfl h0,fun _ h6=>⟨by omega,?_⟩,fun _ h6=>⟨by omega,j + m,?_,rfl,?_⟩⟩
   ·rw [if_neg h,hop]; simp only [ansT] at h6 ⊢; rw [if_pos h6]
   ·rw [if_neg h,hop]; simp only [ansT] at h6 ⊢; rw [if_neg h6,if_neg h]
   ·obtain ⟨h1,h2,h3⟩:=tokS_len e
    simp only [ansT] at h6
    have hne:l.drop j≠[]:=fun q=>h6 (h3 q)
    obtain ⟨h4,_⟩:=h2 hne
    have h5:0 < (l.drop j).length:=List.length_pos_iff.2 hne
    simp only [List.length_drop] at h1 h5
    omega
def LexR (R:LR) (r:Value) (H':Heap):Prop:=
 match R with
 | .bad e k=>r= .tuple #[.slice none 0 0,ftV e k]
 | .ok ts=>∃ a c,r= .tuple #[.slice a ts.length c,ftV 0 0]∧ts.length≤c∧c≤maxLen∧RowR tkC H' a ts
set_option maxHeartbeats 4000000 in
theorem lex_ok (l:Bs) (hl:l.length≤maxLen) {H:Heap} (hg:GlobH H):HCalls Tryz.prog 51 #[sv l] H fun r H'=>LexR (lexT l) r H'∧Fr [] H H':=by
 refine calls_of_vc (args:=[_]) Tryz.func51 c51ok (Nat.le_of_ble_eq_true rfl) ?_
 simp (implicitDefEqProofs:=false) only [go_sem,c51]
 refine NewP_intro fun H1 hb1 hf1 hs1=>?_
 generalize hx1:H.size=x1 at *
 simp (implicitDefEqProofs:=false) only [go_sem]
 refine vc_loop (fun (p:List Tk × Nat × Value) H'=>∃ g,(p.2.1≤l.length∧p.1.length≤p.2.1∧lexT l=LR.app p.1 (lexN l p.2.1))∧Own H' 58 4 p.2.2 p.1.length (p.1.flatMap tkC) g∧Blk H' x1 31 [.int .i64 0,.int .i64 0]∧Fr [] H H'∧(∀ b,g=some b→x1 < b))
  (fun p=>[(0,sv l),(2,.slice none 0 0),(3,.pointer (some ⟨x1,0,none⟩)),(4,p.2.2),(5,.int .i64 p.2.1)]) (fun p=>l.length + 1 - p.2.1) ([],0,.slice none 0 0) ?_ ?_ ?_
 ·exact ⟨none,⟨Nat.zero_le _,Nat.le_refl _,by rw [lexN_zero,LR.app_nil]⟩,Own.nil _ _ _,hb1,hf1,by simp⟩
 ·simp (implicitDefEqProofs:=false) only [go_sem,z0]
 ·rintro ⟨pre,o,v⟩ H' ⟨g,⟨h1,h2,h3⟩,hown,hbF,hfr,hgx⟩
  dsimp only at h1 h2 h3 hown
  simp (implicitDefEqProofs:=false) only [go_sem]
  refine (next_ok l hl o (hg.ext hfr)).mono ?_
  rintro r H2 ⟨rfl,hf2⟩
  obtain ⟨st1,st2,st3⟩:=lexN_step l o h1
  generalize nextT l o=N at *
  have hF2:=hfr.trans hf2
  have hown2:=hown.fr hf2 (by simp)
  have hbF2:=hbF.ext hf2
  have hx1lt:=hbF2.lt
  simp (implicitDefEqProofs:=false) only [go_sem,NR.val,tkV,ftV]
  refine NewP_intro fun H3 hb3 hf3 hs3=>?_
  generalize hx3:H2.size=x3 at *
  have hgl:∀ b,g=some b→b < x3:=fun b hb=>by rw [← hx3]; exact hown2.lt hb
  simp (implicitDefEqProofs:=false) only [go_sem]
  refine NewP_intro fun H4 hb4 hf4 hs4=>?_
  generalize hx4:H3.size=x4 at *
  have hb34:=hb3.ext hf4
  simp (implicitDefEqProofs:=false) only [go_sem]
  refine Sto_all hb34 rfl one4 fun H5 hb5 hf5 hs5=>?_
  have hb45:=hb4.fr hf5 (by simp; omega)
  simp (implicitDefEqProofs:=false) only [go_sem]
  refine Sto_all hb45 rfl (one2 rfl rfl) fun H6 hb6 hf6 hs6=>?_
  have hb56:=hb5.fr hf6 (by simp; omega)
  have hbF6:=(((hbF2.ext hf3).ext hf4).fr hf5 (by simp; omega)).fr hf6 (by simp; omega)
  have hown6:=(((hown2.fr hf3 (by simp)).fr hf4 (by simp)).fr hf5 (fun b hb=>by have:=hgl b hb; simp; omega)).fr hf6 (fun b hb=>by have:=hgl b hb; simp; omega)
  have hHle:=hF2.size
  have hF6:Fr [] H H6:=fr_new (fr_new ((hF2.trans hf3).trans hf4) hf5 (by omega)) hf6 (by omega)
  have hc6:=hb6.cell
  have hc5:=hb56.cell
  by_cases hcode:N.code=0
  ·have hcode':(N.code=0)=True:=by simp [hcode]
   obtain ⟨a0,c0,rfl⟩:∃ a0 c0,v= .slice a0 pre.length c0:=by
    rcases hown6.2 with ⟨_,q,q2⟩ | ⟨b,cap,cur,_,q,_⟩
    ·rw [q2]; exact ⟨_,_,q⟩
    ·exact ⟨_,_,q⟩
   simp (implicitDefEqProofs:=false) only [go_sem,hc6,hc5,hcode']
   refine NewS_intro fun H7 hb7 hf7 hs7=>?_
   generalize hx7:H6.size=x7 at *
   have hown7:=hown6.fr hf7 (by simp)
   have hlen65:l.length≤65536:=by
    by_cases h6:N.tok.kind=6
    ·exact (st2 hcode h6).1
    ·exact (st3 hcode h6).1
   simp (implicitDefEqProofs:=false) only [go_sem]
   refine App_own ETk hown7 (m:=1) (SrcH.blk Tryz.underlying70 hb7 rfl one4) (by unfold maxLen; omega) (by omega) fun a1 c1 H8 g8 hown8 hf8 hg8=>?_
   have hb58:=(hb56.ext hf7).fr hf8 (by
    intro hm
    have hm':g=some x3:=by simpa using hm
    have:=hgl x3 hm'; omega)
   have hbF8:=(hbF6.ext hf7).fr hf8 (by
    intro hm
    have hm':g=some x1:=by simpa using hm
    have:=hgx x1 hm'; omega)
   have hF8:Fr [] H H8:=(hF6.trans hf7).trans' hf8 (fun b hb=>by
    have hb':g=some b:=by simpa using hb
    have:=hgx b hb'
    exact .inr (by omega))
   have hgx8:∀ b,g8=some b→x1 < b:=fun b hb=>by
    rcases hg8 b hb with q | q
    ·exact hgx b q
    ·omega
   have hc8:=hb58.cell
   have hflat:pre.flatMap tkC ++ [Value.int .i64 N.tok.kind,sv N.tok.text,.int .i64 N.tok.n,.int .i64 N.tok.at_]=(pre ++ [N.tok]).flatMap tkC:=by simp [tkC]
   have hlenp:pre.length + 1=(pre ++ [N.tok]).length:=by simp
   rw [hflat,hlenp] at hown8
   rw [hlenp]
   by_cases h6:N.tok.kind=6
   ·have h6':(N.tok.kind=6)=True:=by simp [h6]
    simp (implicitDefEqProofs:=false) only [go_sem,hc8,h6']
    refine Sto_all hbF8 rfl (one2 rfl rfl) fun H9 hb9 hf9 hs9=>?_
    have hc9:=hb9.cell
    simp (implicitDefEqProofs:=false) only [go_sem,hc9]
    have hown9:=hown8.fr hf9 (fun b hb=>by have:=hgx8 b hb; simp; omega)
    refine ⟨?_,fr_new hF8 hf9 (by omega)⟩
    rw [h3,(st2 hcode h6).2]
    exact ⟨a1,c1,rfl,Own.cap_le hown9,by
     rcases hown9.2 with ⟨_,q,_⟩ | ⟨b,cap,cur,_,q,_,_,q2,_⟩
     ·simp only [Value.slice.injEq] at q; omega
     ·simp only [Value.slice.injEq] at q; omega,Own.rowR hown9⟩
   ·have h6':(N.tok.kind=6)=False:=by simp [h6]
    obtain ⟨_,e,he1,he2,he3,he4⟩:=st3 hcode h6
    simp (implicitDefEqProofs:=false) only [go_sem,hc8,h6']
    refine loopK_intro (pre ++ [N.tok],e,.slice a1 (pre ++ [N.tok]).length c1) (by show l.length + 1 - e < l.length + 1 - o; omega) ?_ ⟨g8,⟨he4,?_,?_⟩,hown8,hbF8,hF8,hgx8⟩
    ·simp (implicitDefEqProofs:=false) only [go_sem,he2]
    ·simp; omega
    ·rw [h3,he1,LR.app_cons]
  ·have hcode':(N.code=0)=False:=by simp [hcode]
   obtain ⟨k,hk1,hk2⟩:=st1 hcode
   simp (implicitDefEqProofs:=false) only [go_sem,hc6,hc5,hcode']
   refine Sto_all hbF6 rfl (one2 rfl rfl) fun H7 hb7 hf7 hs7=>?_
   have hc7:=hb7.cell
   have hc67:=(hb6.fr hf7 (by simp; omega)).cell
   simp (implicitDefEqProofs:=false) only [go_sem,hc7,hc67]
   refine ⟨?_,fr_new hF6 hf7 (by omega)⟩
   rw [h3,hk1,hk2]
   rfl
end Go.Proofs.YtmhdkbmnpekpoaaGreatDoor
end
section
set_option linter.unusedSimpArgs false
set_option linter.unusedVariables false
set_option maxRecDepth 8000
namespace Go.Proofs.YtmhdkbmnpekpoaaGreatDoor
open Gx Go
inductive Nd where
 | mk (kind:Int) (text:Bs) (n at_:Int) (kids:List Nd)
mutual
def Nd.dat:Nd→Dat
 | .mk k t n a ks=>.agg [.v (.int .i64 k),.v (sv t),.v (.int .i64 n),.v (.int .i64 a),.list 5 (Nd.dats ks)]
def Nd.dats:List Nd→List Dat
 | []=>[]
 | p :: ps=>p.dat :: Nd.dats ps
end
theorem dats_eq:∀ l:List Nd,Nd.dats l=l.map Nd.dat
 | []=>by simp [Nd.dats]
 | p :: l=>by simp [Nd.dats,dats_eq l]
def kidsD (l:List Nd):Dat:=.list 5 (l.map Nd.dat)
theorem nd_rep {H:Heap} {M:List Nat} {k:Int} {t:Bs} {n a:Int} {ks:List Nd} {cs:List Value}:Rep H M (Nd.dat (.mk k t n a ks)) cs↔∃ v,cs=[.int .i64 k,sv t,.int .i64 n,.int .i64 a,v]∧Rep H M (kidsD ks) [v]:=by
 have e:∀ {cs:List Value},Rep H M (kidsD ks) cs→∃ v,cs=[v]:=by
  intro cs h
  unfold kidsD at h
  simp only [Rep] at h
  obtain ⟨a,c,css,h,_⟩:=h
  exact ⟨_,h⟩
 simp only [Nd.dat,Rep,Reps,dats_eq]
 constructor
 ·rintro ⟨css,rfl,c0,x0,rfl,rfl,c1,x1,rfl,rfl,c2,x2,rfl,rfl,c3,x3,rfl,rfl,c4,x4,rfl,h4,rfl⟩
  have h4':Rep H M (kidsD ks) c4:=by unfold kidsD; simp only [Rep]; exact h4
  obtain ⟨v,rfl⟩:=e h4'
  exact ⟨v,by simp,h4'⟩
 ·rintro ⟨v,rfl,h⟩
  unfold kidsD at h
  simp only [Rep] at h
  exact ⟨[_,_,_,_,[v]],by simp,_,_,rfl,rfl,_,_,rfl,rfl,_,_,rfl,rfl,_,_,rfl,rfl,_,_,rfl,h,rfl⟩
theorem RepP.nd {H:Heap} {B:Nat→Prop} {k:Int} {t:Bs} {n a:Int} {ks:List Nd} {v:Value} (h:RepP H B (kidsD ks) [v]):RepP H B (Nd.dat (.mk k t n a ks)) [.int .i64 k,sv t,.int .i64 n,.int .i64 a,v]:=
 fun M hM=>nd_rep.2 ⟨v,rfl,h M hM⟩
theorem RepP.nd_open {H:Heap} {B:Nat→Prop} {k:Int} {t:Bs} {n a:Int} {ks:List Nd} {cs:List Value} (h:RepP H B (Nd.dat (.mk k t n a ks)) cs):∃ v,cs=[.int .i64 k,sv t,.int .i64 n,.int .i64 a,v]∧RepP H B (kidsD ks) [v]:=by
 obtain ⟨v,rfl,_⟩:=nd_rep.1 (h [] (by simp))
 refine ⟨v,rfl,fun M hM=>?_⟩
 obtain ⟨v',e,h'⟩:=nd_rep.1 (h M hM)
 simp only [List.cons.injEq,and_true,true_and] at e
 subst e; exact h'
abbrev Flt:=Int × Int
abbrev PP (α:Type):=List Tk→Except Flt (α × List Tk)
def hd (ts:List Tk):Tk:=ts.headD ⟨6,[],0,0⟩
def isB (s:Bs) (ts:List Tk):Bool:=(decide ((hd ts).kind=2) || decide ((hd ts).kind=5)) && decide ((hd ts).text=s)
def bd {α β:Type} (p:PP α) (f:α→PP β):PP β:=fun ts=>match p ts with
 | .error e=>.error e
 | .ok (a,r)=>f a r
theorem bd_err {α β:Type} {p:PP α} {f:α→PP β} {ts:List Tk} {e:Flt} (h:p ts= .error e):bd p f ts= .error e:=by simp only [bd,h]
theorem bd_ok {α β:Type} {p:PP α} {f:α→PP β} {ts r:List Tk} {a:α} (h:p ts= .ok (a,r)):bd p f ts=f a r:=by simp only [bd,h]
def ret {α:Type} (a:α):PP α:=fun ts=>.ok (a,ts)
def expP (s:Bs):PP Int:=fun ts=>if isB s ts then .ok ((hd ts).at_,ts.tail) else .error (2,(hd ts).at_)
def takeP (k:Int):PP Tk:=fun ts=>if (hd ts).kind=k then .ok (hd ts,ts.tail) else .error (2,(hd ts).at_)
def entP {α β:Type} (lo:Option β) (s:Bs) (body:β→PP α):PP α:=fun ts=>if isB s ts then (match lo with
    | none=>.error (6,(hd ts).at_)
    | some x=>body x ts.tail) else .error (2,(hd ts).at_)
def intP:PP Nd:=fun ts=>if isB [45] ts then bd (takeP 3) (fun t=>ret (.mk 44 [] (IntKind.i64.wrap (0 - t.n)) (hd ts).at_ [])) ts.tail else bd (takeP 3) (fun t=>ret (.mk 44 [] t.n (hd ts).at_ [])) ts
def namedP (k:Int):PP Nd:=bd (takeP 1) fun t=>ret (.mk k t.text 0 t.at_ [])
def quoteP:PP Nd:=bd (takeP 4) fun t=>ret (.mk 47 t.text 0 t.at_ [])
abbrev Kd:=List (Bs × Int)
def kdOf (l:Kd) (s:Bs):Int:=(l.lookup s).getD 0
def opAt (kd:Kd) (ts:List Tk):Bool:=decide (kdOf kd (hd ts).text≠0) && isB (hd ts).text ts
def chainF (op:PP Nd) (kd:Kd):Nat→Nd→PP Nd
 | 0,n=>ret n
 | f + 1,n=>fun ts=>if opAt kd ts then bd op (fun m=>chainF op kd f (.mk (kdOf kd (hd ts).text) [] 0 (hd ts).at_ [n,m])) ts.tail else .ok (n,ts)
def chainP (op:PP Nd) (kd:Kd):PP Nd:=bd op fun n r=>chainF op kd r.length n r
abbrev Lo:=Option (PP Nd × PP Nd)
def postF (lo:Lo):Nat→Nd→PP Nd
 | 0,n=>ret n
 | f + 1,n=>fun ts=>if isB [46] ts then bd (takeP 1) (fun t=>postF lo f (.mk 42 t.text 0 (hd ts).at_ [n])) ts.tail
   else if isB [91] ts then entP lo [91] (fun x=>bd x.1 fun m=>bd (expP [93]) fun _=>postF lo f (.mk 43 [] 0 (hd ts).at_ [n,m])) ts
   else .ok (n,ts)
def fnList:List Bs:=[[102,108,97,103],[110,117,109],[115,101,116],[109,97,112],[114,101,99],[112,97,105,114],[111,110,101],[119,114,105,116,101],[115,105,122,101],[115,117,109],[110,117,109,98,101,114],[111,110],[107,101,121,115],[118,97,108,117,101,115],[102,105,114,115,116],[115,101,99,111,110,100],[99,111,110,102,108,105,99,116]]
def argP (e:PP Nd) (fn:Bs):PP Nd:=fun ts=>
 if fn=[114,101,99] then bd (takeP 1) (fun t=>bd (expP [58]) fun _=>bd e fun x=>ret (.mk 52 t.text 0 (hd ts).at_ [x])) ts
 else if fn=[109,97,112] then bd e (fun x=>bd (expP [58]) fun _=>bd e fun y=>ret (.mk 52 [] 0 (hd ts).at_ [x,y])) ts
 else e ts
def commaP:PP Bool:=fun ts=>if isB [44] ts then .ok (true,ts.tail) else bd (expP [41]) (fun _=>ret false) ts
def listF (arg:PP Nd):Nat→List Nd→PP (List Nd)
 | 0,l=>ret l
 | f + 1,l=>bd arg fun a=>bd commaP fun m=>if m then listF arg f (l ++ [a]) else ret (l ++ [a])
def listP (arg:PP Nd):PP (List Nd):=fun ts=>if isB [41] ts then .ok ([],ts.tail) else listF arg ts.length [] ts
def primP (lo:Lo):PP Nd:=fun ts=>
 if (hd ts).kind=3∨isB [45] ts=true then intP ts
 else if (hd ts).kind=4 then quoteP ts
 else if (hd ts).kind=1 then namedP 48 ts
 else if isB [116,114,117,101] ts then .ok (.mk 45 [] 0 (hd ts).at_ [],ts.tail)
 else if isB [102,97,108,115,101] ts then .ok (.mk 46 [] 0 (hd ts).at_ [],ts.tail)
 else if isB [115] ts then .ok (.mk 49 [] 0 (hd ts).at_ [],ts.tail)
 else if isB [98,111,116,116,111,109] ts then .ok (.mk 50 [] 0 (hd ts).at_ [],ts.tail)
 else if isB [40] ts then entP lo [40] (fun x=>bd x.1 fun n=>bd (expP [41]) fun _=>ret n) ts
 else if (hd ts).kind=2∧(hd ts).text ∈ fnList then entP lo [40] (fun x=>bd (listP (argP x.1 (hd ts).text)) fun l=>ret (.mk 51 (hd ts).text 0 (hd ts).at_ l)) ts.tail
 else .error (2,(hd ts).at_)
def postP (lo:Lo):PP Nd:=bd (primP lo) fun n r=>postF lo r.length n r
def kSum:Kd:=[([43],40),([45],41)]
def kJoin:Kd:=[([106,111,105,110],39)]
def kCmp:Kd:=[([60,61],34),([60],35),([61,61],36),([105,110],37),([108,101,113],38)]
def kAnd:Kd:=[([97,110,100],32)]
def kOr:Kd:=[([111,114],31)]
def sumP (lo:Lo):PP Nd:=chainP (postP lo) kSum
def joinP (lo:Lo):PP Nd:=chainP (sumP lo) kJoin
def cmpP (lo:Lo):PP Nd:=bd (joinP lo) fun n ts=>if opAt kCmp ts then bd (joinP lo) (fun m=>ret (.mk (kdOf kCmp (hd ts).text) [] 0 (hd ts).at_ [n,m])) ts.tail else .ok (n,ts)
def notP (lo:Lo):PP Nd:=fun ts=>if isB [110,111,116] ts then entP lo [110,111,116] (fun x=>bd x.2 fun n=>ret (.mk 33 [] 0 (hd ts).at_ [n])) ts else cmpP lo ts
def andP (lo:Lo):PP Nd:=chainP (notP lo) kAnd
def orP (lo:Lo):PP Nd:=chainP (andP lo) kOr
def exprP (lo:Lo):PP Nd:=fun ts=>if isB [105,102] ts then entP lo [105,102] (fun x=>bd x.1 fun a=>bd (expP [116,104,101,110]) fun _=>bd x.1 fun b=>bd (expP [101,108,115,101]) fun _=>bd x.1 fun c=>ret (.mk 30 [] 0 (hd ts).at_ [a,b,c])) ts else orP lo ts
def lev:Nat→PP Nd × PP Nd
 | 0=>(exprP none,notP none)
 | k + 1=>(exprP (some (lev k)),notP (some (lev k)))
def loK:Nat→Lo
 | 0=>none
 | k + 1=>some (lev k)
theorem lev_eq (k:Nat):lev k=(exprP (loK k),notP (loK k)):=by cases k <;> rfl
def Dn {α:Type} (p:PP α):Prop:=∀ (ts r:List Tk) (a:α),p ts= .ok (a,r)→r.length≤ts.length
theorem Dn.of {α:Type} {p:PP α} (h:Dn p) {ts r:List Tk} {a:α} (hp:p ts= .ok (a,r)):r.length≤ts.length:=h _ _ _ hp
theorem tail_le (ts:List Tk):ts.tail.length≤ts.length:=by simp
theorem Dn.bnd {α β:Type} {p:PP α} {f:α→PP β} (h:Dn p) (hf:∀ a,Dn (f a)):Dn (bd p f):=by
 intro ts r b hb
 unfold bd at hb
 split at hb
 ·cases hb
 ·rename_i a q hq
  have:=h.of hq; have:=(hf a).of hb; omega
theorem Dn.bnd' {α β:Type} {p:PP α} {f:α→PP β} (h:Dn p) (hf:∀ a ts r b,f a ts= .ok (b,r)→r.length≤ts.length):Dn (bd p f):=h.bnd fun a ts r b hb=>hf a ts r b hb
theorem Dn.ret {α:Type} (a:α):Dn (ret a):=by
 intro ts r b h
 simp only [Go.Proofs.YtmhdkbmnpekpoaaGreatDoor.ret,Except.ok.injEq,Prod.mk.injEq] at h
 rw [h.2]
 exact Nat.le_refl _
theorem Dn.tl {α:Type} {p:PP α} (h:Dn p) {ts r:List Tk} {a:α} (hp:p ts.tail= .ok (a,r)):r.length≤ts.length:=by
 have:=h.of hp; have:=tail_le ts; omega
theorem expP_dn (s:Bs):Dn (expP s):=by
 intro ts r b h
 unfold expP at h
 split at h
 ·cases h; exact tail_le _
 ·cases h
theorem takeP_dn (k:Int):Dn (takeP k):=by
 intro ts r b h
 unfold takeP at h
 split at h
 ·cases h; exact tail_le _
 ·cases h
theorem entP_dn {α β:Type} {lo:Option β} {s:Bs} {body:β→PP α} (h:∀ x,lo=some x→Dn (body x)):Dn (entP lo s body):=by
 intro ts r b hb
 unfold entP at hb
 split at hb
 ·split at hb
  ·cases hb
  ·rename_i x
   exact Dn.tl (h x rfl) hb
 ·cases hb
theorem intP_dn:Dn intP:=by
 intro ts r b h
 unfold intP at h
 split at h
 ·exact Dn.tl ((takeP_dn 3).bnd fun _=>Dn.ret _) h
 ·exact Dn.of ((takeP_dn 3).bnd fun _=>Dn.ret _) h
theorem namedP_dn (k:Int):Dn (namedP k):=(takeP_dn 1).bnd fun _=>Dn.ret _
theorem quoteP_dn:Dn quoteP:=(takeP_dn 4).bnd fun _=>Dn.ret _
theorem chainF_dn {op:PP Nd} {kd:Kd} (h:Dn op):∀ f n,Dn (chainF op kd f n)
 | 0,n=>Dn.ret n
 | f + 1,n=>by
   intro ts r b hb
   simp only [chainF] at hb
   split at hb
   ·exact Dn.tl (h.bnd fun m=>chainF_dn h f _) hb
   ·cases hb; exact Nat.le_refl _
theorem chainP_dn {op:PP Nd} {kd:Kd} (h:Dn op):Dn (chainP op kd):=h.bnd' fun n ts r b hb=>(chainF_dn h _ n).of hb
def LoDn (lo:Lo):Prop:=∀ x,lo=some x→Dn x.1∧Dn x.2
section
variable {lo:Lo} (hl:LoDn lo)
include hl
theorem postF_dn:∀ f n,Dn (postF lo f n)
 | 0,n=>Dn.ret n
 | f + 1,n=>by
   intro ts r b hb
   simp only [postF] at hb
   split at hb
   ·exact Dn.tl ((takeP_dn 1).bnd fun t=>postF_dn f _) hb
   ·split at hb
    ·exact Dn.of (entP_dn fun x hx=>((hl x hx).1).bnd fun m=>(expP_dn _).bnd fun _=>postF_dn f _) hb
    ·cases hb; exact Nat.le_refl _
end
theorem commaP_dn:Dn commaP:=by
 intro ts r b hb
 unfold commaP at hb
 split at hb
 ·cases hb; exact tail_le _
 ·exact Dn.of ((expP_dn _).bnd fun _=>Dn.ret _) hb
theorem argP_dn {e:PP Nd} (he:Dn e) (fn:Bs):Dn (argP e fn):=by
 intro ts r b hb
 unfold argP at hb
 split at hb
 ·exact Dn.of ((takeP_dn 1).bnd fun t=>(expP_dn _).bnd fun _=>he.bnd fun _=>Dn.ret _) hb
 ·split at hb
  ·exact Dn.of (he.bnd fun t=>(expP_dn _).bnd fun _=>he.bnd fun _=>Dn.ret _) hb
  ·exact Dn.of (he) hb
theorem listF_dn {arg:PP Nd} (h:Dn arg):∀ f l,Dn (listF arg f l)
 | 0,l=>Dn.ret l
 | f + 1,l=>h.bnd fun a=>commaP_dn.bnd fun m=>by
   cases m
   ·exact Dn.ret _
   ·exact listF_dn h f _
theorem listP_dn {arg:PP Nd} (h:Dn arg):Dn (listP arg):=by
 intro ts r b hb
 unfold listP at hb
 split at hb
 ·cases hb; exact tail_le _
 ·exact Dn.of (listF_dn h _ _) hb
section
variable {lo:Lo} (hl:LoDn lo)
include hl
theorem primP_dn:Dn (primP lo):=by
 intro ts r b hb
 unfold primP at hb
 split at hb
 ·exact Dn.of (intP_dn) hb
 split at hb
 ·exact Dn.of (quoteP_dn) hb
 split at hb
 ·exact Dn.of (namedP_dn _) hb
 split at hb
 ·cases hb; exact tail_le _
 split at hb
 ·cases hb; exact tail_le _
 split at hb
 ·cases hb; exact tail_le _
 split at hb
 ·cases hb; exact tail_le _
 split at hb
 ·exact Dn.of (entP_dn fun x hx=>(hl x hx).1.bnd fun _=>(expP_dn _).bnd fun _=>Dn.ret _) hb
 split at hb
 ·exact Dn.tl (entP_dn fun x hx=>(listP_dn (argP_dn (hl x hx).1 _)).bnd fun _=>Dn.ret _) hb
 ·cases hb
theorem postP_dn:Dn (postP lo):=(primP_dn hl).bnd' fun n ts r b hb=>(postF_dn hl _ n).of hb
theorem sumP_dn:Dn (sumP lo):=chainP_dn (postP_dn hl)
theorem joinP_dn:Dn (joinP lo):=chainP_dn (sumP_dn hl)
theorem cmpP_dn:Dn (cmpP lo):=(joinP_dn hl).bnd' fun n ts r b hb=>by
 split at hb
 ·exact Dn.tl ((joinP_dn hl).bnd fun _=>Dn.ret _) hb
 ·cases hb; exact Nat.le_refl _
theorem notP_dn:Dn (notP lo):=by
 intro ts r b hb
 unfold notP at hb
 split at hb
 ·exact Dn.of (entP_dn fun x hx=>(hl x hx).2.bnd fun _=>Dn.ret _) hb
 ·exact Dn.of (cmpP_dn hl) hb
theorem andP_dn:Dn (andP lo):=chainP_dn (notP_dn hl)
theorem orP_dn:Dn (orP lo):=chainP_dn (andP_dn hl)
theorem exprP_dn:Dn (exprP lo):=by
 intro ts r b hb
 unfold exprP at hb
 split at hb
 ·exact Dn.of (entP_dn fun x hx=>(hl x hx).1.bnd fun _=>(expP_dn _).bnd fun _=>(hl x hx).1.bnd fun _=>(expP_dn _).bnd fun _=>(hl x hx).1.bnd fun _=>Dn.ret _) hb
 ·exact Dn.of (orP_dn hl) hb
end
theorem lev_dn:∀ k,Dn (lev k).1∧Dn (lev k).2
 | 0=>by
   have h:LoDn none:=fun x hx=>by cases hx
   exact ⟨exprP_dn h,notP_dn h⟩
 | k + 1=>by
   have h:LoDn (some (lev k)):=fun x hx=>by
    cases hx; exact lev_dn k
   exact ⟨exprP_dn h,notP_dn h⟩
theorem loK_dn (k:Nat):LoDn (loK k):=by
 intro x hx
 cases k with
 | zero=>cases hx
 | succ k=>cases hx; exact lev_dn k
end Go.Proofs.YtmhdkbmnpekpoaaGreatDoor
end
section
set_option linter.unusedSimpArgs false
set_option linter.unusedVariables false
set_option maxRecDepth 8000
namespace Go.Proofs.YtmhdkbmnpekpoaaGreatDoor
open Gx Go
structure Cx where
 b:Nat
 a:Option Addr
 c:Nat
 T:List Tk
def ptr (b:Nat):Value:=.pointer (some ⟨b,0,none⟩)
def flt (e:Flt):Chain:=[{ v:=.iface 31 (.agg #[.int .i64 e.1,.int .i64 e.2]),recovered:=false }]
structure Ps (X:Cx) (H:Heap) (ts:List Tk) (k:Nat):Prop where
 ex:∃ i:Nat,Blk H X.b 74 [.slice X.a X.T.length X.c,.int .i64 i,.int .i64 ((64 - k:Nat):Int)]∧ts=X.T.drop i∧i < X.T.length
 row:RowR tkC H X.a X.T
 ne:∀ b o,X.a=some ⟨b,o,none⟩→b≠X.b
 k64:k≤64
 cap:X.T.length≤1048576
 fin:∀ i t r,X.T.drop i=t :: r→t.kind≠6→r≠[]
section
variable {X:Cx} {H H':Heap} {ts r:List Tk} {k:Nat}
theorem Ps.ext (h:Ps X H ts k) (hf:Fr [] H H'):Ps X H' ts k:=by
 obtain ⟨i,h1,h2,h3⟩:=h.ex
 exact ⟨⟨i,h1.ext hf,h2,h3⟩,h.row.ext hf,h.ne,h.k64,h.cap,h.fin⟩
theorem Ps.lt (h:Ps X H ts k):X.b < H.size:=by
 obtain ⟨i,h1,_⟩:=h.ex
 exact h1.lt
theorem Ps.on {M:List Nat} {H0:Heap} {ts0:List Tk} {k0:Nat} (h0:Ps X H0 ts0 k0) (h:Ps X H ts k) (hf:Fr M H H') (hM:∀ x ∈ M,H0.size≤x):Ps X H' ts k:=by
 obtain ⟨i,h1,h2,h3⟩:=h.ex
 obtain ⟨i0,g1,_,g3⟩:=h0.ex
 have hb:=g1.lt
 obtain ⟨b,o,ha,hp⟩:=RowR.get h0.row tkC_len i0 g3 (by decide)
 have hlt:=cellB_lt (hp 0 (by decide))
 refine ⟨⟨i,h1.fr hf fun hm=>by have:=hM _ hm; omega,h2,h3⟩,h.row.fr hf fun b' o' e hm=>?_,h.ne,h.k64,h.cap,h.fin⟩
 rw [ha] at e
 cases e
 have:=hM _ hm
 omega
theorem Ps.nil (h:Ps X H ts k):ts≠[]:=by
 obtain ⟨i,_,rfl,h3⟩:=h.ex
 intro e
 have:=congrArg List.length e
 simp only [List.length_drop,List.length_nil] at this
 omega
theorem Ps.more (h:Ps X H ts k) (hk:(hd ts).kind≠6):ts.tail≠[]:=by
 obtain ⟨i,_,rfl,h3⟩:=h.ex
 cases e:X.T.drop i with
 | nil=>have:=h.nil; exact absurd e this
 | cons t r=>
   rw [e] at hk
   exact h.fin i t r e hk
theorem isB_kind {s:Bs} (h:isB s ts=true):(hd ts).kind≠6:=by
 unfold isB at h
 simp only [Bool.and_eq_true,Bool.or_eq_true,decide_eq_true_eq] at h
 omega
end
theorem one_agg {k n a:Int} {t:Bs} {v:Value} (hv:v.oneCell'=true):∀ u ∈ [Value.int .i64 k,sv t,.int .i64 n,.int .i64 a,v],u.oneCell'=true:=by
 intro u hu
 simp only [List.mem_cons,List.not_mem_nil,or_false] at hu
 rcases hu with rfl | rfl | rfl | rfl | rfl <;> first | rfl | exact hv
structure POk {α:Type} (k:Nat) (f:Nat) (l:List Value) (p:PP α) (R:α→Value→Heap→Heap→Prop):Prop where
 ok:∀ {X:Cx} {H:Heap} {ts:List Tk},Ps X H ts k→PCalls Tryz.prog f (ptr X.b :: l).toArray H (fun v H'=>∃ a r,p ts= .ok (a,r)∧R a v H H'∧Ps X H' r k∧Fr [X.b] H H') fun ch H'=>∃ e,p ts= .error e∧ch=flt e∧Fr [X.b] H H'
theorem POk.use {α:Type} {k f:Nat} {l:List Value} {p:PP α} {R:α→Value→Heap→Heap→Prop} (h:POk k f l p R) {X:Cx} {H:Heap} {ts:List Tk} (hs:Ps X H ts k) {Q:Value→Heap→Prop} {E:Chain→Heap→Prop}
 (hE:∀ e H',p ts= .error e→Fr [X.b] H H'→E (flt e) H') (hR:∀ a r v H',p ts= .ok (a,r)→R a v H H'→Ps X H' r k→Fr [X.b] H H'→Q v H'):PCalls Tryz.prog f (ptr X.b :: l).toArray H Q E:=
 PCalls.mono (h.ok hs) (fun v H' ⟨a,r,h1,h2,h3,h4⟩=>hR a r v H' h1 h2 h3 h4) fun ch H' ⟨e,h1,h2,h3⟩=>h2 ▸ hE e H' h1 h3
def NdR (n:Nd) (v:Value) (H H':Heap):Prop:=∃ cs,v= .agg cs.toArray∧RepP H' (fun x=>x < H.size) n.dat cs
def TkR (t:Tk) (v:Value) (_ _:Heap):Prop:=v= .agg (tkC t).toArray
def IntR' (n:Int) (v:Value) (_ _:Heap):Prop:=v= .int .i64 n
def BoolR' (b:Bool) (v:Value) (_ _:Heap):Prop:=v= .bool b
section
variable {X:Cx} {H:Heap} {ts:List Tk} {k:Nat}
theorem look_ok (hs:Ps X H ts k):HCalls Tryz.prog 35 #[ptr X.b] H fun v H'=>v= .agg (tkC (hd ts)).toArray∧Fr [] H H':=by
 refine calls_of_vc (args:=[_]) Tryz.func35 c35ok (Nat.le_of_ble_eq_true rfl) ?_
 obtain ⟨i,hb,hts,hi⟩:=hs.ex
 simp (implicitDefEqProofs:=false) only [go_sem,c35,ptr]
 refine NewP_intro fun H1 hn1 hf1 hs1=>?_
 have hb1:=(hb.ext hf1).cell
 have h0:(0:Int)≤(i:Int):=by omega
 have h1:(i:Int) < (X.T.length:Int):=by omega
 have hrow:=hs.row.ext hf1
 obtain ⟨bb,o,ha,p⟩:=RowR.get hrow tkC_len i hi (by decide)
 have q0:=p 0 (by decide)
 have q1:=p 1 (by decide)
 have q2:=p 2 (by decide)
 have q3:=p 3 (by decide)
 have hh:X.T[i]=hd ts:=by rw [hts,List.drop_eq_getElem_cons hi]; rfl
 rw [hh] at q0 q1 q2 q3
 simp only [tkC,Nat.add_zero,List.getElem?_cons_zero,List.getElem?_cons_succ] at q0 q1 q2 q3
 rw [ha] at hb1
 simp (implicitDefEqProofs:=false) only [go_sem,hb1,h0,h1,q0,q1,q2,q3]
 refine Sto_all hn1 rfl (by intro u hu; simp only [List.mem_cons,List.not_mem_nil,or_false] at hu; rcases hu with rfl | rfl | rfl | rfl <;> rfl) fun H2 hn2 hf2 hs2=>?_
 have hc2:=hn2.cell
 simp (implicitDefEqProofs:=false) only [go_sem,hc2]
 exact ⟨rfl,new_fr hf1 hf2⟩
theorem fail_ok (hs:Ps X H ts k) (c:Int):PCalls Tryz.prog 53 #[ptr X.b,.int .i64 c] H (fun _ _=>False) fun ch H'=>ch=flt (c,(hd ts).at_)∧Fr [] H H':=by
 refine pcalls_of_vc (args:=[_,_]) Tryz.func53 c53ok (Nat.le_of_ble_eq_true rfl) ?_
 have hl:=look_ok hs
 unfold ptr at *
 simp (implicitDefEqProofs:=false) only [go_sem,c53]
 refine hl.mono ?_
 rintro v H1 ⟨rfl,hf⟩
 simp (implicitDefEqProofs:=false) only [go_sem,tkC]
 exact ⟨rfl,hf⟩
theorem one4' (t:Tk):∀ u ∈ [Value.int .i64 t.kind,sv t.text,.int .i64 t.n,.int .i64 t.at_],u.oneCell'=true:=by
 intro u hu
 simp only [List.mem_cons,List.not_mem_nil,or_false] at hu
 rcases hu with rfl | rfl | rfl | rfl <;> rfl
theorem is_ok (hs:Ps X H ts k) (s:Bs):HCalls Tryz.prog 54 #[ptr X.b,sv s] H fun v H'=>v= .bool (isB s ts)∧Fr [] H H':=by
 refine calls_of_vc (args:=[_,_]) Tryz.func54 c54ok (Nat.le_of_ble_eq_true rfl) ?_
 have hl:=look_ok hs
 unfold ptr at *
 simp (implicitDefEqProofs:=false) only [go_sem,c54,sv]
 refine hl.mono ?_
 rintro v H1 ⟨rfl,hf1⟩
 simp (implicitDefEqProofs:=false) only [go_sem,tkC]
 refine NewP_intro fun H2 hn2 hf2 hs2=>?_
 simp (implicitDefEqProofs:=false) only [go_sem]
 refine Sto_all hn2 rfl (one4' (hd ts)) fun H3 hn3 hf3 hs3=>?_
 have hc3:=hn3.cell
 have hF:=hf1.trans (new_fr hf2 hf3)
 unfold isB
 by_cases e2:(hd ts).kind=2
 ·by_cases et:(hd ts).text=s
  ·simp (implicitDefEqProofs:=false) only [go_sem,hc3,e2,et,ba_eq,sv]
   exact hF
  ·simp (implicitDefEqProofs:=false) only [go_sem,hc3,e2,et,ba_eq,sv]
   exact hF
 ·by_cases e5:(hd ts).kind=5
  ·by_cases et:(hd ts).text=s
   ·simp (implicitDefEqProofs:=false) only [go_sem,hc3,e2,e5,et,ba_eq,sv]
    exact hF
   ·simp (implicitDefEqProofs:=false) only [go_sem,hc3,e2,e5,et,ba_eq,sv]
    exact hF
  ·simp (implicitDefEqProofs:=false) only [go_sem,hc3,e2,e5,ba_eq,sv]
   exact hF
theorem Ps.step (hs:Ps X H ts k) (hk:(hd ts).kind≠6):∃ i:Nat,Blk H X.b 74 [.slice X.a X.T.length X.c,.int .i64 i,.int .i64 ((64 - k:Nat):Int)]∧IntKind.i64.wrap ((i:Int) + 1)=((i + 1:Nat):Int)∧
 ∀ H',Blk H' X.b 74 [.slice X.a X.T.length X.c,.int .i64 ((i + 1:Nat):Int),.int .i64 ((64 - k:Nat):Int)]→Fr [X.b] H H'→Ps X H' ts.tail k:=by
 have hm:=hs.more hk
 obtain ⟨i,hb,hts,hi⟩:=hs.ex
 have hcap:=hs.cap
 refine ⟨i,hb,by rw [wrap_i64_id _ (by omega) (by omega)]; omega,fun H' hb' hf=>⟨⟨i + 1,hb',by rw [hts,List.tail_drop],?_⟩,hs.row.fr hf (fun b o e=>by have:=hs.ne b o e; simpa using this),hs.ne,hs.k64,hs.cap,hs.fin⟩⟩
 rcases Nat.lt_or_ge (i + 1) X.T.length with q | q
 ·exact q
 ·exfalso; apply hm
  rw [hts,List.tail_drop]
  exact List.drop_eq_nil_of_le q
theorem accept_ok (hs:Ps X H ts k) (s:Bs):HCalls Tryz.prog 61 #[ptr X.b,sv s] H fun v H'=>v= .bool (isB s ts)∧Ps X H' (if isB s ts then ts.tail else ts) k∧Fr [X.b] H H':=by
 refine calls_of_vc (args:=[_,_]) Tryz.func61 c61ok (Nat.le_of_ble_eq_true rfl) ?_
 have hl:=is_ok hs s
 unfold ptr at *
 simp (implicitDefEqProofs:=false) only [go_sem,c61]
 refine hl.mono ?_
 rintro v H1 ⟨rfl,hf1⟩
 cases e:isB s ts with
 | false=>
   simp (implicitDefEqProofs:=false) only [go_sem]
   exact ⟨hs.ext hf1,hf1.mono (by simp)⟩
 | true=>
   obtain ⟨i,hb,hw,hnext⟩:=(hs.ext hf1).step (isB_kind e)
   have hc:=hb.cell
   simp (implicitDefEqProofs:=false) only [go_sem,hc,hw]
   refine Sto_one hb (by simp) rfl fun H2 hn2 hf2 hs2=>?_
   simp (implicitDefEqProofs:=false) only [go_sem]
   exact ⟨hnext H2 hn2 hf2,(hf1.mono (by simp)).trans hf2⟩
theorem fr1 {b:Nat} {A B:Heap} (h:Fr [] A B):Fr [b] A B:=h.mono (by simp)
theorem expect_ok (s:Bs):POk k 57 [sv s] (expP s) IntR':=by
 refine ⟨fun {X H ts} hs=>?_⟩
 refine pcalls_of_vc (args:=[_,_]) Tryz.func57 c57ok (Nat.le_of_ble_eq_true rfl) ?_
 have hl:=look_ok hs
 unfold ptr at *
 simp (implicitDefEqProofs:=false) only [go_sem,c57]
 refine hl.mono ?_
 rintro v H1 ⟨rfl,hf1⟩
 have hA:=accept_ok (hs.ext hf1) s
 unfold ptr at *
 simp (implicitDefEqProofs:=false) only [go_sem,tkC]
 refine hA.mono ?_
 rintro v H2 ⟨rfl,hs2,hf2⟩
 cases e:isB s ts with
 | true=>
   rw [e,if_pos rfl] at hs2
   simp (implicitDefEqProofs:=false) only [go_sem]
   exact ⟨(hd ts).at_,ts.tail,by simp [expP,e],rfl,hs2,(fr1 hf1).trans hf2⟩
 | false=>
   rw [e] at hs2
   have hfl:=fail_ok hs2 2
   unfold ptr at *
   simp (implicitDefEqProofs:=false) only [go_sem]
   refine hfl.mono (fun _ _ h=>h.elim) ?_
   rintro ch H3 ⟨rfl,hf3⟩
   exact ⟨(2,(hd ts).at_),by simp [expP,e],rfl,((fr1 hf1).trans hf2).trans (fr1 hf3)⟩
theorem take_ok (n:Int) (hn:n≠6):POk k 62 [.int .i64 n] (takeP n) TkR:=by
 refine ⟨fun {X H ts} hs=>?_⟩
 refine pcalls_of_vc (args:=[_,_]) Tryz.func62 c62ok (Nat.le_of_ble_eq_true rfl) ?_
 unfold ptr at *
 simp (implicitDefEqProofs:=false) only [go_sem,c62]
 refine NewP_intro fun H0 hn0 hf0 hs0=>?_
 have hl:=look_ok (hs.ext hf0)
 unfold ptr at *
 simp (implicitDefEqProofs:=false) only [go_sem]
 refine hl.mono ?_
 rintro v H1 ⟨rfl,hf1⟩
 simp (implicitDefEqProofs:=false) only [go_sem,tkC]
 refine NewP_intro fun H2 hn2 hf2 hs2=>?_
 simp (implicitDefEqProofs:=false) only [go_sem]
 refine Sto_all hn2 rfl (one4' (hd ts)) fun H3 hn3 hf3 hs3=>?_
 have hc3:=hn3.cell
 have hfn:=new_fr hf2 hf3
 have hF:=(hf0.trans hf1).trans hfn
 by_cases e:(hd ts).kind=n
 ·obtain ⟨i,hb,hw,hnext⟩:=(hs.ext hF).step (by rw [e]; exact hn)
  have hc:=hb.cell
  simp (implicitDefEqProofs:=false) only [go_sem,hc3,e,hc,hw]
  refine Sto_one hb (by simp) rfl fun H4 hn4 hf4 hs4=>?_
  have hx:H1.size≠X.b:=by have:=(hs.ext (hf0.trans hf1)).lt; omega
  have hx0:H.size≠X.b:=by have:=hs.lt; omega
  have hc4:=(hn3.fr hf4 (by simpa using hx)).cell
  simp (implicitDefEqProofs:=false) only [go_sem,hc4]
  have hn0':=(hn0.ext (hf1.trans hfn)).fr hf4 (by simpa using hx0)
  refine Sto_all hn0' rfl (one4' (hd ts)) fun H5 hn5 hf5 hs5=>?_
  have hc5:=hn5.cell
  simp (implicitDefEqProofs:=false) only [go_sem,hc5]
  have hFb:Fr [X.b] H H5:=((fr1 hF).trans hf4).trans' hf5 (by intro x hx'; simp only [List.mem_singleton] at hx'; subst hx'; exact .inr (Nat.le_refl _))
  refine ⟨hd ts,ts.tail,by simp [takeP,e],rfl,?_,hFb⟩
  have hs4':=hnext H4 hn4 hf4
  exact Ps.on hs hs4' hf5 (by simp)
 ·have hfl:=fail_ok (hs.ext hF) 2
  unfold ptr at *
  simp (implicitDefEqProofs:=false) only [go_sem,hc3,e]
  refine hfl.mono (fun _ _ h=>h.elim) ?_
  rintro ch H4 ⟨rfl,hf4⟩
  exact ⟨(2,(hd ts).at_),by simp [takeP,e],rfl,fr1 (hF.trans hf4)⟩
theorem enter_ok (hs:Ps X H ts (k + 1)) {s:Bs} (e:isB s ts=true):HCalls Tryz.prog 56 #[ptr X.b,sv s] H fun v H'=>v= .int .i64 (hd ts).at_∧Ps X H' ts.tail k∧Fr [X.b] H H':=by
 refine calls_of_vc (args:=[_,_]) Tryz.func56 c56ok (Nat.le_of_ble_eq_true rfl) ?_
 have hl:=is_ok hs s
 rw [e] at hl
 unfold ptr at *
 simp (implicitDefEqProofs:=false) only [go_sem,c56]
 refine hl.mono ?_
 rintro v H1 ⟨rfl,hf1⟩
 have hs1:=hs.ext hf1
 obtain ⟨i,hb,hts,hi⟩:=hs1.ex
 have hc:=hb.cell
 have hk:=hs.k64
 have hk':¬ (((64 - (k + 1):Nat):Int)=64):=by omega
 simp (implicitDefEqProofs:=false) only [go_sem,hc,hk']
 refine (expect_ok s).use hs1 (fun e' H' he hf=>?_) fun a r v H2 he hv hs2 hf2=>?_
 ·simp [expP,e] at he
 simp only [expP,e,if_true,Except.ok.injEq,Prod.mk.injEq] at he
 obtain ⟨rfl,rfl⟩:=he
 cases hv
 obtain ⟨i2,hb2,hts2,hi2⟩:=hs2.ex
 have hc2:=hb2.cell
 have hw:IntKind.i64.wrap (((64 - (k + 1):Nat):Int) + 1)=((64 - k:Nat):Int):=by rw [wrap_i64_id _ (by omega) (by omega)]; omega
 simp (implicitDefEqProofs:=false) only [go_sem,hc2,hw]
 refine Sto_one hb2 (by simp) rfl fun H3 hn3 hf3 hs3=>?_
 simp (implicitDefEqProofs:=false) only [go_sem]
 refine ⟨⟨⟨i2,hn3,hts2,hi2⟩,hs2.row.fr hf3 (fun b o e=>by have:=hs.ne b o e; simpa using this),hs2.ne,by omega,hs2.cap,hs2.fin⟩,((fr1 hf1).trans hf2).trans hf3⟩
theorem enter_no (hs:Ps X H ts k) {s:Bs} (h:isB s ts=false∨k=0):PCalls Tryz.prog 56 #[ptr X.b,sv s] H (fun _ _=>False) fun ch H'=>ch=flt (if isB s ts then 6 else 2,(hd ts).at_)∧Fr [X.b] H H':=by
 refine pcalls_of_vc (args:=[_,_]) Tryz.func56 c56ok (Nat.le_of_ble_eq_true rfl) ?_
 have hl:=is_ok hs s
 unfold ptr at *
 simp (implicitDefEqProofs:=false) only [go_sem,c56]
 refine hl.mono ?_
 rintro v H1 ⟨rfl,hf1⟩
 have hs1:=hs.ext hf1
 cases e:isB s ts with
 | true=>
   have hk:k=0:=by rcases h with h | h; rw [e] at h; cases h; exact h
   subst hk
   obtain ⟨i,hb,hts,hi⟩:=hs1.ex
   have hc:=hb.cell
   have hfl:=fail_ok hs1 6
   unfold ptr at *
   simp (implicitDefEqProofs:=false) only [go_sem,hc]
   refine hfl.mono (fun _ _ h=>h.elim) ?_
   rintro ch H4 ⟨rfl,hf4⟩
   exact ⟨rfl,fr1 (hf1.trans hf4)⟩
 | false=>
   obtain ⟨i,hb,hts,hi⟩:=hs1.ex
   have hc:=hb.cell
   simp (implicitDefEqProofs:=false) only [go_sem,hc]
   refine (expect_ok s).use hs1 (fun e' H' he hf=>?_) fun a r v H2 he hv hs2 hf2=>?_
   ·simp only [expP,e,Bool.false_eq_true,if_false,Except.error.injEq] at he
    subst he
    exact ⟨rfl,(fr1 hf1).trans hf⟩
   ·simp [expP,e] at he
theorem leave_ok (hs:Ps X H ts k) (hk:k < 64):HCalls Tryz.prog 58 #[ptr X.b] H fun v H'=>Ps X H' ts (k + 1)∧Fr [X.b] H H':=by
 refine calls_of_vc (args:=[_]) Tryz.func58 c58ok (Nat.le_of_ble_eq_true rfl) ?_
 obtain ⟨i,hb,hts,hi⟩:=hs.ex
 have hc:=hb.cell
 have hw:IntKind.i64.wrap (((64 - k:Nat):Int) - 1)=((64 - (k + 1):Nat):Int):=by rw [wrap_i64_id _ (by omega) (by omega)]; omega
 unfold ptr at *
 simp (implicitDefEqProofs:=false) only [go_sem,c58,hc,hw]
 refine Sto_one hb (by simp) rfl fun H3 hn3 hf3 hs3=>?_
 simp (implicitDefEqProofs:=false) only [go_sem]
 exact ⟨⟨⟨i,hn3,hts,hi⟩,hs.row.fr hf3 (fun b o e=>by have:=hs.ne b o e; simpa using this),hs.ne,by omega,hs.cap,hs.fin⟩,hf3⟩
theorem zeroKids {H:Heap} {B:Nat→Prop}:RepP H B (kidsD []) [.slice none 0 0]:=RepP.nil 5
theorem named_ok (n:Int):POk k 65 [.int .i64 n] (namedP n) NdR:=by
 refine ⟨fun {X H ts} hs=>?_⟩
 refine pcalls_of_vc (args:=[_,_]) Tryz.func65 c65ok (Nat.le_of_ble_eq_true rfl) ?_
 simp (implicitDefEqProofs:=false) only [go_sem,c65]
 refine NewP_intro fun H0 hn0 hf0 hs0=>?_
 simp (implicitDefEqProofs:=false) only [go_sem]
 refine (take_ok 1 (by decide)).use (hs.ext hf0) (fun e H' he hf=>⟨e,bd_err he,rfl,(fr1 hf0).trans hf⟩) fun t r v H1 he hv hs1 hf1=>?_
 have hF1:=(fr1 hf0).trans hf1
 cases hv
 simp (implicitDefEqProofs:=false) only [go_sem,tkC]
 refine NewP_intro fun H2 hn2 hf2 hsz2=>?_
 simp (implicitDefEqProofs:=false) only [go_sem]
 refine Sto_all hn2 rfl (one4' t) fun H3 hn3 hf3 hs3=>?_
 have hc3:=hn3.cell
 have hfn:=new_fr hf2 hf3
 have hx0:H.size≠X.b:=by have:=hs.lt; omega
 have hn0':=(hn0.fr hf1 (by simpa using hx0)).ext hfn
 simp (implicitDefEqProofs:=false) only [go_sem,hc3,sv]
 refine Sto_all hn0' rfl (one_agg rfl) fun H4 hn4 hf4 hs4=>?_
 have hc4:=hn4.cell
 simp (implicitDefEqProofs:=false) only [go_sem,hc4]
 refine ⟨.mk n t.text 0 t.at_ [],r,bd_ok he,⟨_,rfl,RepP.nd zeroKids⟩,Ps.on hs (hs1.ext hfn) hf4 (by simp),(hF1.trans (fr1 hfn)).trans' hf4 (by simp)⟩
theorem quote_ok:POk k 103 [] quoteP NdR:=by
 refine ⟨fun {X H ts} hs=>?_⟩
 refine pcalls_of_vc (args:=[_]) Tryz.func103 c103ok (Nat.le_of_ble_eq_true rfl) ?_
 simp (implicitDefEqProofs:=false) only [go_sem,c103]
 refine NewP_intro fun H0 hn0 hf0 hs0=>?_
 simp (implicitDefEqProofs:=false) only [go_sem]
 refine (take_ok 4 (by decide)).use (hs.ext hf0) (fun e H' he hf=>⟨e,bd_err he,rfl,(fr1 hf0).trans hf⟩) fun t r v H1 he hv hs1 hf1=>?_
 have hF1:=(fr1 hf0).trans hf1
 cases hv
 simp (implicitDefEqProofs:=false) only [go_sem,tkC]
 refine NewP_intro fun H2 hn2 hf2 hsz2=>?_
 simp (implicitDefEqProofs:=false) only [go_sem]
 refine Sto_all hn2 rfl (one4' t) fun H3 hn3 hf3 hs3=>?_
 have hc3:=hn3.cell
 have hfn:=new_fr hf2 hf3
 have hx0:H.size≠X.b:=by have:=hs.lt; omega
 have hn0':=(hn0.fr hf1 (by simpa using hx0)).ext hfn
 simp (implicitDefEqProofs:=false) only [go_sem,hc3,sv]
 refine Sto_all hn0' rfl (one_agg rfl) fun H4 hn4 hf4 hs4=>?_
 have hc4:=hn4.cell
 simp (implicitDefEqProofs:=false) only [go_sem,hc4]
 refine ⟨.mk 47 t.text 0 t.at_ [],r,bd_ok he,⟨_,rfl,RepP.nd zeroKids⟩,Ps.on hs (hs1.ext hfn) hf4 (by simp),(hF1.trans (fr1 hfn)).trans' hf4 (by simp)⟩
theorem comma_ok:POk k 63 [] commaP BoolR':=by
 refine ⟨fun {X H ts} hs=>?_⟩
 refine pcalls_of_vc (args:=[_]) Tryz.func63 c63ok (Nat.le_of_ble_eq_true rfl) ?_
 have hA:=accept_ok hs [44]
 unfold ptr sv at *
 simp (implicitDefEqProofs:=false) only [go_sem,c63]
 refine hA.mono ?_
 rintro v H1 ⟨rfl,hs1,hf1⟩
 cases e:isB [44] ts with
 | true=>
   rw [e,if_pos rfl] at hs1
   simp (implicitDefEqProofs:=false) only [go_sem]
   exact ⟨true,ts.tail,by simp [commaP,e],rfl,hs1,hf1⟩
 | false=>
   rw [e] at hs1
   simp (implicitDefEqProofs:=false) only [go_sem]
   refine (expect_ok [41]).use hs1 (fun e' H' he hf=>⟨e',by simp only [commaP,e]; exact bd_err he,rfl,hf1.trans hf⟩) fun a r v H2 he hv hs2 hf2=>?_
   simp (implicitDefEqProofs:=false) only [go_sem]
   exact ⟨false,r,by simp only [commaP,e]; exact bd_ok he,rfl,hs2,hf1.trans hf2⟩
theorem integer_ok:POk k 73 [] intP NdR:=by
 refine ⟨fun {X H ts} hs=>?_⟩
 refine pcalls_of_vc (args:=[_]) Tryz.func73 c73ok (Nat.le_of_ble_eq_true rfl) ?_
 simp (implicitDefEqProofs:=false) only [go_sem,c73]
 refine NewP_intro fun H0 hn0 hf0 hs0=>?_
 simp (implicitDefEqProofs:=false) only [go_sem]
 refine (look_ok (hs.ext hf0)).mono ?_
 rintro v H1 ⟨rfl,hf1⟩
 simp (implicitDefEqProofs:=false) only [go_sem,tkC]
 refine NewP_intro fun H2 hn2 hf2 hsz2=>?_
 simp (implicitDefEqProofs:=false) only [go_sem]
 refine Sto_all hn2 rfl (one_agg (t:=[]) rfl) fun H3 hn3 hf3 hs3=>?_
 have hfn:=new_fr hf2 hf3
 have hF:=(hf0.trans hf1).trans hfn
 have hA:=accept_ok (hs.ext hF) [45]
 unfold sv at hA
 have hx0:H.size≠X.b:=by have:=hs.lt; omega
 have hx1:H1.size≠X.b:=by have:=hs.lt; have:=(hf0.trans hf1).size; omega
 have hne:H.size≠H1.size:=by have:=hf1.size; omega
 simp (implicitDefEqProofs:=false) only [go_sem]
 refine hA.mono ?_
 rintro v H4 ⟨rfl,hs4,hf4⟩
 have hn4:=hn3.fr hf4 (by simpa using hx1)
 have hF4:=(fr1 hF).trans hf4
 have hr4:=((hn0.ext hf1).ext hfn).fr hf4 (by simpa using hx0)
 cases e:isB [45] ts with
 | true=>
   rw [e,if_pos rfl] at hs4
   simp (implicitDefEqProofs:=false) only [go_sem]
   refine (take_ok 3 (by decide)).use hs4 (fun e' H' he hf=>⟨e',by simp only [intP,e]; exact bd_err he,rfl,hF4.trans hf⟩) fun t r v H5 he hv hs5 hf5=>?_
   cases hv
   have hn5:=hn4.fr hf5 (by simpa using hx1)
   have hr5:=hr4.fr hf5 (by simpa using hx0)
   simp (implicitDefEqProofs:=false) only [go_sem,tkC]
   refine Sto_one hn5 (by simp) rfl fun H6 hn6 hf6 hs6=>?_
   have hr6:=hr5.fr hf6 (by simpa using hne)
   have hc6:=hn6.cell
   simp (implicitDefEqProofs:=false) only [go_sem,hc6]
   refine Sto_all hr6 rfl (one_agg (t:=[]) rfl) fun H7 hn7 hf7 hs7=>?_
   have hc7:=hn7.cell
   simp (implicitDefEqProofs:=false) only [go_sem,hc7]
   refine ⟨.mk 44 [] (IntKind.i64.wrap (0 - t.n)) (hd ts).at_ [],r,by simp only [intP,e]; exact bd_ok he,⟨_,rfl,RepP.nd zeroKids⟩,Ps.on hs (Ps.on hs hs5 hf6 (by simp; have:=(hf0.trans hf1).size; omega)) hf7 (by simp),?_⟩
   exact ((hF4.trans hf5).trans' hf6 (by simp; have:=(hf0.trans hf1).size; omega)).trans' hf7 (by simp)
 | false=>
   rw [e] at hs4
   simp (implicitDefEqProofs:=false) only [go_sem]
   refine (take_ok 3 (by decide)).use hs4 (fun e' H' he hf=>⟨e',by simp only [intP,e]; exact bd_err he,rfl,hF4.trans hf⟩) fun t r v H5 he hv hs5 hf5=>?_
   cases hv
   have hn5:=hn4.fr hf5 (by simpa using hx1)
   have hr5:=hr4.fr hf5 (by simpa using hx0)
   simp (implicitDefEqProofs:=false) only [go_sem,tkC]
   refine Sto_one hn5 (by simp) rfl fun H6 hn6 hf6 hs6=>?_
   have hr6:=hr5.fr hf6 (by simpa using hne)
   have hc6:=hn6.cell
   simp (implicitDefEqProofs:=false) only [go_sem,hc6]
   refine Sto_all hr6 rfl (one_agg (t:=[]) rfl) fun H7 hn7 hf7 hs7=>?_
   have hc7:=hn7.cell
   simp (implicitDefEqProofs:=false) only [go_sem,hc7]
   refine ⟨.mk 44 [] t.n (hd ts).at_ [],r,by simp only [intP,e]; exact bd_ok he,⟨_,rfl,RepP.nd zeroKids⟩,Ps.on hs (Ps.on hs hs5 hf6 (by simp; have:=(hf0.trans hf1).size; omega)) hf7 (by simp),?_⟩
   exact ((hF4.trans hf5).trans' hf6 (by simp; have:=(hf0.trans hf1).size; omega)).trans' hf7 (by simp)
end
end Go.Proofs.YtmhdkbmnpekpoaaGreatDoor
end
section
set_option linter.unusedSimpArgs false
set_option linter.unusedVariables false
set_option maxRecDepth 8000
namespace Go.Proofs.YtmhdkbmnpekpoaaGreatDoor
open Gx Go
def MapH (H:Heap) (r:Nat) (l:Kd):Prop:=∃ es c,H[r]?=some (.map es c)∧es.toList.map (fun e=>(e.key,e.val))=l.map fun p=>(sv p.1,Value.int .i64 p.2)
theorem MapH.lt {H:Heap} {r:Nat} {l:Kd} (h:MapH H r l):r < H.size:=by
 obtain ⟨es,c,h1,_⟩:=h
 exact (Array.getElem?_eq_some_iff.1 h1).1
theorem MapH.fr {M:List Nat} {H H':Heap} {r:Nat} {l:Kd} (h:MapH H r l) (hf:Fr M H H') (hr:r ∉ M):MapH H' r l:=by
 have hlt:=h.lt
 obtain ⟨es,c,h1,h2⟩:=h
 exact ⟨es,c,by rw [hf.same r hlt hr]; exact h1,h2⟩
theorem MapH.ne {H:Heap} {r b t:Nat} {l:Kd} {cs:List Value} (h:MapH H r l) (hb:Blk H b t cs):r≠b:=by
 obtain ⟨es,c,h1,_⟩:=h
 rintro rfl
 unfold Blk at hb
 rw [h1] at hb
 simp at hb
theorem NewM_intro {H:Heap} {R:Value→Heap→Prop} (h:∀ H',MapH H' H.size []→Fr [] H H'→H'.size=H.size + 1→R (.map (some H.size)) H'):NewM H R:=
 h _ ⟨#[],0,by simp,rfl⟩ (fr_push _ _ _) (by simp)
theorem find_of:∀ {es:List MapEntry} {l:Kd} (s:Bs) (i:Nat),es.map (fun e=>(e.key,e.val))=(l.map fun p=>(sv p.1,Value.int .i64 p.2))→
 (l.lookup s=none∧Instr.findNow .string (sv s) es i=some none)∨∃ n j,l.lookup s=some n∧Instr.findNow .string (sv s) es i=some (some (j,.int .i64 n))
 | [],[],s,i,_=>.inl ⟨rfl,rfl⟩
 | e :: es,p :: l,s,i,h=>by
   simp only [List.map_cons,List.cons.injEq,Prod.mk.injEq] at h
   obtain ⟨⟨h1,h2⟩,h3⟩:=h
   have hs:Instr.sameNow .string (sv s) e.key=some (decide (s=p.1)):=by
    rw [h1]
    obtain ⟨b,hb,hiff⟩:=MapKept.sameNow_of_keys (d:=.string) (a:=sv s) (b:=sv p.1) trivial trivial
    rw [hb]
    congr 1
    unfold sv at hiff
    simp only [Value.string.injEq,ba_eq] at hiff
    cases b <;> simp_all
   by_cases q:s=p.1
   ·refine .inr ⟨p.2,i,?_,?_⟩
    ·obtain ⟨a,b⟩:=p
     simp only at q; subst q
     simp [List.lookup]
    ·simp only [Instr.findNow,hs,decide_eq_true q,h2]
   ·have hl:(p :: l).lookup s=l.lookup s:=by
     obtain ⟨a,b⟩:=p
     simp only at q
     have:(s == a)=false:=by simpa using q
     simp [List.lookup,this]
    rw [hl]
    simp only [Instr.findNow,hs,decide_eq_false q]
    exact find_of s (i + 1) h3
 | [],_ :: _,_,_,h=>by simp at h
 | _ :: _,[],_,_,h=>by simp at h
theorem InsM_intro {H:Heap} {r:Nat} {l:Kd} {s:Bs} {n:Int} {R:Heap→Prop} (h:MapH H r l) (hs:l.lookup s=none) (hR:∀ H',MapH H' r (l ++ [(s,n)])→Fr [r] H H'→H'.size=H.size→R H'):InsM H r ⟨⟨s⟩⟩ (.int .i64 n) R:=by
 have hlt:=h.lt
 obtain ⟨es,c,h1,h2⟩:=h
 rcases find_of s 0 h2 with ⟨_,hf⟩ | ⟨_,_,q,_⟩
 ·refine ⟨es,c,h1,hf,hR _ ⟨es.push ⟨.string ⟨⟨s⟩⟩,.int .i64 n,c⟩,c + 1,by simp [hlt],by simp [h2,sv]⟩ ⟨by simp,fun i hi hn=>?_⟩ (by simp)⟩
  have:r≠i:=by simpa [eq_comm] using hn
  simp [this]
 ·rw [hs] at q; cases q
theorem LkpM_intro {H:Heap} {r:Nat} {l:Kd} {s:Bs} {R:Value→Prop} (h:MapH H r l) (hR:R (.int .i64 (kdOf l s))):LkpM H (.int .i64 0) r ⟨⟨s⟩⟩ R:=by
 obtain ⟨es,c,h1,h2⟩:=h
 refine ⟨es,c,h1,?_⟩
 rcases find_of s 0 h2 with ⟨q,hf⟩ | ⟨n,j,q,hf⟩
 ·exact .inr ⟨hf,by simpa [kdOf,q] using hR⟩
 ·exact .inl ⟨j,_,hf,by simpa [kdOf,q] using hR⟩
theorem RepP.row {H:Heap} {B:Nat→Prop} {b t:Nat} {ks:List Nd} {css:List (List Value)} (hn:Blk H b t css.flatten) (hl:∀ x ∈ css,x.length=5) (hR:RepsP H B (ks.map Nd.dat) css) (hb:¬ B b) (h63:ks.length≤maxLen) :
 RepP H B (kidsD ks) [.slice (some ⟨b,0,none⟩) ks.length ks.length]:=fun M hM=>by
 unfold kidsD
 simp only [Rep]
 refine ⟨_,ks.length,css,by simp,by simp,h63,hR M hM,hl,.inr ⟨b,0,rfl,fun hm=>hb (hM b hm),fun j hj=>?_⟩⟩
 rw [Nat.zero_add,hn.cell,List.getElem?_eq_getElem hj]
theorem RepP.row1 {H:Heap} {B:Nat→Prop} {b t:Nat} {x:Nd} {cx:List Value} (hn:Blk H b t cx) (hx:RepP H B x.dat cx) (hxl:cx.length=5) (hb:¬ B b):RepP H B (kidsD [x]) [.slice (some ⟨b,0,none⟩) 1 1]:=
 RepP.row (ks:=[x]) (css:=[cx]) (by simpa using hn) (by simpa using hxl) (RepsP.nil.cons hx) hb (show 1≤maxLen by decide)
theorem RepP.row2 {H:Heap} {B:Nat→Prop} {b t:Nat} {x y:Nd} {cx cy:List Value} (hn:Blk H b t (cx ++ cy)) (hx:RepP H B x.dat cx) (hy:RepP H B y.dat cy) (hxl:cx.length=5) (hyl:cy.length=5) (hb:¬ B b):RepP H B (kidsD [x,y]) [.slice (some ⟨b,0,none⟩) 2 2]:=
 RepP.row (ks:=[x,y]) (css:=[cx,cy]) (by simpa using hn) (by simp [hxl,hyl]) ((RepsP.nil.cons hy).cons hx) hb (show 2≤maxLen by decide)
theorem RepP.row3 {H:Heap} {B:Nat→Prop} {b t:Nat} {x y z:Nd} {cx cy cz:List Value} (hn:Blk H b t (cx ++ (cy ++ cz))) (hx:RepP H B x.dat cx) (hy:RepP H B y.dat cy) (hz:RepP H B z.dat cz) (hxl:cx.length=5) (hyl:cy.length=5) (hzl:cz.length=5) (hb:¬ B b):RepP H B (kidsD [x,y,z]) [.slice (some ⟨b,0,none⟩) 3 3]:=
 RepP.row (ks:=[x,y,z]) (css:=[cx,cy,cz]) (by simpa using hn) (by simp [hxl,hyl,hzl]) (((RepsP.nil.cons hz).cons hy).cons hx) hb (show 3≤maxLen by decide)
theorem nd_one {H:Heap} {B:Nat→Prop} {v:Value} {ks:List Nd} (h:RepP H B (kidsD ks) [v]):v.oneCell'=true:=by
 obtain ⟨a,c,rfl,_⟩:=RepP.elems h
 rfl
set_option maxHeartbeats 4000000 in
theorem chain_ok {k g:Nat} {op:PP Nd} {kd:Kd} (hg:hasBody Tryz.prog g=true) (hop:POk k g [] op NdR) (hdn:Dn op) {X:Cx} {H:Heap} {ts:List Tk} (hs:Ps X H ts k) {m:Nat} (hm:MapH H m kd) :
 PCalls Tryz.prog 96 #[ptr X.b,.func (.func g) #[ptr X.b] #[],.map (some m)] H (fun v H'=>∃ n r,chainP op kd ts= .ok (n,r)∧NdR n v H H'∧Ps X H' r k∧Fr [X.b] H H') fun ch H'=>∃ e,chainP op kd ts= .error e∧ch=flt e∧Fr [X.b] H H':=by
 refine pcalls_of_vc (args:=[_,_,_]) Tryz.func96 c96ok (Nat.le_of_ble_eq_true rfl) ?_
 obtain ⟨i0,hb0,_⟩:=hs.ex
 have hmb:=hm.ne hb0
 have hmlt:=hm.lt
 have hblt:=hs.lt
 simp (implicitDefEqProofs:=false) only [go_sem,c96]
 refine NewP_intro fun H0 hn0 hf0 hs0=>?_
 simp (implicitDefEqProofs:=false) only [go_sem]
 refine ⟨hg,hop.use (hs.ext hf0) (fun e H' he hf=>⟨e,bd_err he,rfl,(fr1 hf0).trans hf⟩) fun n r v H1 he hv hs1 hf1=>?_⟩
 obtain ⟨cs,rfl,hr1⟩:=hv
 obtain ⟨kk,tt,nn,aa,ks⟩:=n
 obtain ⟨kv,rfl,hkv⟩:=RepP.nd_open hr1
 have hF1:=(fr1 hf0).trans hf1
 simp (implicitDefEqProofs:=false) only [go_sem]
 refine NewP_intro fun H2 hn2 hf2 hsz2=>?_
 simp (implicitDefEqProofs:=false) only [go_sem]
 refine Sto_all hn2 rfl (one_agg (nd_one hkv)) fun H3 hn3 hf3 hsz3=>?_
 have hfn:=new_fr hf2 hf3
 obtain ⟨bn,hbn⟩:∃ bn,bn=H1.size:=⟨_,rfl⟩
 rw [← hbn] at hn3 ⊢
 have hsz1:=hf1.size
 have hx0:H.size≠X.b:=by omega
 have hr3:=(hn0.fr hf1 (by simpa using hx0)).ext hfn
 simp (implicitDefEqProofs:=false) only [go_sem]
 refine vc_loop (fun (s:Nd × List Tk × Value) H'=>∃ f,s.2.1.length≤f∧chainP op kd ts=chainF op kd f s.1 s.2.1∧Ps X H' s.2.1 k∧Fr [X.b] H H'∧H3.size≤H'.size∧Blk H' H.size 24 [.int .i64 0,sv [],.int .i64 0,.int .i64 0,.slice none 0 0]∧
  ∃ kk tt nn aa ks,s.1= .mk kk tt nn aa ks∧Blk H' bn 24 [.int .i64 kk,sv tt,.int .i64 nn,.int .i64 aa,s.2.2]∧RepP H' (fun x=>x < H0.size∨x=bn) (kidsD ks) [s.2.2])
  (fun s=>[(0,ptr X.b),(1,.func (.func g) #[ptr X.b] #[]),(2,.map (some m)),(6,.pointer (some ⟨H.size,0,none⟩)),(7,.pointer (some ⟨bn,0,none⟩))]) (fun s=>s.2.1.length) (.mk kk tt nn aa ks,r,kv) ?_ ?_ ?_
 ·refine ⟨r.length,Nat.le_refl _,by unfold chainP; rw [bd_ok he],hs1.ext hfn,hF1.trans (fr1 hfn),Nat.le_refl _,hr3,kk,tt,nn,aa,ks,rfl,hn3,?_⟩
  exact hkv.ext hfn fun x hx=>by omega
 ·simp (implicitDefEqProofs:=false) only [go_sem]
 ·rintro ⟨n,cur,kv⟩ H4 ⟨f,hf,hch,hs4,hF4,hz4,hr4,kk,tt,nn,aa,ks,rfl,hb4,hk4⟩
  simp only at hf hch hs4 hF4 hb4 hk4 ⊢
  have hsz3':=hf3.size
  have hcur:=List.length_pos_iff.2 hs4.nil
  obtain ⟨f,rfl⟩:∃ f',f=f' + 1:=⟨f - 1,by omega⟩
  simp (implicitDefEqProofs:=false) only [go_sem]
  refine (look_ok hs4).mono ?_
  rintro v H5 ⟨rfl,hf5⟩
  simp (implicitDefEqProofs:=false) only [go_sem,tkC]
  refine NewP_intro fun H6 hn6 hf6 hsz6=>?_
  simp (implicitDefEqProofs:=false) only [go_sem]
  refine Sto_all hn6 rfl (one4' (hd cur)) fun H7 hn7 hf7 hsz7=>?_
  have hc7:=hn7.cell
  have hfn7:=hf5.trans (new_fr hf6 hf7)
  have hs7:=hs4.ext hfn7
  have hm7:=hm.fr (hF4.trans (fr1 hfn7)) (by simpa using hmb)
  simp (implicitDefEqProofs:=false) only [go_sem,hc7,sv]
  refine LkpM_intro hm7 ?_
  have hb7:=hb4.ext hfn7
  have hr7:=hr4.ext hfn7
  have hk7:=hk4.ext hfn7 (B':=fun x=>x < H0.size∨x=bn) fun x hx=>.inl hx
  have hF7:=hF4.trans (fr1 hfn7)
  by_cases hz:kdOf kd (hd cur).text=0
  ·have hcb:=hb7.cell
   simp (implicitDefEqProofs:=false) only [go_sem,hz,hcb]
   refine Sto_all hr7 rfl (one_agg (nd_one hk7)) fun H8 hn8 hf8 hsz8=>?_
   have hc8:=hn8.cell
   simp (implicitDefEqProofs:=false) only [go_sem,hc8]
   refine ⟨.mk kk tt nn aa ks,cur,by rw [hch]; simp [chainF,opAt,hz],⟨_,rfl,?_⟩,Ps.on hs hs7 hf8 (by simp),hF7.trans' hf8 (by simp)⟩
   exact RepP.nd (RepP.fr hk7 hf8 (by simp; omega) fun x hx=>by omega)
  ·have hA:=accept_ok hs7 (hd cur).text
   unfold sv at hA
   simp (implicitDefEqProofs:=false) only [go_sem,hz,hc7,sv]
   refine hA.mono ?_
   rintro v H8 ⟨rfl,hs8,hf8⟩
   have hbx:bn≠X.b:=by omega
   have h5x:H5.size≠X.b:=by have:=hf5.size; omega
   have hb8:=hb7.fr hf8 (by simpa using hbx)
   have hr8:=hr7.fr hf8 (by simpa using hx0)
   have hn8:=hn7.fr hf8 (by simpa using h5x)
   have hk8:=RepP.fr hk7 hf8 (B':=fun x=>x < H0.size∨x=bn) (by simp; omega) fun x hx=>.inl hx
   have hF8:=hF7.trans hf8
   have hcb:=hb8.cell
   cases e:isB (hd cur).text cur with
   | false=>
     rw [e] at hs8
     simp (implicitDefEqProofs:=false) only [go_sem,hcb]
     refine Sto_all hr8 rfl (one_agg (nd_one hk8)) fun H9 hn9 hf9 hsz9=>?_
     have hc9:=hn9.cell
     simp (implicitDefEqProofs:=false) only [go_sem,hc9]
     refine ⟨.mk kk tt nn aa ks,cur,by rw [hch]; simp [chainF,opAt,e],⟨_,rfl,?_⟩,Ps.on hs hs8 hf9 (by simp),hF8.trans' hf9 (by simp)⟩
     exact RepP.nd (RepP.fr hk8 hf9 (by simp; omega) fun x hx=>by omega)
   | true=>
     rw [e,if_pos rfl] at hs8
     have hop':opAt kd cur=true:=by simp [opAt,e,hz]
     have hcn:=hn8.cell
     simp (implicitDefEqProofs:=false) only [go_sem,hcb,hcn]
     have hcF:chainF op kd (f + 1) (.mk kk tt nn aa ks) cur=bd op (fun m=>chainF op kd f (.mk (kdOf kd (hd cur).text) [] 0 (hd cur).at_ [.mk kk tt nn aa ks,m])) cur.tail:=by simp only [chainF,hop',if_true]
     refine ⟨hg,hop.use hs8 (fun e' H' he' hf'=>⟨e',by rw [hch,hcF]; exact bd_err he',rfl,hF8.trans hf'⟩) fun n' r' v H9 he' hv' hs9 hf9=>?_⟩
     obtain ⟨cs',rfl,hr9'⟩:=hv'
     obtain ⟨k',t',n',a',ks'⟩:=n'
     obtain ⟨kv',rfl,hkv'⟩:=RepP.nd_open hr9'
     have hb9:=hb8.fr hf9 (by simpa using hbx)
     have hr9:=hr8.fr hf9 (by simpa using hx0)
     have hn9:=hn8.fr hf9 (by simpa using h5x)
     have hk9:=RepP.fr hk8 hf9 (B':=fun x=>x < H0.size∨x=bn) (by simp; omega) fun x hx=>.inl hx
     have hF9:=hF8.trans hf9
     have hcb9:=hb9.cell
     have hcn9:=hn9.cell
     have hz7:=hfn7.size
     have hz8:=hf8.size
     have hz9:=hf9.size
     simp (implicitDefEqProofs:=false) only [go_sem,hcb9,hcn9]
     refine NewS_intro fun H10 hn10 hf10 hsz10=>?_
     have hrow:RepP H10 (fun x=>x < H0.size∨x=bn) (kidsD [.mk kk tt nn aa ks,.mk k' t' n' a' ks']) [.slice (some ⟨H9.size,0,none⟩) 2 2]:=by
      refine RepP.row2 (cx:=[_,_,_,_,_]) (cy:=[_,_,_,_,_]) hn10 (RepP.nd (RepP.ext hk9 hf10 fun x hx=>.inl hx)) (RepP.ext hr9' hf10 fun x hx=>.inl ?_) rfl rfl (by omega)
      omega
     have hcn10:=(hn9.ext hf10).cell
     simp (implicitDefEqProofs:=false) only [go_sem,hcn10]
     refine Sto_all (hb9.ext hf10) rfl (one_agg (t:=[]) rfl) fun H11 hn11 hf11 hsz11=>?_
     simp (implicitDefEqProofs:=false) only [go_sem]
     have hle:r'.length≤f:=by
      have h1:=hdn.of he'
      have h2:cur.tail.length=cur.length - 1:=by simp
      omega
     refine loopK_intro (.mk (kdOf kd (hd cur).text) [] 0 (hd cur).at_ [.mk kk tt nn aa ks,.mk k' t' n' a' ks'],r',.slice (some ⟨H9.size,0,none⟩) 2 2) ?_ ?_ ?_
     ·show r'.length < cur.length
      have h1:=hdn.of he'
      have h2:cur.tail.length=cur.length - 1:=by simp
      omega
     ·simp (implicitDefEqProofs:=false) only [go_sem]
     ·refine ⟨f,hle,by rw [hch,hcF]; exact bd_ok he',Ps.on hs (hs9.ext hf10) hf11 (by simp; omega),(hF9.trans (fr1 hf10)).trans' hf11 (by simp; omega),by have:=hf10.size; omega,(hr9.ext hf10).fr hf11 (by simp; omega),_,_,_,_,_,rfl,hn11,?_⟩
      exact RepP.fr hrow hf11 (by simp) fun x hx=>.inl hx
end Go.Proofs.YtmhdkbmnpekpoaaGreatDoor
end
section
set_option linter.unusedSimpArgs false
set_option linter.unusedVariables false
set_option maxRecDepth 8000
namespace Go.Proofs.YtmhdkbmnpekpoaaGreatDoor
open Gx Go
theorem sum_ok {k:Nat} {lo:Lo} (hl:LoDn lo) (hop:POk k 156 [] (postP lo) NdR):POk k 148 [] (sumP lo) NdR:=by
 refine ⟨fun {X H ts} hs=>?_⟩
 refine pcalls_of_vc (args:=[_]) Tryz.func148 c148ok (Nat.le_of_ble_eq_true rfl) ?_
 simp (implicitDefEqProofs:=false) only [go_sem,c148]
 refine NewP_intro fun H0 hn0 hf0 hs0=>?_
 simp (implicitDefEqProofs:=false) only [go_sem]
 refine NewM_intro fun H1 hm1 hf1 hs1=>?_
 simp (implicitDefEqProofs:=false) only [go_sem]
 refine InsM_intro hm1 rfl fun H2 hm2 hg2 hs2=>?_
 simp (implicitDefEqProofs:=false) only [go_sem]
 refine InsM_intro hm2 rfl fun H3 hm3 hg3 hs3=>?_
 simp (implicitDefEqProofs:=false) only [go_sem]
 have hfA1:=hf0.trans hf1
 have hfA2:Fr [] H H2:=hfA1.trans' hg2 (by simp; omega)
 have hfA3:Fr [] H H3:=hfA2.trans' hg3 (by simp; omega)
 have hx0:H.size≠X.b:=by have:=hs.lt; omega
 have hb1:=hn0.ext hf1
 have hb2:=hb1.fr hg2 (by simp; omega)
 have hb3:=hb2.fr hg3 (by simp; omega)
 refine PCalls.mono (chain_ok (kd:=kSum) (by kernel_rfl) hop (postP_dn hl) (hs.ext hfA3) hm3) ?_ ?_
 rotate_left
 ·rintro ch H9 ⟨e,he,rfl,hf9⟩
  exact ⟨e,he,rfl,(fr1 hfA3).trans hf9⟩
 rintro v H9 ⟨⟨k',t',n',a',ks'⟩,r,he,⟨cs,rfl,hr⟩,hs9,hf9⟩
 obtain ⟨kv,rfl,hkv⟩:=RepP.nd_open hr
 have hb9:=hb3.fr hf9 (by simpa using hx0)
 simp (implicitDefEqProofs:=false) only [go_sem]
 refine Sto_all hb9 rfl (one_agg (nd_one hkv)) fun H10 hn10 hf10 hs10=>?_
 have hc10:=hn10.cell
 simp (implicitDefEqProofs:=false) only [go_sem,hc10]
 refine ⟨_,r,he,⟨_,rfl,RepP.nd ?_⟩,Ps.on hs hs9 hf10 (by simp),((fr1 hfA3).trans hf9).trans' hf10 (by simp)⟩
 have:=hfA3.size
 have:=(hf1.size)
 exact RepP.fr hkv hf10 (by simp; omega) fun x hx=>by omega
theorem joined_ok {k:Nat} {lo:Lo} (hl:LoDn lo) (hop:POk k 148 [] (sumP lo) NdR):POk k 137 [] (joinP lo) NdR:=by
 refine ⟨fun {X H ts} hs=>?_⟩
 refine pcalls_of_vc (args:=[_]) Tryz.func137 c137ok (Nat.le_of_ble_eq_true rfl) ?_
 simp (implicitDefEqProofs:=false) only [go_sem,c137]
 refine NewP_intro fun H0 hn0 hf0 hs0=>?_
 simp (implicitDefEqProofs:=false) only [go_sem]
 refine NewM_intro fun H1 hm1 hf1 hs1=>?_
 simp (implicitDefEqProofs:=false) only [go_sem]
 refine InsM_intro hm1 rfl fun H2 hm2 hg2 hs2=>?_
 simp (implicitDefEqProofs:=false) only [go_sem]
 have hfA1:=hf0.trans hf1
 have hfA2:Fr [] H H2:=hfA1.trans' hg2 (by simp; omega)
 have hx0:H.size≠X.b:=by have:=hs.lt; omega
 have hb1:=hn0.ext hf1
 have hb2:=hb1.fr hg2 (by simp; omega)
 refine PCalls.mono (chain_ok (kd:=kJoin) (by kernel_rfl) hop (sumP_dn hl) (hs.ext hfA2) hm2) ?_ ?_
 rotate_left
 ·rintro ch H9 ⟨e,he,rfl,hf9⟩
  exact ⟨e,he,rfl,(fr1 hfA2).trans hf9⟩
 rintro v H9 ⟨⟨k',t',n',a',ks'⟩,r,he,⟨cs,rfl,hr⟩,hs9,hf9⟩
 obtain ⟨kv,rfl,hkv⟩:=RepP.nd_open hr
 have hb9:=hb2.fr hf9 (by simpa using hx0)
 simp (implicitDefEqProofs:=false) only [go_sem]
 refine Sto_all hb9 rfl (one_agg (nd_one hkv)) fun H10 hn10 hf10 hs10=>?_
 have hc10:=hn10.cell
 simp (implicitDefEqProofs:=false) only [go_sem,hc10]
 refine ⟨_,r,he,⟨_,rfl,RepP.nd ?_⟩,Ps.on hs hs9 hf10 (by simp),((fr1 hfA2).trans hf9).trans' hf10 (by simp)⟩
 have:=hfA2.size
 have:=(hf1.size)
 exact RepP.fr hkv hf10 (by simp; omega) fun x hx=>by omega
theorem and_ok {k:Nat} {lo:Lo} (hl:LoDn lo) (hop:POk k 115 [] (notP lo) NdR):POk k 97 [] (andP lo) NdR:=by
 refine ⟨fun {X H ts} hs=>?_⟩
 refine pcalls_of_vc (args:=[_]) Tryz.func97 c97ok (Nat.le_of_ble_eq_true rfl) ?_
 simp (implicitDefEqProofs:=false) only [go_sem,c97]
 refine NewP_intro fun H0 hn0 hf0 hs0=>?_
 simp (implicitDefEqProofs:=false) only [go_sem]
 refine NewM_intro fun H1 hm1 hf1 hs1=>?_
 simp (implicitDefEqProofs:=false) only [go_sem]
 refine InsM_intro hm1 rfl fun H2 hm2 hg2 hs2=>?_
 simp (implicitDefEqProofs:=false) only [go_sem]
 have hfA1:=hf0.trans hf1
 have hfA2:Fr [] H H2:=hfA1.trans' hg2 (by simp; omega)
 have hx0:H.size≠X.b:=by have:=hs.lt; omega
 have hb1:=hn0.ext hf1
 have hb2:=hb1.fr hg2 (by simp; omega)
 refine PCalls.mono (chain_ok (kd:=kAnd) (by kernel_rfl) hop (notP_dn hl) (hs.ext hfA2) hm2) ?_ ?_
 rotate_left
 ·rintro ch H9 ⟨e,he,rfl,hf9⟩
  exact ⟨e,he,rfl,(fr1 hfA2).trans hf9⟩
 rintro v H9 ⟨⟨k',t',n',a',ks'⟩,r,he,⟨cs,rfl,hr⟩,hs9,hf9⟩
 obtain ⟨kv,rfl,hkv⟩:=RepP.nd_open hr
 have hb9:=hb2.fr hf9 (by simpa using hx0)
 simp (implicitDefEqProofs:=false) only [go_sem]
 refine Sto_all hb9 rfl (one_agg (nd_one hkv)) fun H10 hn10 hf10 hs10=>?_
 have hc10:=hn10.cell
 simp (implicitDefEqProofs:=false) only [go_sem,hc10]
 refine ⟨_,r,he,⟨_,rfl,RepP.nd ?_⟩,Ps.on hs hs9 hf10 (by simp),((fr1 hfA2).trans hf9).trans' hf10 (by simp)⟩
 have:=hfA2.size
 have:=(hf1.size)
 exact RepP.fr hkv hf10 (by simp; omega) fun x hx=>by omega
theorem or_ok {k:Nat} {lo:Lo} (hl:LoDn lo) (hop:POk k 97 [] (andP lo) NdR):POk k 55 [] (orP lo) NdR:=by
 refine ⟨fun {X H ts} hs=>?_⟩
 refine pcalls_of_vc (args:=[_]) Tryz.func55 c55ok (Nat.le_of_ble_eq_true rfl) ?_
 simp (implicitDefEqProofs:=false) only [go_sem,c55]
 refine NewP_intro fun H0 hn0 hf0 hs0=>?_
 simp (implicitDefEqProofs:=false) only [go_sem]
 refine NewM_intro fun H1 hm1 hf1 hs1=>?_
 simp (implicitDefEqProofs:=false) only [go_sem]
 refine InsM_intro hm1 rfl fun H2 hm2 hg2 hs2=>?_
 simp (implicitDefEqProofs:=false) only [go_sem]
 have hfA1:=hf0.trans hf1
 have hfA2:Fr [] H H2:=hfA1.trans' hg2 (by simp; omega)
 have hx0:H.size≠X.b:=by have:=hs.lt; omega
 have hb1:=hn0.ext hf1
 have hb2:=hb1.fr hg2 (by simp; omega)
 refine PCalls.mono (chain_ok (kd:=kOr) (by kernel_rfl) hop (andP_dn hl) (hs.ext hfA2) hm2) ?_ ?_
 rotate_left
 ·rintro ch H9 ⟨e,he,rfl,hf9⟩
  exact ⟨e,he,rfl,(fr1 hfA2).trans hf9⟩
 rintro v H9 ⟨⟨k',t',n',a',ks'⟩,r,he,⟨cs,rfl,hr⟩,hs9,hf9⟩
 obtain ⟨kv,rfl,hkv⟩:=RepP.nd_open hr
 have hb9:=hb2.fr hf9 (by simpa using hx0)
 simp (implicitDefEqProofs:=false) only [go_sem]
 refine Sto_all hb9 rfl (one_agg (nd_one hkv)) fun H10 hn10 hf10 hs10=>?_
 have hc10:=hn10.cell
 simp (implicitDefEqProofs:=false) only [go_sem,hc10]
 refine ⟨_,r,he,⟨_,rfl,RepP.nd ?_⟩,Ps.on hs hs9 hf10 (by simp),((fr1 hfA2).trans hf9).trans' hf10 (by simp)⟩
 have:=hfA2.size
 have:=(hf1.size)
 exact RepP.fr hkv hf10 (by simp; omega) fun x hx=>by omega
end Go.Proofs.YtmhdkbmnpekpoaaGreatDoor
end
section
set_option linter.unusedSimpArgs false
set_option linter.unusedVariables false
set_option maxRecDepth 8000
namespace Go.Proofs.YtmhdkbmnpekpoaaGreatDoor
open Gx Go
theorem entP_0 {α β:Type} {s:Bs} {body:β→PP α} {ts:List Tk} (h:isB s ts=true):entP none s body ts= .error (6,(hd ts).at_):=by simp only [entP,h,if_true]
theorem entP_s {α β:Type} {s:Bs} {x:β} {body:β→PP α} {ts:List Tk} (h:isB s ts=true):entP (some x) s body ts=body x ts.tail:=by simp only [entP,h,if_true]
theorem entP_no {α β:Type} {lo:Option β} {s:Bs} {body:β→PP α} {ts:List Tk} (h:isB s ts=false):entP lo s body ts= .error (2,(hd ts).at_):=by simp only [entP,h,Bool.false_eq_true,if_false]
set_option maxHeartbeats 1000000 in
theorem not_ok {k:Nat} (hnot:∀ j,k=j + 1→POk j 115 [] (lev j).2 NdR) (hcmp:POk k 130 [] (cmpP (loK k)) NdR):POk k 115 [] (notP (loK k)) NdR:=by
 refine ⟨fun {X H ts} hs=>?_⟩
 refine pcalls_of_vc (args:=[_]) Tryz.func115 c115ok (Nat.le_of_ble_eq_true rfl) ?_
 have hx0:H.size≠X.b:=by have:=hs.lt; omega
 simp (implicitDefEqProofs:=false) only [go_sem,c115]
 refine NewP_intro fun H0 hn0 hf0 hs0=>?_
 have hA:=is_ok (hs.ext hf0) [110,111,116]
 unfold sv at hA
 simp (implicitDefEqProofs:=false) only [go_sem]
 refine hA.mono ?_
 rintro v H1 ⟨rfl,hf1⟩
 have hF1:=hf0.trans hf1
 have hs1:=hs.ext hF1
 have hr1:=hn0.ext hf1
 cases e:isB [110,111,116] ts with
 | false=>
   have hp:notP (loK k) ts=cmpP (loK k) ts:=by simp only [notP,e,Bool.false_eq_true,if_false]
   simp (implicitDefEqProofs:=false) only [go_sem]
   refine hcmp.use hs1 (fun e' H' he hf=>⟨e',by rw [hp]; exact he,rfl,(fr1 hF1).trans hf⟩) fun n r v H2 he hv hs2 hf2=>?_
   obtain ⟨cs,rfl,hr⟩:=hv
   obtain ⟨k',t',n',a',ks'⟩:=n
   obtain ⟨kv,rfl,hkv⟩:=RepP.nd_open hr
   have hr2:=hr1.fr hf2 (by simpa using hx0)
   have:=hf1.size
   simp (implicitDefEqProofs:=false) only [go_sem]
   refine Sto_all hr2 rfl (one_agg (nd_one hkv)) fun H3 hn3 hf3 hs3=>?_
   have hc3:=hn3.cell
   simp (implicitDefEqProofs:=false) only [go_sem,hc3]
   exact ⟨_,r,by rw [hp]; exact he,⟨_,rfl,RepP.nd (RepP.fr hkv hf3 (by simp; omega) fun x hx=>by omega)⟩,Ps.on hs hs2 hf3 (by simp),((fr1 hF1).trans hf2).trans' hf3 (by simp)⟩
 | true=>
   have hp:notP (loK k) ts=entP (loK k) [110,111,116] (fun x=>bd x.2 fun n=>ret (.mk 33 [] 0 (hd ts).at_ [n])) ts:=by simp only [notP,e,if_true]
   cases k with
   | zero=>
     have hE:=enter_no hs1 (s:=[110,111,116]) (.inr rfl)
     unfold sv at hE
     simp (implicitDefEqProofs:=false) only [go_sem]
     refine hE.mono (fun _ _ h=>h.elim) ?_
     rintro ch H2 ⟨rfl,hf2⟩
     rw [e]
     exact ⟨(6,(hd ts).at_),by rw [hp]; exact entP_0 e,rfl,(fr1 hF1).trans hf2⟩
   | succ j=>
     have hE:=enter_ok hs1 e
     unfold sv at hE
     have hj:=hs.k64
     simp (implicitDefEqProofs:=false) only [go_sem]
     refine hE.mono ?_
     rintro v H2 ⟨rfl,hs2,hf2⟩
     have hF2:=(fr1 hF1).trans hf2
     have hr2:=hr1.fr hf2 (by simpa using hx0)
     simp (implicitDefEqProofs:=false) only [go_sem]
     refine NewP_intro fun H3 hn3 hf3 hsz3=>?_
     simp (implicitDefEqProofs:=false) only [go_sem]
     refine Sto_all hn3 rfl (one_agg (t:=[]) rfl) fun H4 hn4 hf4 hsz4=>?_
     have hfn:=new_fr hf3 hf4
     have hz2:=hF2.size
     have hz4:=hfn.size
     have hx2:H2.size≠X.b:=by have:=hs2.lt; omega
     simp (implicitDefEqProofs:=false) only [go_sem]
     refine (hnot j rfl).use (hs2.ext hfn) (fun e' H' he hf=>⟨e',by rw [hp]; exact (entP_s e).trans (bd_err he),rfl,(hF2.trans (fr1 hfn)).trans hf⟩) fun n r v H5 he hv hs5 hf5=>?_
     obtain ⟨cs,rfl,hr⟩:=hv
     have hF5:=(hF2.trans (fr1 hfn)).trans hf5
     have hr5:=((hr2.ext hfn).fr hf5 (by simpa using hx0))
     have hn5:=hn4.fr hf5 (by simpa using hx2)
     obtain ⟨k',t',n',a',ks'⟩:=n
     obtain ⟨kv,rfl,hkv⟩:=RepP.nd_open hr
     have hz5:=hf5.size
     simp (implicitDefEqProofs:=false) only [go_sem]
     refine NewS_intro fun H6 hn6 hf6 hsz6=>?_
     have hrow:RepP H6 (fun x=>x < H.size∨x=H.size∨x=H2.size) (kidsD [.mk k' t' n' a' ks']) [.slice (some ⟨H5.size,0,none⟩) 1 1]:=
      RepP.row1 (cx:=[_,_,_,_,_]) hn6 (RepP.ext hr hf6 fun x hx=>.inl (by omega)) rfl (by omega)
     simp (implicitDefEqProofs:=false) only [go_sem]
     refine Sto_one (hn5.ext hf6) (by simp) rfl fun H7 hn7 hf7 hsz7=>?_
     have hrow7:=RepP.fr hrow hf7 (B':=fun x=>x < H.size∨x=H.size∨x=H2.size) (by simp) fun x hx=>.inl hx
     have hz1:=hf1.size
     have hz2b:=hf2.size
     have hz6:=hf6.size
     have hs7:=Ps.on hs (hs5.ext hf6) hf7 (by simp; omega)
     have hF7:Fr [X.b] H H7:=(hF5.trans (fr1 hf6)).trans' hf7 (by simp; omega)
     have hr7:=(hr5.ext hf6).fr hf7 (by simp; omega)
     simp (implicitDefEqProofs:=false) only [go_sem]
     refine (leave_ok hs7 (by omega)).mono ?_
     rintro v H8 ⟨hs8,hf8⟩
     have hn8:=hn7.fr hf8 (by simpa using hx2)
     have hr8:=hr7.fr hf8 (by simpa using hx0)
     have hc8:=hn8.cell
     have hrow8:=RepP.fr hrow7 hf8 (B':=fun x=>x < H.size∨x=H.size) (by simp; have:=hs.lt; omega) fun x hx=>.inl (by omega)
     simp (implicitDefEqProofs:=false) only [go_sem,hc8]
     refine Sto_all hr8 rfl (one_agg (t:=[]) rfl) fun H9 hn9 hf9 hsz9=>?_
     have hc9:=hn9.cell
     simp (implicitDefEqProofs:=false) only [go_sem,hc9]
     refine ⟨.mk 33 [] 0 (hd ts).at_ [.mk k' t' n' a' ks'],r,by rw [hp]; exact (entP_s e).trans (bd_ok he),⟨_,rfl,RepP.nd (RepP.fr hrow8 hf9 (by simp) fun x hx=>by omega)⟩,Ps.on hs hs8 hf9 (by simp),(hF7.trans hf8).trans' hf9 (by simp)⟩
set_option maxHeartbeats 2000000 in
theorem comparison_ok {k:Nat} {lo:Lo} (hl:LoDn lo) (hj:POk k 137 [] (joinP lo) NdR):POk k 130 [] (cmpP lo) NdR:=by
 refine ⟨fun {X H ts} hs=>?_⟩
 refine pcalls_of_vc (args:=[_]) Tryz.func130 c130ok (Nat.le_of_ble_eq_true rfl) ?_
 have hx0:H.size≠X.b:=by have:=hs.lt; omega
 have hblt:=hs.lt
 simp (implicitDefEqProofs:=false) only [go_sem,c130]
 refine NewP_intro fun H0 hn0 hf0 hs0=>?_
 simp (implicitDefEqProofs:=false) only [go_sem]
 refine hj.use (hs.ext hf0) (fun e H' he hf=>⟨e,bd_err he,rfl,(fr1 hf0).trans hf⟩) fun n r v H1 he hv hs1 hf1=>?_
 obtain ⟨cs,rfl,hr1⟩:=hv
 obtain ⟨kk,tt,nn,aa,ks⟩:=n
 obtain ⟨kv,rfl,hkv⟩:=RepP.nd_open hr1
 have hF1:=(fr1 hf0).trans hf1
 have hz1:=hf1.size
 simp (implicitDefEqProofs:=false) only [go_sem]
 refine NewP_intro fun H2 hn2 hf2 hsz2=>?_
 simp (implicitDefEqProofs:=false) only [go_sem]
 refine Sto_all hn2 rfl (one_agg (nd_one hkv)) fun H3 hn3 hf3 hsz3=>?_
 have hfn:=new_fr hf2 hf3
 obtain ⟨bn,hbn⟩:∃ bn,bn=H1.size:=⟨_,rfl⟩
 rw [← hbn] at hn3 ⊢
 have hr3:=(hn0.fr hf1 (by simpa using hx0)).ext hfn
 have hz3:=hfn.size
 simp (implicitDefEqProofs:=false) only [go_sem]
 refine NewM_intro fun M1 hm1 hg1 hw1=>?_
 simp (implicitDefEqProofs:=false) only [go_sem]
 refine InsM_intro hm1 rfl fun M2 hm2 hg2 hw2=>?_
 simp (implicitDefEqProofs:=false) only [go_sem]
 refine InsM_intro hm2 rfl fun M3 hm3 hg3 hw3=>?_
 simp (implicitDefEqProofs:=false) only [go_sem]
 refine InsM_intro hm3 rfl fun M4 hm4 hg4 hw4=>?_
 simp (implicitDefEqProofs:=false) only [go_sem]
 refine InsM_intro hm4 rfl fun M5 hm5 hg5 hw5=>?_
 simp (implicitDefEqProofs:=false) only [go_sem]
 refine InsM_intro hm5 rfl fun H4 hm6 hg6 hw6=>?_
 have hg:Fr [] H3 H4:=((((hg1.trans' hg2 (by simp)).trans' hg3 (by simp)).trans' hg4 (by simp)).trans' hg5 (by simp)).trans' hg6 (by simp)
 have hs4:=(hs1.ext hfn).ext hg
 have hn4:=hn3.ext hg
 have hr4:=hr3.ext hg
 have hk4:RepP H4 (fun x=>x < H0.size∨x=bn) (kidsD ks) [kv]:=RepP.ext (RepP.ext hkv hfn (B':=fun x=>x < H0.size∨x=bn) fun x hx=>by omega) hg fun x hx=>.inl hx
 have hF4:Fr [X.b] H H4:=(hF1.trans (fr1 hfn)).trans (fr1 hg)
 have hz4:=hg.size
 obtain ⟨cur,hcur⟩:∃ cur,cur=r:=⟨_,rfl⟩
 subst hcur
 have hcm:cmpP lo ts=if opAt kCmp cur then bd (joinP lo) (fun m=>ret (.mk (kdOf kCmp (hd cur).text) [] 0 (hd cur).at_ [.mk kk tt nn aa ks,m])) cur.tail else .ok (.mk kk tt nn aa ks,cur):=by unfold cmpP; rw [bd_ok he]
 simp (implicitDefEqProofs:=false) only [go_sem]
 refine (look_ok hs4).mono ?_
 rintro v H5 ⟨rfl,hf5⟩
 simp (implicitDefEqProofs:=false) only [go_sem,tkC]
 refine NewP_intro fun H6 hn6 hf6 hsz6=>?_
 simp (implicitDefEqProofs:=false) only [go_sem]
 refine Sto_all hn6 rfl (one4' (hd cur)) fun H7 hn7 hf7 hsz7=>?_
 have hc7:=hn7.cell
 have hfn7:=hf5.trans (new_fr hf6 hf7)
 have hs7:=hs4.ext hfn7
 have hm7:MapH H7 H3.size kCmp:=hm6.fr hfn7 (by simp)
 simp (implicitDefEqProofs:=false) only [go_sem,hc7,sv]
 refine LkpM_intro hm7 ?_
 have hb7:=hn4.ext hfn7
 have hr7:=hr4.ext hfn7
 have hk7:=RepP.ext hk4 hfn7 (B':=fun x=>x < H0.size∨x=bn) fun x hx=>.inl hx
 have hF7:=hF4.trans (fr1 hfn7)
 have hz7:=hfn7.size
 have hz5:=hf5.size
 by_cases hz:kdOf kCmp (hd cur).text=0
 ·have hcb:=hb7.cell
  simp (implicitDefEqProofs:=false) only [go_sem,hz,hcb]
  refine Sto_all hr7 rfl (one_agg (nd_one hk7)) fun H8 hn8 hf8 hsz8=>?_
  have hc8:=hn8.cell
  simp (implicitDefEqProofs:=false) only [go_sem,hc8]
  refine ⟨.mk kk tt nn aa ks,cur,by rw [hcm]; simp [opAt,hz],⟨_,rfl,?_⟩,Ps.on hs hs7 hf8 (by simp),hF7.trans' hf8 (by simp)⟩
  exact RepP.nd (RepP.fr hk7 hf8 (by simp; omega) fun x hx=>by omega)
 ·have hA:=accept_ok hs7 (hd cur).text
  unfold sv at hA
  simp (implicitDefEqProofs:=false) only [go_sem,hz,hc7,sv]
  refine hA.mono ?_
  rintro v H8 ⟨rfl,hs8,hf8⟩
  have hbx:bn≠X.b:=by omega
  have h5x:H5.size≠X.b:=by omega
  have hb8:=hb7.fr hf8 (by simpa using hbx)
  have hr8:=hr7.fr hf8 (by simpa using hx0)
  have hn8:=hn7.fr hf8 (by simpa using h5x)
  have hk8:=RepP.fr hk7 hf8 (B':=fun x=>x < H0.size∨x=bn) (by simp; omega) fun x hx=>.inl hx
  have hF8:=hF7.trans hf8
  have hcb:=hb8.cell
  have hz8:=hf8.size
  cases e:isB (hd cur).text cur with
  | false=>
    rw [e] at hs8
    simp (implicitDefEqProofs:=false) only [go_sem,hcb]
    refine Sto_all hr8 rfl (one_agg (nd_one hk8)) fun H9 hn9 hf9 hsz9=>?_
    have hc9:=hn9.cell
    simp (implicitDefEqProofs:=false) only [go_sem,hc9]
    refine ⟨.mk kk tt nn aa ks,cur,by rw [hcm]; simp [opAt,e],⟨_,rfl,?_⟩,Ps.on hs hs8 hf9 (by simp),hF8.trans' hf9 (by simp)⟩
    exact RepP.nd (RepP.fr hk8 hf9 (by simp; omega) fun x hx=>by omega)
  | true=>
    rw [e,if_pos rfl] at hs8
    have hop':opAt kCmp cur=true:=by simp [opAt,e,hz]
    rw [hop',if_pos rfl] at hcm
    have hcn:=hn8.cell
    simp (implicitDefEqProofs:=false) only [go_sem,hcb,hcn]
    refine hj.use hs8 (fun e' H' he' hf'=>⟨e',by rw [hcm]; exact bd_err he',rfl,hF8.trans hf'⟩) fun n' r' v H9 he' hv' hs9 hf9=>?_
    obtain ⟨cs',rfl,hr9'⟩:=hv'
    obtain ⟨k',t',n',a',ks'⟩:=n'
    obtain ⟨kv',rfl,hkv'⟩:=RepP.nd_open hr9'
    have hb9:=hb8.fr hf9 (by simpa using hbx)
    have hr9:=hr8.fr hf9 (by simpa using hx0)
    have hn9:=hn8.fr hf9 (by simpa using h5x)
    have hk9:=RepP.fr hk8 hf9 (B':=fun x=>x < H0.size∨x=bn) (by simp; omega) fun x hx=>.inl hx
    have hF9:=hF8.trans hf9
    have hcb9:=hb9.cell
    have hcn9:=hn9.cell
    have hz9:=hf9.size
    simp (implicitDefEqProofs:=false) only [go_sem,hcb9,hcn9]
    refine NewS_intro fun H10 hn10 hf10 hsz10=>?_
    have hrow:RepP H10 (fun x=>x < H0.size∨x=bn) (kidsD [.mk kk tt nn aa ks,.mk k' t' n' a' ks']) [.slice (some ⟨H9.size,0,none⟩) 2 2]:=by
     refine RepP.row2 (cx:=[_,_,_,_,_]) (cy:=[_,_,_,_,_]) hn10 (RepP.nd (RepP.ext hk9 hf10 fun x hx=>.inl hx)) (RepP.ext hr9' hf10 fun x hx=>.inl ?_) rfl rfl (by omega)
     omega
    have hcn10:=(hn9.ext hf10).cell
    simp (implicitDefEqProofs:=false) only [go_sem,hcn10]
    refine Sto_all (hr9.ext hf10) rfl (one_agg (t:=[]) rfl) fun H11 hn11 hf11 hsz11=>?_
    have hc11:=hn11.cell
    simp (implicitDefEqProofs:=false) only [go_sem,hc11]
    refine ⟨.mk (kdOf kCmp (hd cur).text) [] 0 (hd cur).at_ [.mk kk tt nn aa ks,.mk k' t' n' a' ks'],r',by rw [hcm]; exact bd_ok he',⟨_,rfl,RepP.nd ?_⟩,Ps.on hs (hs9.ext hf10) hf11 (by simp),(hF9.trans (fr1 hf10)).trans' hf11 (by simp)⟩
    exact RepP.fr hrow hf11 (by simp; omega) fun x hx=>by omega
set_option maxHeartbeats 2000000 in
theorem expression_ok {k:Nat} (hex:∀ j,k=j + 1→POk j 28 [] (lev j).1 NdR) (hor:POk k 55 [] (orP (loK k)) NdR):POk k 28 [] (exprP (loK k)) NdR:=by
 refine ⟨fun {X H ts} hs=>?_⟩
 refine pcalls_of_vc (args:=[_]) Tryz.func28 c28ok (Nat.le_of_ble_eq_true rfl) ?_
 have hx0:H.size≠X.b:=by have:=hs.lt; omega
 have hblt:=hs.lt
 simp (implicitDefEqProofs:=false) only [go_sem,c28]
 refine NewP_intro fun H0 hn0 hf0 hs0=>?_
 have hA:=is_ok (hs.ext hf0) [105,102]
 unfold sv at hA
 simp (implicitDefEqProofs:=false) only [go_sem]
 refine hA.mono ?_
 rintro v H1 ⟨rfl,hf1⟩
 have hF1:=hf0.trans hf1
 have hs1:=hs.ext hF1
 have hr1:=hn0.ext hf1
 have hz1:=hf1.size
 cases e:isB [105,102] ts with
 | false=>
   have hp:exprP (loK k) ts=orP (loK k) ts:=by simp only [exprP,e,Bool.false_eq_true,if_false]
   simp (implicitDefEqProofs:=false) only [go_sem]
   refine hor.use hs1 (fun e' H' he hf=>⟨e',by rw [hp]; exact he,rfl,(fr1 hF1).trans hf⟩) fun n r v H2 he hv hs2 hf2=>?_
   obtain ⟨cs,rfl,hr⟩:=hv
   obtain ⟨k',t',n',a',ks'⟩:=n
   obtain ⟨kv,rfl,hkv⟩:=RepP.nd_open hr
   have hr2:=hr1.fr hf2 (by simpa using hx0)
   simp (implicitDefEqProofs:=false) only [go_sem]
   refine Sto_all hr2 rfl (one_agg (nd_one hkv)) fun H3 hn3 hf3 hs3=>?_
   have hc3:=hn3.cell
   simp (implicitDefEqProofs:=false) only [go_sem,hc3]
   exact ⟨_,r,by rw [hp]; exact he,⟨_,rfl,RepP.nd (RepP.fr hkv hf3 (by simp; omega) fun x hx=>by omega)⟩,Ps.on hs hs2 hf3 (by simp),((fr1 hF1).trans hf2).trans' hf3 (by simp)⟩
 | true=>
   have hp:exprP (loK k) ts=entP (loK k) [105,102] (fun x=>bd x.1 fun a=>bd (expP [116,104,101,110]) fun _=>bd x.1 fun b=>bd (expP [101,108,115,101]) fun _=>bd x.1 fun c=>ret (.mk 30 [] 0 (hd ts).at_ [a,b,c])) ts:=by simp only [exprP,e,if_true]
   cases k with
   | zero=>
     have hE:=enter_no hs1 (s:=[105,102]) (.inr rfl)
     unfold sv at hE
     simp (implicitDefEqProofs:=false) only [go_sem]
     refine hE.mono (fun _ _ h=>h.elim) ?_
     rintro ch H2 ⟨rfl,hf2⟩
     rw [e]
     exact ⟨(6,(hd ts).at_),by rw [hp]; exact entP_0 e,rfl,(fr1 hF1).trans hf2⟩
   | succ j=>
     have hE:=enter_ok hs1 e
     unfold sv at hE
     have hj:=hs.k64
     have hx:=hex j rfl
     have hps:exprP (loK (j + 1)) ts=_:=hp.trans (entP_s e)
     simp (implicitDefEqProofs:=false) only [go_sem]
     refine hE.mono ?_
     rintro v H2 ⟨rfl,hs2,hf2⟩
     have hF2:=(fr1 hF1).trans hf2
     have hr2:=hr1.fr hf2 (by simpa using hx0)
     have hz2:=hf2.size
     simp (implicitDefEqProofs:=false) only [go_sem]
     refine NewP_intro fun H3 hn3 hf3 hsz3=>?_
     simp (implicitDefEqProofs:=false) only [go_sem]
     refine Sto_all hn3 rfl (one_agg (t:=[]) rfl) fun H4 hn4 hf4 hsz4=>?_
     have hfn:=new_fr hf3 hf4
     have hz4:=hfn.size
     have hx2:H2.size≠X.b:=by omega
     have hF4:=hF2.trans (fr1 hfn)
     simp (implicitDefEqProofs:=false) only [go_sem]
     refine hx.use (hs2.ext hfn) (fun e' H' he hf=>⟨e',by rw [hps]; exact bd_err he,rfl,hF4.trans hf⟩) fun n1 r1 v H5 he1 hv hs5 hf5=>?_
     rw [bd_ok he1] at hps
     obtain ⟨cs,rfl,hra⟩:=hv
     have hF5:=hF4.trans hf5
     have hr5:=((hr2.ext hfn).fr hf5 (by simpa using hx0))
     have hn5:=hn4.fr hf5 (by simpa using hx2)
     obtain ⟨k1,t1,n1,a1,ks1⟩:=n1
     obtain ⟨kv1,rfl,hkv1⟩:=RepP.nd_open hra
     have hz5:=hf5.size
     simp (implicitDefEqProofs:=false) only [go_sem]
     refine NewP_intro fun H6 hn6 hf6 hsz6=>?_
     simp (implicitDefEqProofs:=false) only [go_sem]
     refine Sto_all hn6 rfl (one_agg (nd_one hkv1)) fun H7 hn7 hf7 hsz7=>?_
     have hfn7:=new_fr hf6 hf7
     have hz7:=hfn7.size
     have hx5:H5.size≠X.b:=by omega
     simp (implicitDefEqProofs:=false) only [go_sem]
     refine (expect_ok [116,104,101,110]).use (hs5.ext hfn7) (fun e' H' he hf=>⟨e',by rw [hps]; exact bd_err he,rfl,(hF5.trans (fr1 hfn7)).trans hf⟩) fun _ r2 v H8 he2 hv hs8 hf8=>?_
     rw [bd_ok he2] at hps
     have hF8:=(hF5.trans (fr1 hfn7)).trans hf8
     have hz8:=hf8.size
     simp (implicitDefEqProofs:=false) only [go_sem]
     refine hx.use hs8 (fun e' H' he hf=>⟨e',by rw [hps]; exact bd_err he,rfl,hF8.trans hf⟩) fun n2 r3 v H9 he3 hv hs9 hf9=>?_
     rw [bd_ok he3] at hps
     obtain ⟨cs,rfl,hrb⟩:=hv
     have hF9:=hF8.trans hf9
     obtain ⟨k2,t2,n2,a2,ks2⟩:=n2
     obtain ⟨kv2,rfl,hkv2⟩:=RepP.nd_open hrb
     have hz9:=hf9.size
     simp (implicitDefEqProofs:=false) only [go_sem]
     refine NewP_intro fun H10 hn10 hf10 hsz10=>?_
     simp (implicitDefEqProofs:=false) only [go_sem]
     refine Sto_all hn10 rfl (one_agg (nd_one hkv2)) fun H11 hn11 hf11 hsz11=>?_
     have hfn11:=new_fr hf10 hf11
     have hz11:=hfn11.size
     have hx9:H9.size≠X.b:=by omega
     simp (implicitDefEqProofs:=false) only [go_sem]
     refine (expect_ok [101,108,115,101]).use (hs9.ext hfn11) (fun e' H' he hf=>⟨e',by rw [hps]; exact bd_err he,rfl,(hF9.trans (fr1 hfn11)).trans hf⟩) fun _ r4 v H12 he4 hv hs12 hf12=>?_
     rw [bd_ok he4] at hps
     have hF12:=(hF9.trans (fr1 hfn11)).trans hf12
     have hz12:=hf12.size
     have hA12:=((((hn7.fr hf8 (by simpa using hx5)).fr hf9 (by simpa using hx5)).ext hfn11).fr hf12 (by simpa using hx5))
     have hB12:=hn11.fr hf12 (by simpa using hx9)
     have cA:=hA12.cell
     have cB:=hB12.cell
     simp (implicitDefEqProofs:=false) only [go_sem,cA,cB]
     refine hx.use hs12 (fun e' H' he hf=>⟨e',by rw [hps]; exact bd_err he,rfl,hF12.trans hf⟩) fun n3 r5 v H13 he5 hv hs13 hf13=>?_
     rw [bd_ok he5] at hps
     obtain ⟨cs,rfl,hrc⟩:=hv
     have hF13:=hF12.trans hf13
     obtain ⟨k3,t3,n3,a3,ks3⟩:=n3
     obtain ⟨kv3,rfl,hkv3⟩:=RepP.nd_open hrc
     have hz13:=hf13.size
     have cA13:=(hA12.fr hf13 (by simpa using hx5)).cell
     have cB13:=(hB12.fr hf13 (by simpa using hx9)).cell
     have toX:∀ {A B:Heap},Fr [X.b] A B→∀ x ∈ [X.b],x < H.size∨x=H.size∨x=H2.size:=fun _ x hx=>by simp at hx; omega
     have gA:RepP H13 (fun x=>x < H.size∨x=H.size∨x=H2.size) (Nd.dat (.mk k1 t1 n1 a1 ks1)) [.int .i64 k1,sv t1,.int .i64 n1,.int .i64 a1,kv1]:=by
      have q7:=RepP.ext hra hfn7 (B':=fun x=>x < H.size∨x=H.size∨x=H2.size) fun x hx=>.inl (by omega)
      have q8:=RepP.fr q7 hf8 (B':=fun x=>x < H.size∨x=H.size∨x=H2.size) (fun x hx=>.inl (toX hf8 x hx)) fun x hx=>.inl hx
      have q9:=RepP.fr q8 hf9 (B':=fun x=>x < H.size∨x=H.size∨x=H2.size) (fun x hx=>.inl (toX hf8 x hx)) fun x hx=>.inl hx
      have q11:=RepP.ext q9 hfn11 (B':=fun x=>x < H.size∨x=H.size∨x=H2.size) fun x hx=>.inl hx
      have q12:=RepP.fr q11 hf12 (B':=fun x=>x < H.size∨x=H.size∨x=H2.size) (fun x hx=>.inl (toX hf8 x hx)) fun x hx=>.inl hx
      exact RepP.fr q12 hf13 (fun x hx=>.inl (toX hf8 x hx)) fun x hx=>.inl hx
     have gB:RepP H13 (fun x=>x < H.size∨x=H.size∨x=H2.size) (Nd.dat (.mk k2 t2 n2 a2 ks2)) [.int .i64 k2,sv t2,.int .i64 n2,.int .i64 a2,kv2]:=by
      have q11:=RepP.ext hrb hfn11 (B':=fun x=>x < H.size∨x=H.size∨x=H2.size) fun x hx=>.inl (by omega)
      have q12:=RepP.fr q11 hf12 (B':=fun x=>x < H.size∨x=H.size∨x=H2.size) (fun x hx=>.inl (toX hf8 x hx)) fun x hx=>.inl hx
      exact RepP.fr q12 hf13 (fun x hx=>.inl (toX hf8 x hx)) fun x hx=>.inl hx
     simp (implicitDefEqProofs:=false) only [go_sem,cA13,cB13]
     refine NewS_intro fun H14 hn14 hf14 hsz14=>?_
     have hrow:RepP H14 (fun x=>x < H.size∨x=H.size∨x=H2.size) (kidsD [.mk k1 t1 n1 a1 ks1,.mk k2 t2 n2 a2 ks2,.mk k3 t3 n3 a3 ks3]) [.slice (some ⟨H13.size,0,none⟩) 3 3]:=by
      refine RepP.row3 (cx:=[_,_,_,_,_]) (cy:=[_,_,_,_,_]) (cz:=[_,_,_,_,_]) hn14 (RepP.ext gA hf14 fun x hx=>.inl hx) (RepP.ext gB hf14 fun x hx=>.inl hx) (RepP.ext hrc hf14 fun x hx=>.inl (by omega)) rfl rfl rfl (by omega)
     have hn14':=(((((hn5.ext hfn7).fr hf8 (by simpa using hx2)).fr hf9 (by simpa using hx2)).ext hfn11).fr hf12 (by simpa using hx2)).fr hf13 (by simpa using hx2)
     have hr14:=(((((hr5.ext hfn7).fr hf8 (by simpa using hx0)).fr hf9 (by simpa using hx0)).ext hfn11).fr hf12 (by simpa using hx0)).fr hf13 (by simpa using hx0)
     simp (implicitDefEqProofs:=false) only [go_sem]
     refine Sto_one (hn14'.ext hf14) (by simp) rfl fun H15 hn15 hf15 hsz15=>?_
     have hrow15:=RepP.fr hrow hf15 (B':=fun x=>x < H.size∨x=H.size∨x=H2.size) (by simp) fun x hx=>.inl hx
     have hs15:=Ps.on hs (hs13.ext hf14) hf15 (by simp; omega)
     have hF15:Fr [X.b] H H15:=(hF13.trans (fr1 hf14)).trans' hf15 (by simp; omega)
     have hr15:=(hr14.ext hf14).fr hf15 (by simp; omega)
     simp (implicitDefEqProofs:=false) only [go_sem]
     refine (leave_ok hs15 (by omega)).mono ?_
     rintro v H16 ⟨hs16,hf16⟩
     have hn16:=hn15.fr hf16 (by simpa using hx2)
     have hr16:=hr15.fr hf16 (by simpa using hx0)
     have hc16:=hn16.cell
     have hrow16:=RepP.fr hrow15 hf16 (B':=fun x=>x < H.size∨x=H.size) (by simp; omega) fun x hx=>.inl (by omega)
     simp (implicitDefEqProofs:=false) only [go_sem,hc16]
     refine Sto_all hr16 rfl (one_agg (t:=[]) rfl) fun H17 hn17 hf17 hsz17=>?_
     have hc17:=hn17.cell
     simp (implicitDefEqProofs:=false) only [go_sem,hc17]
     refine ⟨.mk 30 [] 0 (hd ts).at_ [.mk k1 t1 n1 a1 ks1,.mk k2 t2 n2 a2 ks2,.mk k3 t3 n3 a3 ks3],r5,by rw [hps]; rfl,⟨_,rfl,RepP.nd (RepP.fr hrow16 hf17 (by simp) fun x hx=>by omega)⟩,Ps.on hs hs16 hf17 (by simp),(hF15.trans hf16).trans' hf17 (by simp)⟩
end Go.Proofs.YtmhdkbmnpekpoaaGreatDoor
end
section
set_option linter.unusedSimpArgs false
set_option linter.unusedVariables false
set_option maxRecDepth 8000
namespace Go.Proofs.YtmhdkbmnpekpoaaGreatDoor
open Gx Go
set_option maxHeartbeats 4000000 in
theorem postfix_ok {k:Nat} (hex:∀ j,k=j + 1→POk j 28 [] (lev j).1 NdR) (hprim:POk k 158 [] (primP (loK k)) NdR):POk k 156 [] (postP (loK k)) NdR:=by
 refine ⟨fun {X H ts} hs=>?_⟩
 refine pcalls_of_vc (args:=[_]) Tryz.func156 c156ok (Nat.le_of_ble_eq_true rfl) ?_
 have hblt:=hs.lt
 have hx0:H.size≠X.b:=by omega
 simp (implicitDefEqProofs:=false) only [go_sem,c156]
 refine NewP_intro fun H0 hn0 hf0 hs0=>?_
 simp (implicitDefEqProofs:=false) only [go_sem]
 refine hprim.use (hs.ext hf0) (fun e H' he hf=>⟨e,bd_err he,rfl,(fr1 hf0).trans hf⟩) fun n r v H1 he hv hs1 hf1=>?_
 obtain ⟨cs,rfl,hr1⟩:=hv
 obtain ⟨kk,tt,nn,aa,ks⟩:=n
 obtain ⟨kv,rfl,hkv⟩:=RepP.nd_open hr1
 have hF1:=(fr1 hf0).trans hf1
 simp (implicitDefEqProofs:=false) only [go_sem]
 refine NewP_intro fun H2 hn2 hf2 hsz2=>?_
 simp (implicitDefEqProofs:=false) only [go_sem]
 refine Sto_all hn2 rfl (one_agg (nd_one hkv)) fun H3 hn3 hf3 hsz3=>?_
 have hfn:=new_fr hf2 hf3
 obtain ⟨bn,hbn⟩:∃ bn,bn=H1.size:=⟨_,rfl⟩
 rw [← hbn] at hn3 ⊢
 have hsz1:=hf1.size
 have hr3:=(hn0.fr hf1 (by simpa using hx0)).ext hfn
 simp (implicitDefEqProofs:=false) only [go_sem]
 refine vc_loop (fun (s:Nd × List Tk × Value) H'=>∃ f,s.2.1.length≤f∧postP (loK k) ts=postF (loK k) f s.1 s.2.1∧Ps X H' s.2.1 k∧Fr [X.b] H H'∧H3.size≤H'.size∧Blk H' H.size 24 [.int .i64 0,sv [],.int .i64 0,.int .i64 0,.slice none 0 0]∧
  ∃ kk tt nn aa ks,s.1= .mk kk tt nn aa ks∧Blk H' bn 24 [.int .i64 kk,sv tt,.int .i64 nn,.int .i64 aa,s.2.2]∧RepP H' (fun x=>x < H0.size∨x=bn) (kidsD ks) [s.2.2])
  (fun s=>[(0,ptr X.b),(2,.pointer (some ⟨H.size,0,none⟩)),(3,.pointer (some ⟨bn,0,none⟩))]) (fun s=>s.2.1.length) (.mk kk tt nn aa ks,r,kv) ?_ ?_ ?_
 ·refine ⟨r.length,Nat.le_refl _,by unfold postP; rw [bd_ok he],hs1.ext hfn,hF1.trans (fr1 hfn),Nat.le_refl _,hr3,kk,tt,nn,aa,ks,rfl,hn3,?_⟩
  exact hkv.ext hfn fun x hx=>by omega
 ·simp (implicitDefEqProofs:=false) only [go_sem]
 ·rintro ⟨n,cur,kv⟩ H4 ⟨f,hf,hch,hs4,hF4,hz4,hr4,kk,tt,nn,aa,ks,rfl,hb4,hk4⟩
  simp only at hf hch hs4 hF4 hb4 hk4 ⊢
  have hsz3':=hf3.size
  have hcur:=List.length_pos_iff.2 hs4.nil
  have hct:cur.tail.length=cur.length - 1:=by simp
  obtain ⟨f,rfl⟩:∃ f',f=f' + 1:=⟨f - 1,by omega⟩
  have hbx:bn≠X.b:=by omega
  simp (implicitDefEqProofs:=false) only [go_sem]
  refine (look_ok hs4).mono ?_
  rintro v H5 ⟨rfl,hf5⟩
  have hA:=accept_ok (hs4.ext hf5) [46]
  unfold sv at hA
  simp (implicitDefEqProofs:=false) only [go_sem,tkC]
  refine hA.mono ?_
  rintro v H6 ⟨rfl,hs6,hf6⟩
  have hb6:=(hb4.ext hf5).fr hf6 (by simpa using hbx)
  have hr6:=(hr4.ext hf5).fr hf6 (by simpa using hx0)
  have hz5:=hf5.size
  have hz6:=hf6.size
  have hk6:=RepP.fr (RepP.ext hk4 hf5 (B':=fun x=>x < H0.size∨x=bn) fun x hx=>.inl hx) hf6 (B':=fun x=>x < H0.size∨x=bn) (by simp; omega) fun x hx=>.inl hx
  have hF6:=(hF4.trans (fr1 hf5)).trans hf6
  have hcb:=hb6.cell
  cases e:isB [46] cur with
  | true=>
    rw [e,if_pos rfl] at hs6
    have hst:postF (loK k) (f + 1) (.mk kk tt nn aa ks) cur=bd (takeP 1) (fun t=>postF (loK k) f (.mk 42 t.text 0 (hd cur).at_ [.mk kk tt nn aa ks])) cur.tail:=by simp only [postF,e,if_true]
    simp (implicitDefEqProofs:=false) only [go_sem,hcb]
    refine ⟨?_,?_⟩
    ·refine (take_ok 1 (by decide)).use hs6 (fun e' H' he' hf'=>⟨e',by rw [hch,hst]; exact bd_err he',rfl,hF6.trans hf'⟩) fun t r' v H7 he' hv hs7 hf7=>?_
     cases hv
     have hb7:=hb6.fr hf7 (by simpa using hbx)
     have hr7:=hr6.fr hf7 (by simpa using hx0)
     have hz7:=hf7.size
     have hk7:=RepP.fr hk6 hf7 (B':=fun x=>x < H0.size∨x=bn) (by simp; omega) fun x hx=>.inl hx
     have hcb7:=hb7.cell
     simp (implicitDefEqProofs:=false) only [go_sem,tkC,hcb7]
     refine NewS_intro fun H8 hn8 hf8 hsz8=>?_
     have hrow:RepP H8 (fun x=>x < H0.size∨x=bn) (kidsD [.mk kk tt nn aa ks]) [.slice (some ⟨H7.size,0,none⟩) 1 1]:=
      RepP.row1 (cx:=[_,_,_,_,_]) hn8 (RepP.nd (RepP.ext hk7 hf8 fun x hx=>.inl hx)) rfl (by omega)
     simp (implicitDefEqProofs:=false) only [go_sem,sv]
     refine Sto_all (hb7.ext hf8) rfl (one_agg rfl) fun H9 hn9 hf9 hsz9=>?_
     simp (implicitDefEqProofs:=false) only [go_sem]
     have hle:=(takeP_dn 1).of he'
     refine loopK_intro (.mk 42 t.text 0 (hd cur).at_ [.mk kk tt nn aa ks],r',.slice (some ⟨H7.size,0,none⟩) 1 1) ?_ ?_ ?_
     ·show r'.length < cur.length
      omega
     ·simp (implicitDefEqProofs:=false) only [go_sem]
     ·refine ⟨f,show r'.length≤f by omega,by rw [hch,hst]; exact bd_ok he',Ps.on hs (hs7.ext hf8) hf9 (by simp; omega),((hF6.trans hf7).trans (fr1 hf8)).trans' hf9 (by simp; omega),by omega,(hr7.ext hf8).fr hf9 (by simp; omega),_,_,_,_,_,rfl,hn9,?_⟩
      exact RepP.fr hrow hf9 (by simp) fun x hx=>.inl hx
    ·refine NewS_intro fun H8 hn8 hf8 hsz8=>?_
     have hrow:RepP H8 (fun x=>x < H0.size∨x=bn) (kidsD [.mk kk tt nn aa ks]) [.slice (some ⟨H6.size,0,none⟩) 1 1]:=
      RepP.row1 (cx:=[_,_,_,_,_]) hn8 (RepP.nd (RepP.ext hk6 hf8 fun x hx=>.inl hx)) rfl (by omega)
     have hb8:=hb6.ext hf8
     have hcb8:=hb8.cell
     simp (implicitDefEqProofs:=false) only [go_sem,hcb8]
     refine (take_ok 1 (by decide)).use (hs6.ext hf8) (fun e' H' he' hf'=>⟨e',by rw [hch,hst]; exact bd_err he',rfl,(hF6.trans (fr1 hf8)).trans hf'⟩) fun t r' v H7 he' hv hs7 hf7=>?_
     cases hv
     have hb7:=hb8.fr hf7 (by simpa using hbx)
     have hr7:=(hr6.ext hf8).fr hf7 (by simpa using hx0)
     have hz7:=hf7.size
     have hrow7:=RepP.fr hrow hf7 (B':=fun x=>x < H0.size∨x=bn) (by simp; omega) fun x hx=>.inl hx
     have hcb7:=hb7.cell
     simp (implicitDefEqProofs:=false) only [go_sem,tkC,hcb7,sv]
     refine Sto_all hb7 rfl (one_agg rfl) fun H9 hn9 hf9 hsz9=>?_
     simp (implicitDefEqProofs:=false) only [go_sem]
     have hle:=(takeP_dn 1).of he'
     refine loopK_intro (.mk 42 t.text 0 (hd cur).at_ [.mk kk tt nn aa ks],r',.slice (some ⟨H6.size,0,none⟩) 1 1) ?_ ?_ ?_
     ·show r'.length < cur.length
      omega
     ·simp (implicitDefEqProofs:=false) only [go_sem]
     ·refine ⟨f,show r'.length≤f by omega,by rw [hch,hst]; exact bd_ok he',Ps.on hs hs7 hf9 (by simp; omega),((hF6.trans (fr1 hf8)).trans hf7).trans' hf9 (by simp; omega),by omega,hr7.fr hf9 (by simp; omega),_,_,_,_,_,rfl,hn9,?_⟩
      exact RepP.fr hrow7 hf9 (by simp) fun x hx=>.inl hx
  | false=>
    rw [e,if_neg (by decide)] at hs6
    have hI:=is_ok hs6 [91]
    unfold sv at hI
    simp (implicitDefEqProofs:=false) only [go_sem]
    refine hI.mono ?_
    rintro v H7 ⟨rfl,hf7⟩
    have hb7:=hb6.ext hf7
    have hr7:=hr6.ext hf7
    have hk7:=RepP.ext hk6 hf7 (B':=fun x=>x < H0.size∨x=bn) fun x hx=>.inl hx
    have hs7:=hs6.ext hf7
    have hF7:=hF6.trans (fr1 hf7)
    have hz7:=hf7.size
    have hcb7:=hb7.cell
    cases e2:isB [91] cur with
    | false=>
      simp (implicitDefEqProofs:=false) only [go_sem,hcb7]
      refine Sto_all hr7 rfl (one_agg (nd_one hk7)) fun H9 hn9 hf9 hsz9=>?_
      have hc9:=hn9.cell
      simp (implicitDefEqProofs:=false) only [go_sem,hc9]
      refine ⟨.mk kk tt nn aa ks,cur,by rw [hch]; simp [postF,e,e2],⟨_,rfl,?_⟩,Ps.on hs hs7 hf9 (by simp),hF7.trans' hf9 (by simp)⟩
      exact RepP.nd (RepP.fr hk7 hf9 (by simp; omega) fun x hx=>by omega)
    | true=>
      have hst:postF (loK k) (f + 1) (.mk kk tt nn aa ks) cur=entP (loK k) [91] (fun x=>bd x.1 fun m=>bd (expP [93]) fun _=>postF (loK k) f (.mk 43 [] 0 (hd cur).at_ [.mk kk tt nn aa ks,m])) cur:=by simp only [postF,e,e2,if_true,Bool.false_eq_true,if_false]
      cases k with
      | zero=>
        have hE:=enter_no hs7 (s:=[91]) (.inr rfl)
        unfold sv at hE
        simp (implicitDefEqProofs:=false) only [go_sem]
        refine hE.mono (fun _ _ h=>h.elim) ?_
        rintro ch H8 ⟨rfl,hf8⟩
        rw [e2]
        exact ⟨(6,(hd cur).at_),by rw [hch,hst]; exact entP_0 e2,rfl,hF7.trans hf8⟩
      | succ j=>
        have hE:=enter_ok hs7 e2
        unfold sv at hE
        have hj:=hs.k64
        have hps:=(hch.trans hst).trans (entP_s (x:=lev j) e2)
        simp (implicitDefEqProofs:=false) only [go_sem]
        refine hE.mono ?_
        rintro v H8 ⟨rfl,hs8,hf8⟩
        have hb8:=hb7.fr hf8 (by simpa using hbx)
        have hr8:=hr7.fr hf8 (by simpa using hx0)
        have hz8:=hf8.size
        have hk8:=RepP.fr hk7 hf8 (B':=fun x=>x < H0.size∨x=bn) (by simp; omega) fun x hx=>.inl hx
        have hF8:=hF7.trans hf8
        have hcb8:=hb8.cell
        simp (implicitDefEqProofs:=false) only [go_sem,hcb8]
        refine (hex j rfl).use hs8 (fun e' H' he' hf'=>⟨e',by rw [hps]; exact bd_err he',rfl,hF8.trans hf'⟩) fun n' r' v H9 he' hv' hs9 hf9=>?_
        rw [bd_ok he'] at hps
        obtain ⟨cs',rfl,hr9'⟩:=hv'
        obtain ⟨k',t',n',a',ks'⟩:=n'
        obtain ⟨kv',rfl,hkv'⟩:=RepP.nd_open hr9'
        have hb9:=hb8.fr hf9 (by simpa using hbx)
        have hr9:=hr8.fr hf9 (by simpa using hx0)
        have hz9:=hf9.size
        have hk9:=RepP.fr hk8 hf9 (B':=fun x=>x < H0.size∨x=bn) (by simp; omega) fun x hx=>.inl hx
        have hF9:=hF8.trans hf9
        have hcb9:=hb9.cell
        simp (implicitDefEqProofs:=false) only [go_sem,hcb9]
        refine NewS_intro fun H10 hn10 hf10 hsz10=>?_
        have hrow:RepP H10 (fun x=>x < H0.size∨x=bn) (kidsD [.mk kk tt nn aa ks,.mk k' t' n' a' ks']) [.slice (some ⟨H9.size,0,none⟩) 2 2]:=by
         refine RepP.row2 (cx:=[_,_,_,_,_]) (cy:=[_,_,_,_,_]) hn10 (RepP.nd (RepP.ext hk9 hf10 fun x hx=>.inl hx)) (RepP.ext hr9' hf10 fun x hx=>.inl ?_) rfl rfl (by omega)
         omega
        simp (implicitDefEqProofs:=false) only [go_sem]
        refine Sto_all (hb9.ext hf10) rfl (one_agg (t:=[]) rfl) fun H11 hn11 hf11 hsz11=>?_
        have hrow11:=RepP.fr hrow hf11 (B':=fun x=>x < H0.size∨x=bn) (by simp) fun x hx=>.inl hx
        have hs11:=Ps.on hs (hs9.ext hf10) hf11 (by simp; omega)
        have hF11:Fr [X.b] H H11:=(hF9.trans (fr1 hf10)).trans' hf11 (by simp; omega)
        have hr11:=(hr9.ext hf10).fr hf11 (by simp; omega)
        simp (implicitDefEqProofs:=false) only [go_sem]
        refine (expect_ok [93]).use hs11 (fun e' H' he hf=>⟨e',by rw [hps]; exact bd_err he,rfl,hF11.trans hf⟩) fun _ r2 v H12 he2 hv hs12 hf12=>?_
        rw [bd_ok he2] at hps
        have hz12:=hf12.size
        simp (implicitDefEqProofs:=false) only [go_sem]
        refine (leave_ok hs12 (by omega)).mono ?_
        rintro v H13 ⟨hs13,hf13⟩
        have hz13:=hf13.size
        simp (implicitDefEqProofs:=false) only [go_sem]
        have hle:=(lev_dn j).1.of he'
        have hle2:=(expP_dn _).of he2
        have hrow12:=RepP.fr hrow11 hf12 (B':=fun x=>x < H0.size∨x=bn) (by simp; omega) fun x hx=>.inl hx
        refine loopK_intro (.mk 43 [] 0 (hd cur).at_ [.mk kk tt nn aa ks,.mk k' t' n' a' ks'],r2,.slice (some ⟨H9.size,0,none⟩) 2 2) ?_ ?_ ?_
        ·show r2.length < cur.length
         omega
        ·simp (implicitDefEqProofs:=false) only [go_sem]
        ·refine ⟨f,show r2.length≤f by omega,hps,hs13,(hF11.trans hf12).trans hf13,by omega,(hr11.fr hf12 (by simpa using hx0)).fr hf13 (by simpa using hx0),_,_,_,_,_,rfl,(hn11.fr hf12 (by simpa using hbx)).fr hf13 (by simpa using hbx),?_⟩
         exact RepP.fr hrow12 hf13 (by simp; omega) fun x hx=>.inl hx
end Go.Proofs.YtmhdkbmnpekpoaaGreatDoor
end
section
set_option linter.unusedSimpArgs false
set_option linter.unusedVariables false
namespace Gx
open Go
inductive Ent where
 | blk (b t:Nat) (cs:List Value)
 | row (e m:Nat) (v:Value) (ds:List Dat) (g:Option Nat)
def Ent.bs:Ent→List Nat
 | .blk b _ _=>[b]
 | .row _ _ _ _ g=>g.toList
def Lk (N:Nat) (O:List Nat) (l:List Ent):Nat→Prop:=fun x=>x < N∨x ∈ O∨x ∈ l.flatMap Ent.bs
def Ent.ok (H:Heap) (B:Nat→Prop):Ent→Prop
 | .blk b t cs=>Blk H b t cs
 | .row e m v ds g=>LsO H B e m v ds g
structure Lv (O0:List Nat) (H0:Heap) (O:List Nat) (S:Heap→Prop) (H:Heap) (l:List Ent) (ds:List (Dat × List Value)):Prop where
 fr:Fr O0 H0 H
 own:∀ x ∈ O,x < H.size∧(x ∈ O0∨H0.size≤x)
 nd:(l.flatMap Ent.bs).Nodup
 lo:∀ x ∈ l.flatMap Ent.bs,H0.size≤x∧x ∉ O∧x < H.size
 ok:∀ p ∈ l,p.ok H (Lk H0.size O l)
 dat:∀ p ∈ ds,RepP H (Lk H0.size O l) p.1 p.2
 stb:∀ (M:List Nat) (H':Heap),Fr M H H'→(∀ x ∈ M,H0.size≤x∧x ∉ O)→S H'
section
variable {O0 O O' M:List Nat} {b t e m:Nat} {v:Value} {cs:List Value} {dl:List Dat} {g:Option Nat} {S S':Heap→Prop} {H0 H H':Heap} {l l':List Ent} {ds:List (Dat × List Value)}
theorem Lv.st (L:Lv O0 H0 O S H l ds):S H:=L.stb [] H (Fr.refl _ _) (by simp)
theorem Lv.start (hO:∀ x ∈ O,x < H.size) (hS:∀ (M:List Nat) (H':Heap),Fr M H H'→(∀ x ∈ M,H.size≤x∧x ∉ O)→S H'):Lv O H O S H [] []:=
 ⟨Fr.refl _ _,fun x hx=>⟨hO x hx,.inl hx⟩,by simp,by simp,by simp,by simp,hS⟩
theorem Ent.ok_step {e:Ent} {B B':Nat→Prop} (h:e.ok H B) (hf:Fr M H H') (hm:∀ x ∈ M,B x∨H.size≤x) (hg:∀ x ∈ e.bs,x ∉ M) (hb:∀ x,B' x→B x∨H.size≤x):e.ok H' B':=by
 cases e with
 | blk b t cs=>exact Blk.fr h hf (hg b (by simp [Ent.bs]))
 | row e m v ds g=>exact LsO.fr h hf hm (fun b hb=>hg b (by simp [Ent.bs,hb])) hb
theorem Ent.lt {e:Ent} {B:Nat→Prop} (h:e.ok H B):∀ x ∈ e.bs,x < H.size:=by
 cases e with
 | blk b t cs=>intro x hx; simp [Ent.bs] at hx; subst hx; exact Blk.lt h
 | row e m v ds g=>intro x hx; simp [Ent.bs] at hx; exact LsO.lt h hx
theorem Lv.step (L:Lv O0 H0 O S H l ds) (hf:Fr M H H') (hM:∀ x ∈ M,x ∈ O∨H.size≤x) (hO:∀ x ∈ O',x < H'.size∧(x ∈ O∨H.size≤x))
 (hS:∀ (M:List Nat) (H'':Heap),Fr M H' H''→(∀ x ∈ M,H0.size≤x∧x ∉ O')→S' H''):Lv O0 H0 O' S' H' l ds:=by
 have hsz:=L.fr.size
 have hn:∀ p ∈ l,∀ x ∈ p.bs,x ∉ M:=fun p hp x hx hm=>by
  obtain ⟨_,h2,h3⟩:=L.lo x (List.mem_flatMap.2 ⟨p,hp,hx⟩)
  rcases hM x hm with q | q
  ·exact h2 q
  ·omega
 have hm:∀ x ∈ M,Lk H0.size O l x∨H.size≤x:=fun x hx=>(hM x hx).imp (fun q=>.inr (.inl q)) id
 have hb:∀ x,Lk H0.size O' l x→Lk H0.size O l x∨H.size≤x:=by
  rintro x (q | q | q)
  ·exact .inl (.inl q)
  ·exact (hO x q).2.imp (fun q=>.inr (.inl q)) id
  ·exact .inl (.inr (.inr q))
 refine ⟨L.fr.trans' hf fun x hx=>?_,fun x hx=>⟨(hO x hx).1,?_⟩,L.nd,fun x hx=>?_,fun p hp=>Ent.ok_step (L.ok p hp) hf hm (hn p hp) hb,fun p hp=>RepP.fr (L.dat p hp) hf hm hb,hS⟩
 ·rcases hM x hx with q | q
  ·exact (L.own x q).2
  ·exact .inr (by omega)
 ·rcases (hO x hx).2 with q | q
  ·exact (L.own x q).2
  ·exact .inr (by omega)
 ·obtain ⟨h1,h2,h3⟩:=L.lo x hx
  refine ⟨h1,fun q=>?_,Nat.lt_of_lt_of_le h3 hf.size⟩
  rcases (hO x q).2 with q | q
  ·exact h2 q
  ·omega
theorem Lv.stb_trans (L:Lv O0 H0 O S H l ds) (hf:Fr M H H') (hM:∀ x ∈ M,H0.size≤x∧x ∉ O):∀ (M':List Nat) (H'':Heap),Fr M' H' H''→(∀ x ∈ M',H0.size≤x∧x ∉ O)→S H'':=fun M' H'' hf' hM'=>by
 refine L.stb (M ++ M') H'' ?_ fun x hx=>(List.mem_append.1 hx).elim (hM x) (hM' x)
 exact (hf.mono fun x hx=>.inl (by simp [hx])).trans (hf'.mono fun x hx=>.inl (by simp [hx]))
theorem Lv.ext (L:Lv O0 H0 O S H l ds) (hf:Fr [] H H'):Lv O0 H0 O S H' l ds:=
 L.step hf (by simp) (fun x hx=>⟨Nat.lt_of_lt_of_le (L.own x hx).1 hf.size,.inl hx⟩) (L.stb_trans hf (by simp))
theorem Lv.call (L:Lv O0 H0 O S H l ds) (hf:Fr O H H') (hS:∀ (M:List Nat) (H'':Heap),Fr M H' H''→(∀ x ∈ M,H0.size≤x∧x ∉ O)→S' H''):Lv O0 H0 O S' H' l ds:=
 L.step hf (fun x hx=>.inl hx) (fun x hx=>⟨Nat.lt_of_lt_of_le (L.own x hx).1 hf.size,.inl hx⟩) hS
theorem Lv.push (L:Lv O0 H0 O S H l ds) {t:Nat} {cs:List Value} (hf:Fr [] H H') (hn:Blk H' H.size t cs):Lv O0 H0 O S H' (.blk H.size t cs :: l) ds:=by
 have hsz:=L.fr.size
 have hb:∀ x,Lk H0.size O (.blk H.size t cs :: l) x→Lk H0.size O l x∨H.size≤x:=by
  rintro x (q | q | q)
  ·exact .inl (.inl q)
  ·exact .inl (.inr (.inl q))
  ·simp only [List.flatMap_cons,Ent.bs,List.cons_append,List.nil_append,List.mem_cons] at q
   rcases q with rfl | q
   ·exact .inr (Nat.le_refl _)
   ·exact .inl (.inr (.inr q))
 have hlt:=hn.lt
 refine ⟨L.fr.trans' hf (by simp),fun x hx=>⟨Nat.lt_of_lt_of_le (L.own x hx).1 hf.size,(L.own x hx).2⟩,?_,fun x hx=>?_,fun p hp=>?_,fun p hp=>RepP.fr (L.dat p hp) hf (by simp) hb,L.stb_trans hf (by simp)⟩
 ·simp only [List.flatMap_cons,Ent.bs,List.cons_append,List.nil_append,List.nodup_cons]
  exact ⟨fun q=>by have:=(L.lo _ q).2.2; omega,L.nd⟩
 ·simp only [List.flatMap_cons,Ent.bs,List.cons_append,List.nil_append,List.mem_cons] at hx
  rcases hx with rfl | hx
  ·exact ⟨hsz,fun q=>by have:=(L.own _ q).1; omega,hlt⟩
  ·obtain ⟨h1,h2,h3⟩:=L.lo x hx
   exact ⟨h1,h2,by omega⟩
 ·rcases List.mem_cons.1 hp with rfl | hp
  ·exact hn
  ·exact Ent.ok_step (L.ok p hp) hf (by simp) (by simp) hb
theorem Lv.newP (L:Lv O0 H0 O S H l ds) {t:Nat} {cs:List Value} {R:Value→Heap→Prop} (h:∀ b H',Lv O0 H0 O S H' (.blk b t cs :: l) ds→R (.pointer (some ⟨b,0,none⟩)) H'):NewP H t cs R:=
 NewP_intro fun H' hn hf _=>h _ H' (L.push hf hn)
theorem Lv.newS (L:Lv O0 H0 O S H l ds) {t n:Nat} {cs:List Value} {R:Value→Heap→Prop} (h:∀ b H',Lv O0 H0 O S H' (.blk b t cs :: l) ds→R (.slice (some ⟨b,0,none⟩) n n) H'):NewS H t n cs R:=
 NewS_intro fun H' hn hf _=>h _ H' (L.push hf hn)
theorem Lv.setE (L:Lv O0 H0 O S H l ds) {i:Nat} {e e':Ent} (hi:l[i]?=some e) (hf:Fr M H H') (hM:∀ x ∈ M,x ∈ e.bs) (hbs:∀ x ∈ e'.bs,x ∈ e.bs∨H.size≤x) (hnd:e'.bs.Nodup)
 (hok:e'.ok H' (fun x=>Lk H0.size O l x∨x ∈ e'.bs)):Lv O0 H0 O S H' (l.set i e') ds:=by
 have hsz:=L.fr.size
 obtain ⟨hlt,hie⟩:=List.getElem?_eq_some_iff.1 hi
 obtain ⟨l1,l2,rfl,hs⟩:∃ l1 l2,l=l1 ++ e :: l2∧l.set i e'=l1 ++ e' :: l2:=by
  refine ⟨l.take i,l.drop (i + 1),?_,?_⟩
  ·rw [← hie,← List.drop_eq_getElem_cons hlt,List.take_append_drop]
  ·rw [List.set_eq_take_append_cons_drop,if_pos hlt]
 rw [hs]
 have hnd0:=L.nd
 simp only [List.flatMap_append,List.flatMap_cons,List.nodup_append] at hnd0
 obtain ⟨n1,⟨n2,n3,n4⟩,n5⟩:=hnd0
 have hmem:∀ x,x ∈ (l1 ++ e' :: l2).flatMap Ent.bs↔x ∈ l1.flatMap Ent.bs∨x ∈ e'.bs∨x ∈ l2.flatMap Ent.bs:=by
  intro x; rw [List.flatMap_append,List.flatMap_cons,List.mem_append,List.mem_append]
 have hmem0:∀ x,x ∈ (l1 ++ e :: l2).flatMap Ent.bs↔x ∈ l1.flatMap Ent.bs∨x ∈ e.bs∨x ∈ l2.flatMap Ent.bs:=by
  intro x; rw [List.flatMap_append,List.flatMap_cons,List.mem_append,List.mem_append]
 have hlk1:∀ x,Lk H0.size O (l1 ++ e' :: l2) x→Lk H0.size O (l1 ++ e :: l2) x∨x ∈ e'.bs:=by
  rintro x (q | q | q)
  ·exact .inl (.inl q)
  ·exact .inl (.inr (.inl q))
  ·rcases (hmem x).1 q with q | q | q
   ·exact .inl (.inr (.inr ((hmem0 x).2 (.inl q))))
   ·exact .inr q
   ·exact .inl (.inr (.inr ((hmem0 x).2 (.inr (.inr q)))))
 have hlk:∀ x,Lk H0.size O (l1 ++ e' :: l2) x→Lk H0.size O (l1 ++ e :: l2) x∨H.size≤x:=fun x hx=>by
  rcases hlk1 x hx with q | q
  ·exact .inl q
  ·exact (hbs x q).imp (fun q=>.inr (.inr ((hmem0 x).2 (.inr (.inl q))))) id
 have hm:∀ x ∈ M,Lk H0.size O (l1 ++ e :: l2) x∨H.size≤x:=fun x hx=>.inl (.inr (.inr ((hmem0 x).2 (.inr (.inl (hM x hx))))))
 have hloe:∀ x ∈ e.bs,H0.size≤x∧x ∉ O∧x < H.size:=fun x hx=>L.lo x ((hmem0 x).2 (.inr (.inl hx)))
 have hlt':=Ent.lt hok
 have hoth:∀ p ∈ l1 ++ l2,p.ok H' (Lk H0.size O (l1 ++ e' :: l2)):=fun p hp=>by
  have hp0:p ∈ l1 ++ e :: l2:=by
   rcases List.mem_append.1 hp with hp | hp
   ·exact List.mem_append.2 (.inl hp)
   ·exact List.mem_append.2 (.inr (List.mem_cons.2 (.inr hp)))
  refine Ent.ok_step (L.ok p hp0) hf hm (fun x hx hxm=>?_) hlk
  have hxe:=hM x hxm
  rcases List.mem_append.1 hp with hp | hp
  ·exact n5 x (List.mem_flatMap.2 ⟨p,hp,hx⟩) x (List.mem_append.2 (.inl hxe)) rfl
  ·exact n4 x hxe x (List.mem_flatMap.2 ⟨p,hp,hx⟩) rfl
 refine ⟨L.fr.trans' hf fun x hx=>.inr (hloe x (hM x hx)).1,fun x hx=>⟨Nat.lt_of_lt_of_le (L.own x hx).1 hf.size,(L.own x hx).2⟩,?_,fun x hx=>?_,fun p hp=>?_,fun p hp=>RepP.fr (L.dat p hp) hf hm hlk,L.stb_trans hf fun x hx=>⟨(hloe x (hM x hx)).1,(hloe x (hM x hx)).2.1⟩⟩
 ·simp only [List.flatMap_append,List.flatMap_cons,List.nodup_append]
  refine ⟨n1,⟨hnd,n3,fun a ha b hb=>?_⟩,fun a ha b hb=>?_⟩
  ·rcases hbs a ha with q | q
   ·exact n4 a q b hb
   ·have:=(L.lo b ((hmem0 b).2 (.inr (.inr hb)))).2.2
    omega
  ·have hal:=(L.lo a ((hmem0 a).2 (.inl ha))).2.2
   rcases List.mem_append.1 hb with hb | hb
   ·rcases hbs b hb with q | q
    ·exact n5 a ha b (List.mem_append.2 (.inl q))
    ·omega
   ·exact n5 a ha b (List.mem_append.2 (.inr hb))
 ·rcases (hmem x).1 hx with q | q | q
  ·obtain ⟨h1,h2,h3⟩:=L.lo x ((hmem0 x).2 (.inl q))
   exact ⟨h1,h2,Nat.lt_of_lt_of_le h3 hf.size⟩
  ·have hl:=hlt' x q
   rcases hbs x q with r | r
   ·exact ⟨(hloe x r).1,(hloe x r).2.1,hl⟩
   ·exact ⟨by omega,fun s=>by have:=(L.own x s).1; omega,hl⟩
  ·obtain ⟨h1,h2,h3⟩:=L.lo x ((hmem0 x).2 (.inr (.inr q)))
   exact ⟨h1,h2,Nat.lt_of_lt_of_le h3 hf.size⟩
 ·rcases List.mem_append.1 hp with hp | hp
  ·exact hoth p (List.mem_append.2 (.inl hp))
  ·rcases List.mem_cons.1 hp with rfl | hp
   ·exact Ent.ok_step hok (Fr.refl [] H') (by simp) (by simp) fun x hx=>.inl (hlk1 x hx)
   ·exact hoth p (List.mem_append.2 (.inr hp))
theorem Lv.sto (L:Lv O0 H0 O S H l ds) (i:Nat) {b t:Nat} {cs cs':List Value} (hi:l[i]?=some (.blk b t cs)) (hf:Fr [b] H H') (hn:Blk H' b t cs'):Lv O0 H0 O S H' (l.set i (.blk b t cs')) ds:=
 L.setE hi hf (by simp [Ent.bs]) (by simp [Ent.bs]) (by simp [Ent.bs]) hn
theorem Lv.get (L:Lv O0 H0 O S H l ds) (i:Nat) {b t:Nat} {cs:List Value} (hi:l[i]?=some (.blk b t cs)):Blk H b t cs:=L.ok _ (List.mem_of_getElem? hi)
theorem Lv.cell (L:Lv O0 H0 O S H l ds) (i:Nat) {b t:Nat} {cs:List Value} (hi:l[i]?=some (.blk b t cs)) (o:Nat):cellB H b o=cs[o]?:=(L.get i hi).cell o
theorem Lv.stoAll (L:Lv O0 H0 O S H l ds) (i:Nat) {b t:Nat} {cs vs:List Value} {R:Heap→Prop} (hi:l[i]?=some (.blk b t cs)) (hl:vs.length=cs.length) (h1:∀ v ∈ vs,v.oneCell'=true)
 (hR:∀ H',Lv O0 H0 O S H' (l.set i (.blk b t vs)) ds→R H'):Sto H ⟨b,0,none⟩ vs 0 R:=
 Sto_all (L.get i hi) hl h1 fun H' hn hf _=>hR H' (L.sto i hi hf hn)
theorem Lv.stoOne (L:Lv O0 H0 O S H l ds) (i:Nat) {b t o:Nat} {cs:List Value} {v:Value} {R:Heap→Prop} (hi:l[i]?=some (.blk b t cs)) (ho:o < cs.length) (h1:v.oneCell'=true)
 (hR:∀ H',Lv O0 H0 O S H' (l.set i (.blk b t (cs.set o v))) ds→R H'):Sto H ⟨b,o,none⟩ [v] 0 R:=
 Sto_one (L.get i hi) ho h1 fun H' hn hf _=>hR H' (L.sto i hi hf hn)
theorem Lv.sub (L:Lv O0 H0 O S H l ds) {l':List Ent} (hs:l'.Sublist l) {ds':List (Dat × List Value)} (hd:∀ p ∈ ds',RepP H (Lk H0.size O l') p.1 p.2):Lv O0 H0 O S H l' ds':=by
 have hfs:(l'.flatMap Ent.bs).Sublist (l.flatMap Ent.bs):=by
  clear hd L
  induction hs with
  | slnil=>simp
  | cons a _ ih=>rw [List.flatMap_cons]; exact ih.trans (List.sublist_append_right _ _)
  | cons_cons a _ ih=>rw [List.flatMap_cons,List.flatMap_cons]; exact List.Sublist.append (List.Sublist.refl _) ih
 have hlk:∀ x,Lk H0.size O l' x→Lk H0.size O l x∨H.size≤x:=by
  rintro x (q | q | q)
  ·exact .inl (.inl q)
  ·exact .inl (.inr (.inl q))
  ·exact .inl (.inr (.inr (hfs.subset q)))
 exact ⟨L.fr,L.own,hfs.nodup L.nd,fun x hx=>L.lo x (hfs.subset hx),fun p hp=>Ent.ok_step (L.ok p (hs.subset hp)) (Fr.refl [] _) (by simp) (by simp) hlk,hd,L.stb⟩
theorem Lv.lk_sub (L:Lv O0 H0 O S H l ds) {l':List Ent} (hs:l'.Sublist l) {d:Dat} {cs:List Value} (h:RepP H (Lk H0.size O l) d cs):RepP H (Lk H0.size O l') d cs:=by
 refine h.more ?_
 rintro x (q | q | q)
 ·exact .inl (.inl q)
 ·exact .inl (.inr (.inl q))
 ·refine .inl (.inr (.inr ?_))
  obtain ⟨p,hp,hx⟩:=List.mem_flatMap.1 q
  exact List.mem_flatMap.2 ⟨p,hs.subset hp,hx⟩
theorem Lv.drop (L:Lv O0 H0 O S H l ds) {l':List Ent} (hs:l'.Sublist l) {ds':List (Dat × List Value)} (hd:∀ p ∈ ds',p ∈ ds):Lv O0 H0 O S H l' ds':=
 L.sub hs fun p hp=>L.lk_sub hs (L.dat p (hd p hp))
theorem Lv.add (L:Lv O0 H0 O S H l ds) {d:Dat} {cs:List Value} (h:RepP H (Lk H0.size O l) d cs):Lv O0 H0 O S H l ((d,cs) :: ds):=
 ⟨L.fr,L.own,L.nd,L.lo,L.ok,fun p hp=>by
  rcases List.mem_cons.1 hp with rfl | hp
  ·exact h
  ·exact L.dat p hp,L.stb⟩
theorem Lv.built (L:Lv O0 H0 O S H l ds) {d:Dat} {cs:List Value} (h:RepP H' (fun x=>x < H.size) d cs):RepP H' (Lk H0.size O l) d cs:=by
 refine h.more ?_
 rintro x (q | q | q)
 ·exact .inl (Nat.lt_of_lt_of_le q L.fr.size)
 ·exact .inl (L.own x q).1
 ·exact .inl (L.lo x q).2.2
theorem Lv.row0 (L:Lv O0 H0 O S H l ds) (e m:Nat):Lv O0 H0 O S H (.row e m (.slice none 0 0) [] none :: l) ds:=by
 have hlk:∀ x,Lk H0.size O (.row e m (.slice none 0 0) [] none :: l) x→Lk H0.size O l x∨H.size≤x:=by
  rintro x (q | q | q)
  ·exact .inl (.inl q)
  ·exact .inl (.inr (.inl q))
  ·exact .inl (.inr (.inr (by simpa [Ent.bs] using q)))
 refine ⟨L.fr,L.own,by simpa [Ent.bs] using L.nd,fun x hx=>L.lo x (by simpa [Ent.bs] using hx),fun p hp=>?_,fun p hp=>(L.dat p hp).more hlk,L.stb⟩
 rcases List.mem_cons.1 hp with rfl | hp
 ·exact LsO.nil
 ·exact Ent.ok_step (L.ok p hp) (Fr.refl [] _) (by simp) (by simp) hlk
theorem Lv.rowGet (L:Lv O0 H0 O S H l ds) (i:Nat) {e m:Nat} {v:Value} {dl:List Dat} {g:Option Nat} (hi:l[i]?=some (.row e m v dl g)):LsO H (Lk H0.size O l) e m v dl g:=L.ok _ (List.mem_of_getElem? hi)
theorem Lv.app {P:Program} {t tx bytes tn nb n1 c1 m:Nat} {z:Value} {R:Value→Heap→Prop} {d:Dat} {cs:List Value} (L:Lv O0 H0 O S H (.blk nb tn cs :: l) ds) (hE:ElemOk P t e m bytes z) (i:Nat) {v:Value} {dl:List Dat} {g:Option Nat}
 (hi:l[i]?=some (.row e m v dl g)) {ex:Nat} (hk:P.underlying tx=some (.slice ex)) (hl:cs.length=m)
 (hc:∀ u ∈ cs,u.oneCell'=true) (hd:RepP H (Lk H0.size O l) d cs) (h1:n1=1) (h63:dl.length + 1≤maxLen) (hb:(dl.length + 1) * bytes≤140737488355328)
 (hR:∀ a c g' H',Lv O0 H0 O S H' (l.set i (.row e m (.slice a (dl.length + 1) c) (dl ++ [d]) g')) ds→R (.slice a (dl.length + 1) c) H'):App P t tx t H v (.slice (some ⟨nb,0,none⟩) n1 c1) R:=by
 have L':=L.drop (l':=l) (List.sublist_cons_self _ _) fun p hp=>hp
 have hrow:=L'.rowGet i hi
 have hmem:=List.mem_of_getElem? hi
 refine App_ls (cs:=cs) hE hrow hk (L.get 0 rfl) hl hc (hd.more fun x hx=>.inl ?_) h1 h63 hb fun a c H' g' ho hf hg'=>hR a c g' H' ?_
 ·rcases hx with q | q
  ·exact q
  ·exact .inr (.inr (List.mem_flatMap.2 ⟨_,hmem,by simp [Ent.bs,q]⟩))
 ·refine L'.setE hi hf (fun x hx=>hx) (fun x hx=>?_) (by cases g' <;> simp [Ent.bs]) ?_
  ·simp only [Ent.bs,Option.mem_toList] at hx ⊢
   exact hg' x hx
  ·obtain ⟨css,q1,q2,q3⟩:=ho
   refine ⟨css,q1,q2,q3.more fun x hx=>.inl ?_⟩
   simp only [Ent.bs,Option.mem_toList] at hx
   rcases hx with (hx | hx) | hx
   ·exact .inl hx
   ·exact .inr hx
   ·exact .inr hx
theorem Lv.rowDone (L:Lv O0 H0 O S H l ds) (i:Nat) (hi:l[i]?=some (.row e m v dl g)):Lv O0 H0 O S H (l.eraseIdx i) ((.list m dl,[v]) :: ds):=by
 have hs:(l.eraseIdx i).Sublist l:=List.eraseIdx_sublist l i
 refine (L.drop hs fun p hp=>hp).add ?_
 refine LsO.rep ((L.rowGet i hi).ext (Fr.refl [] _) (B':=Lk H0.size O (l.eraseIdx i)) ?_) fun b hb hB=>?_
 ·rintro x (q | q | q)
  ·exact .inl (.inl q)
  ·exact .inl (.inr (.inl q))
  ·exact .inl (.inr (.inr (List.mem_flatMap.2 (by obtain ⟨p,hp,hx⟩:=List.mem_flatMap.1 q; exact ⟨p,hs.subset hp,hx⟩))))
 ·subst hb
  have hbl:=L.lo b (List.mem_flatMap.2 ⟨_,List.mem_of_getElem? hi,by simp [Ent.bs]⟩)
  have hnd:=L.nd
  obtain ⟨hlt,hie⟩:=List.getElem?_eq_some_iff.1 hi
  have hl:l=l.take i ++ .row e m v dl (some b) :: l.drop (i + 1):=by rw [← hie,← List.drop_eq_getElem_cons hlt,List.take_append_drop]
  have he:l.eraseIdx i=l.take i ++ l.drop (i + 1):=List.eraseIdx_eq_take_drop_succ l i
  rw [hl] at hnd
  simp only [List.flatMap_append,List.flatMap_cons,Ent.bs,Option.toList_some,List.cons_append,List.nil_append,List.nodup_append,List.nodup_cons,List.mem_cons] at hnd
  rcases hB with q | q | q
  ·omega
  ·exact hbl.2.1 q
  ·rw [he,List.flatMap_append,List.mem_append] at q
   rcases q with q | q
   ·exact hnd.2.2 b q b (.inl rfl) rfl
   ·exact hnd.2.1.1 q
theorem Lv.rowOwn (L:Lv O0 H0 O S H (.blk b t cs :: l) ds) {n:Nat} {css:List (List Value)} (hcs:cs=css.flatten) (hl:∀ x ∈ css,x.length=m) (hR:RepsP H (Lk H0.size O (.blk b t cs :: l)) dl css) (hn:n=dl.length) (h63:dl.length≤maxLen) :
 Lv O0 H0 O S H (.row t m (.slice (some ⟨b,0,none⟩) n n) dl (some b) :: l) ds:=by
 have hb:=L.get 0 rfl
 subst hcs hn
 have hlen:css.length=dl.length:=Reps.length (hR [] (by simp))
 refine L.setE (i:=0) rfl (Fr.refl [] _) (by simp) (fun x hx=>.inl (by simpa [Ent.bs] using hx)) (by simp [Ent.bs]) ?_
 refine ⟨css,Own.of_blk hb (by rw [flatten_len hl,hlen]) h63,hl,fun M hM=>?_⟩
 refine hR M fun x hx=>?_
 rcases hM x hx with (q | q) | q
 ·exact q
 ·exact .inr (.inr (by simpa [Ent.bs] using .inl (by simpa [Ent.bs] using q)))
 ·exact .inr (.inr (by simpa [Ent.bs] using .inl (by simpa [eq_comm] using q)))
end
end Gx
end
section
set_option linter.unusedSimpArgs false
set_option linter.unusedVariables false
set_option maxRecDepth 8000
namespace Go.Proofs.YtmhdkbmnpekpoaaGreatDoor
open Gx Go
abbrev PLv (X:Cx) (H0:Heap) (ts:List Tk) (k:Nat) (H:Heap) (l:List Ent) (ds:List (Dat × List Value)):Prop:=Lv [X.b] H0 [X.b] (fun H=>Ps X H ts k) H l ds
abbrev PEr {γ:Type} (X:Cx) (H0:Heap) (P0:Except Flt γ):Chain→Heap→Prop:=fun ch H'=>∃ e,P0= .error e∧ch=flt e∧Fr [X.b] H0 H'
section
variable {X:Cx} {H0 H H':Heap} {ts0 ts r:List Tk} {k0 k:Nat} {l:List Ent} {ds:List (Dat × List Value)} {γ:Type} {P0:Except Flt (γ × List Tk)} {Q:Value→Heap→Prop} {E:Chain→Heap→Prop}
theorem Ps.walk (h:Ps X H ts k):PLv X H ts k H [] []:=Lv.start (by simpa using h.lt) fun M H' hf hM=>Ps.on h h hf fun x hx=>(hM x hx).1
theorem _root_.Gx.Lv.ps (L:PLv X H0 ts k H l ds):Ps X H ts k:=Lv.st L
theorem _root_.Gx.Lv.pto {ts':List Tk} {k':Nat} (L:PLv X H0 ts k H l ds) (h0:Ps X H0 ts0 k0) (hf:Fr [X.b] H H') (h:Ps X H' ts' k'):PLv X H0 ts' k' H' l ds:=
 Lv.call L hf fun M H'' hf' hM=>Ps.on h0 h hf' fun x hx=>(hM x hx).1
theorem POk.go {α:Type} {f:Nat} {av:List Value} {p:PP α} {R:α→Value→Heap→Heap→Prop} {g:α→PP γ} (h:POk k f av p R) (h0:Ps X H0 ts0 k0) (L:PLv X H0 ts k H l ds) (hp:P0=bd p g ts)
 (hR:∀ a r v H',PLv X H0 r k H' l ds→P0=g a r→p ts= .ok (a,r)→R a v H H'→Q v H'):PCalls Tryz.prog f (ptr X.b :: av).toArray H Q (PEr X H0 P0):=
 h.use L.ps (fun e H' he hf=>⟨e,by rw [hp,bd_err he],rfl,L.fr.trans hf⟩) fun a r v H' he hv hs hf=>hR a r v H' (L.pto h0 hf hs) (by rw [hp,bd_ok he]) he hv
theorem POk.goN {f:Nat} {av:List Value} {p:PP Nd} {g:Nd→PP γ} (h:POk k f av p NdR) (h0:Ps X H0 ts0 k0) (L:PLv X H0 ts k H l ds) (hp:P0=bd p g ts)
 (hR:∀ kk tt nn aa ks kv r H',PLv X H0 r k H' l ((kidsD ks,[kv]) :: ds)→P0=g (.mk kk tt nn aa ks) r→p ts= .ok (.mk kk tt nn aa ks,r)→Q (.agg #[.int .i64 kk,sv tt,.int .i64 nn,.int .i64 aa,kv]) H') :
 PCalls Tryz.prog f (ptr X.b :: av).toArray H Q (PEr X H0 P0):=
 h.go h0 L hp fun a r v H' L' hp' he ⟨cs,hv,hr⟩=>by
  subst hv
  obtain ⟨kk,tt,nn,aa,ks⟩:=a
  obtain ⟨kv,rfl,hkv⟩:=RepP.nd_open hr
  exact hR kk tt nn aa ks kv r H' (L'.add (L.built hkv)) hp' he
theorem bd_bd {α β δ:Type} (p:PP α) (f:α→PP β) (g:β→PP δ) (ts:List Tk):bd (bd p f) g ts=bd p (fun a=>bd (f a) g) ts:=by
 unfold bd
 cases p ts with
 | error e=>rfl
 | ok x=>rfl
theorem bd_ret {α:Type} (p:PP α) (ts:List Tk):bd p ret ts=p ts:=by
 unfold bd
 cases p ts with
 | error e=>rfl
 | ok x=>rfl
theorem POk.goL {f:Nat} {av:List Value} {p:PP Nd} {P0:Except Flt (Nd × List Tk)} (h:POk k f av p NdR) (h0:Ps X H0 ts0 k0) (L:PLv X H0 ts k H l ds) (hp:P0=p ts)
 (hR:∀ kk tt nn aa ks kv r H',PLv X H0 r k H' l ((kidsD ks,[kv]) :: ds)→P0= .ok (.mk kk tt nn aa ks,r)→Q (.agg #[.int .i64 kk,sv tt,.int .i64 nn,.int .i64 aa,kv]) H') :
 PCalls Tryz.prog f (ptr X.b :: av).toArray H Q (PEr X H0 P0):=
 h.goN h0 L (hp.trans (bd_ret p ts).symm) fun kk tt nn aa ks kv r H' L' hp' he=>hR kk tt nn aa ks kv r H' L' (by rw [hp,he])
theorem look_go (L:PLv X H0 ts k H l ds) (hR:∀ H',PLv X H0 ts k H' l ds→Q (.agg (tkC (hd ts)).toArray) H'):PCalls Tryz.prog 35 #[ptr X.b] H Q E:=
 (look_ok L.ps).mono fun v H' ⟨hv,hf⟩=>hv ▸ hR H' (L.ext hf)
theorem is_go (L:PLv X H0 ts k H l ds) (s:Bs) (hR:∀ H',PLv X H0 ts k H' l ds→Q (.bool (isB s ts)) H'):PCalls Tryz.prog 54 #[ptr X.b,sv s] H Q E:=
 (is_ok L.ps s).mono fun v H' ⟨hv,hf⟩=>hv ▸ hR H' (L.ext hf)
theorem accept_go (h0:Ps X H0 ts0 k0) (L:PLv X H0 ts k H l ds) (s:Bs) (hT:isB s ts=true→∀ H',PLv X H0 ts.tail k H' l ds→Q (.bool true) H') (hF:isB s ts=false→∀ H',PLv X H0 ts k H' l ds→Q (.bool false) H'):PCalls Tryz.prog 61 #[ptr X.b,sv s] H Q E:=
 (accept_ok L.ps s).mono fun v H' ⟨hv,hs,hf⟩=>by
  subst hv
  cases e:isB s ts with
  | true=>rw [e,if_pos rfl] at hs; exact hT e H' (L.pto h0 hf hs)
  | false=>rw [e,if_neg (by decide)] at hs; exact hF e H' (L.pto h0 hf hs)
theorem accept_u (h0:Ps X H0 ts0 k0) (L:PLv X H0 ts k H l ds) (s:Bs) (hR:∀ H',PLv X H0 (if isB s ts then ts.tail else ts) k H' l ds→Q (.bool (isB s ts)) H'):PCalls Tryz.prog 61 #[ptr X.b,sv s] H Q E:=
 (accept_ok L.ps s).mono fun v H' ⟨hv,hs,hf⟩=>hv ▸ hR H' (L.pto h0 hf hs)
theorem fail_go (L:PLv X H0 ts k H l ds) {c:Int} (hp:P0= .error (c,(hd ts).at_)):PCalls Tryz.prog 53 #[ptr X.b,.int .i64 c] H Q (PEr X H0 P0):=
 (fail_ok L.ps c).mono (fun _ _ h=>h.elim) fun ch H' ⟨hc,hf⟩=>⟨_,hp,hc,L.fr.trans (fr1 hf)⟩
theorem leave_go {k':Nat} (h0:Ps X H0 ts0 k0) (L:PLv X H0 ts k H l ds) (hk:k'=k + 1) (h64:k'≤64) (hR:∀ v H',PLv X H0 ts k' H' l ds→Q v H'):PCalls Tryz.prog 58 #[ptr X.b] H Q E:=
 (leave_ok L.ps (by omega)).mono fun v H' ⟨hs,hf⟩=>hR v H' (L.pto h0 hf (hk ▸ hs))
theorem enter_go {α β:Type} {lo:Nat→Option β} {s:Bs} {body:β→PP α} {P0:Except Flt (α × List Tk)} (h0:Ps X H0 ts0 k0) (L:PLv X H0 ts k H l ds) (hlo:lo 0=none) (hlo':∀ j,∃ x,lo (j + 1)=some x) (hp:P0=entP (lo k) s body ts)
 (hR:∀ j x H',k=j + 1→lo (j + 1)=some x→PLv X H0 ts.tail j H' l ds→isB s ts=true→P0=body x ts.tail→Q (.int .i64 (hd ts).at_) H'):PCalls Tryz.prog 56 #[ptr X.b,sv s] H Q (PEr X H0 P0):=by
 cases e:isB s ts with
 | false=>
   refine (enter_no L.ps (s:=s) (.inl e)).mono (fun _ _ h=>h.elim) fun ch H' ⟨hc,hf⟩=>?_
   rw [e,if_neg (by decide)] at hc
   exact ⟨_,by rw [hp,entP_no e],hc,L.fr.trans hf⟩
 | true=>
   cases k with
   | zero=>
     refine (enter_no L.ps (s:=s) (.inr rfl)).mono (fun _ _ h=>h.elim) fun ch H' ⟨hc,hf⟩=>?_
     rw [e,if_pos rfl] at hc
     exact ⟨_,by rw [hp,hlo,entP_0 e],hc,L.fr.trans hf⟩
   | succ j=>
     obtain ⟨x,hx⟩:=hlo' j
     refine (enter_ok L.ps e).mono fun v H' ⟨hv,hs,hf⟩=>?_
     subst hv
     exact hR j x H' rfl hx (L.pto h0 hf hs) e (by rw [hp,hx,entP_s e])
theorem _root_.Gx.Lv.fin {P0:Except Flt (Nd × List Tk)} {kk nn aa:Int} {tt:Bs} {ks:List Nd} {kv:Value} (L:PLv X H0 r k H l ds) (hp:P0=ret (.mk kk tt nn aa ks) r) (hk:(kidsD ks,[kv]) ∈ ds∨(ks=[]∧kv= .slice none 0 0)) :
 ∃ a r,P0= .ok (a,r)∧NdR a (.agg #[.int .i64 kk,sv tt,.int .i64 nn,.int .i64 aa,kv]) H0 H∧Ps X H r k∧Fr [X.b] H0 H:=by
 suffices hq:RepP H (Lk H0.size [X.b] l) (kidsD ks) [kv] by
  exact ⟨_,r,hp,⟨_,rfl,RepP.nd (hq.more fun x hx=>.inl (.inl hx))⟩,L.ps,L.fr⟩
 rcases hk with hk | ⟨rfl,rfl⟩
 ·exact L.dat _ hk
 ·exact zeroKids
theorem _root_.Gx.Lv.rowN (L:PLv X H0 r k H l ds) (i:Nat) (ns:List Nd) {v:Value} {g:Option Nat} (hi:l[i]?=some (.row 24 5 v (ns.map Nd.dat) g)):PLv X H0 r k H (l.eraseIdx i) ((kidsD ns,[v]) :: ds):=Lv.rowDone L i hi
theorem _root_.Gx.Lv.one (L:PLv X H0 r k H l ds) {ks:List Nd} {kv:Value} (h:(kidsD ks,[kv]) ∈ ds):kv.oneCell'=true:=nd_one (L.dat _ h)
theorem _root_.Gx.Lv.ndr (L:PLv X H0 r k H l ds) {kk nn aa:Int} {tt:Bs} {ks:List Nd} {kv:Value} (h:(kidsD ks,[kv]) ∈ ds):RepP H (Lk H0.size [X.b] l) (Nd.dat (.mk kk tt nn aa ks)) [.int .i64 kk,sv tt,.int .i64 nn,.int .i64 aa,kv]:=RepP.nd (L.dat _ h)
end
theorem _root_.Gx.Lv.rowN1 {X:Cx} {H0 H:Heap} {r:List Tk} {k:Nat} {l:List Ent} {ds:List (Dat × List Value)} {b:Nat} {kk nn aa:Int} {tt:Bs} {ks:List Nd} {kv:Value} (L:PLv X H0 r k H (.blk b 24 [.int .i64 kk,sv tt,.int .i64 nn,.int .i64 aa,kv] :: l) ds) (hk:(kidsD ks,[kv]) ∈ ds) :
 PLv X H0 r k H (.row 24 5 (.slice (some ⟨b,0,none⟩) 1 1) ([Nd.mk kk tt nn aa ks].map Nd.dat) (some b) :: l) ds:=
 Lv.rowOwn L (css:=[[.int .i64 kk,sv tt,.int .i64 nn,.int .i64 aa,kv]]) (by simp) (by simp) (RepsP.nil.cons (L.ndr hk)) (by simp) (by simp [maxLen])
theorem ENd:ElemOk Tryz.prog 22 24 5 64 (.agg #[.int .i64 0,.string ⟨⟨[]⟩⟩,.int .i64 0,.int .i64 0,.slice none 0 0]):=⟨Tryz.underlying22,by kernel_rfl,rfl,by decide⟩
end Go.Proofs.YtmhdkbmnpekpoaaGreatDoor
end
section
set_option linter.unusedSimpArgs false
set_option linter.unusedVariables false
set_option maxRecDepth 8000
namespace Go.Proofs.YtmhdkbmnpekpoaaGreatDoor
open Gx Go
section
variable {X:Cx} {H0 H H':Heap} {ts0 ts r:List Tk} {k0 k:Nat} {l:List Ent} {ds:List (Dat × List Value)}
theorem _root_.Gx.Lv.appN {nb tn:Nat} {R:Value→Heap→Prop} {kk nn aa:Int} {tt:Bs} {ks:List Nd} {kv v:Value} {g:Option Nat} {ns:List Nd} (L:PLv X H0 ts k H (.blk nb tn [.int .i64 kk,sv tt,.int .i64 nn,.int .i64 aa,kv] :: l) ds)
 (i:Nat) (hi:l[i]?=some (.row 24 5 v (ns.map Nd.dat) g)) (hk:(kidsD ks,[kv]) ∈ ds) (h63:ns.length + 1≤1048576)
 (hR:∀ a c g' H',PLv X H0 ts k H' (l.set i (.row 24 5 (.slice a (ns ++ [Nd.mk kk tt nn aa ks]).length c) ((ns ++ [Nd.mk kk tt nn aa ks]).map Nd.dat) g')) ds→R (.slice a (ns ++ [Nd.mk kk tt nn aa ks]).length c) H') :
 App Tryz.prog 22 22 22 H v (.slice (some ⟨nb,0,none⟩) 1 1) R:=by
 have L1:PLv X H0 ts k H l ds:=Lv.drop L (List.sublist_cons_self _ _) fun p hp=>hp
 refine Lv.app L ENd i hi Tryz.underlying22 rfl (one_agg (L.one hk)) (d:=Nd.dat (.mk kk tt nn aa ks)) (L1.ndr hk) rfl (by simp [maxLen]; omega) (by simp; omega) fun a c g' H' L'=>?_
 have e:ns.map Nd.dat ++ [Nd.dat (.mk kk tt nn aa ks)]=(ns ++ [Nd.mk kk tt nn aa ks]).map Nd.dat:=by simp
 have e2:(ns.map Nd.dat).length + 1=(ns ++ [Nd.mk kk tt nn aa ks]).length:=by simp
 rw [e,e2] at L'
 rw [e2]
 exact hR a c g' H' L'
end
theorem argument_ok {k:Nat} {e:PP Nd} (hex:POk k 28 [] e NdR) (fn:Bs):POk k 160 [sv fn] (argP e fn) NdR:=by
 refine ⟨fun {X H ts} hs=>?_⟩
 refine pcalls_of_vc (args:=[_,_]) Tryz.func160 c160ok (Nat.le_of_ble_eq_true rfl) ?_
 have L:=hs.walk
 unfold sv
 simp (implicitDefEqProofs:=false) only [go_sem,c160]
 refine L.newP fun b1 H1 L=>?_
 simp (implicitDefEqProofs:=false) only [go_sem]
 refine look_go L fun H2 L=>?_
 simp (implicitDefEqProofs:=false) only [go_sem,tkC]
 refine L.newP fun b2 H3 L=>?_
 simp (implicitDefEqProofs:=false) only [go_sem]
 refine L.stoAll 0 rfl rfl (one_agg (t:=[]) rfl) fun H4 L=>?_
 simp only [List.set_cons_zero,List.set_cons_succ,List.set_nil,List.eraseIdx_cons_zero,List.eraseIdx_cons_succ] at L
 by_cases e1:fn=[114,101,99]
 ·subst e1
  have hp:argP e [114,101,99] ts=bd (takeP 1) (fun t=>bd (expP [58]) fun _=>bd e fun x=>ret (.mk 52 t.text 0 (hd ts).at_ [x])) ts:=by simp only [argP,if_true]
  simp (implicitDefEqProofs:=false) only [go_sem,ba_eq]
  refine (take_ok 1 (by decide)).go hs L hp fun t r v H5 L hp _ hv=>?_
  cases hv
  simp (implicitDefEqProofs:=false) only [go_sem,tkC,sv]
  refine L.stoOne 0 rfl (by simp) rfl fun H6 L=>?_
  simp only [List.set_cons_zero,List.set_cons_succ,List.set_nil,List.eraseIdx_cons_zero,List.eraseIdx_cons_succ] at L
  simp (implicitDefEqProofs:=false) only [go_sem]
  refine (expect_ok [58]).go hs L hp fun _ r v H7 L hp _ _=>?_
  have L:=L.row0 24 5
  have c:=L.cell 1 rfl
  simp (implicitDefEqProofs:=false) only [go_sem,c]
  refine hex.goN hs L hp fun kk tt nn aa ks kv r H8 L hp he=>?_
  have c:=L.cell 1 rfl
  simp (implicitDefEqProofs:=false) only [go_sem,c]
  refine L.newS fun b3 H9 L=>?_
  have c:=L.cell 2 rfl
  simp (implicitDefEqProofs:=false) only [go_sem,c]
  refine L.appN (ns:=[]) (ks:=ks) 0 rfl (by simp) (by decide) fun a c g' H10 L=>?_
  simp only [List.set_cons_zero,List.set_cons_succ,List.set_nil,List.eraseIdx_cons_zero,List.eraseIdx_cons_succ] at L
  simp (implicitDefEqProofs:=false) only [go_sem]
  refine L.stoOne 1 rfl (by simp) rfl fun H11 L=>?_
  simp only [List.set_cons_zero,List.set_cons_succ,List.set_nil,List.eraseIdx_cons_zero,List.eraseIdx_cons_succ] at L
  have L:=L.rowN 0 [.mk kk tt nn aa ks] rfl
  simp only [List.set_cons_zero,List.set_cons_succ,List.set_nil,List.eraseIdx_cons_zero,List.eraseIdx_cons_succ] at L
  have c:=L.cell 0 rfl
  simp (implicitDefEqProofs:=false) only [go_sem,c]
  refine L.stoAll 1 rfl rfl (one_agg rfl) fun HZ L=>?_
  simp only [List.set_cons_zero,List.set_cons_succ,List.set_nil,List.eraseIdx_cons_zero,List.eraseIdx_cons_succ] at L
  have c:=L.cell 1 rfl
  simp (implicitDefEqProofs:=false) only [go_sem,c]
  exact L.fin hp (.inl (by simp))
 ·by_cases e2:fn=[109,97,112]
  ·subst e2
   have hp:argP e [109,97,112] ts=bd e (fun x=>bd (expP [58]) fun _=>bd e fun y=>ret (.mk 52 [] 0 (hd ts).at_ [x,y])) ts:=by simp [argP]
   simp (implicitDefEqProofs:=false) only [go_sem,ba_eq,e1]
   refine hex.goN hs L hp fun kk tt nn aa ks kv r H5 L hp _=>?_
   simp (implicitDefEqProofs:=false) only [go_sem]
   refine L.newS fun b3 H6 L=>?_
   have L:=L.rowN1 (ks:=ks) (by simp)
   simp (implicitDefEqProofs:=false) only [go_sem]
   refine L.stoOne 1 rfl (by simp) rfl fun H7 L=>?_
   simp only [List.set_cons_zero,List.set_cons_succ,List.set_nil,List.eraseIdx_cons_zero,List.eraseIdx_cons_succ] at L
   simp (implicitDefEqProofs:=false) only [go_sem]
   refine (expect_ok [58]).go hs L hp fun _ r v H8 L hp _ _=>?_
   have c:=L.cell 1 rfl
   simp (implicitDefEqProofs:=false) only [go_sem,c]
   refine hex.goN hs L hp fun kk' tt' nn' aa' ks' kv' r H9 L hp _=>?_
   have c:=L.cell 1 rfl
   simp (implicitDefEqProofs:=false) only [go_sem,c]
   refine L.newS fun b4 H10 L=>?_
   have c:=L.cell 2 rfl
   simp (implicitDefEqProofs:=false) only [go_sem,c]
   refine L.appN (ns:=[.mk kk tt nn aa ks]) (ks:=ks') 0 rfl (by simp) (by simp) fun a c g' H11 L=>?_
   simp only [List.set_cons_zero,List.set_cons_succ,List.set_nil,List.eraseIdx_cons_zero,List.eraseIdx_cons_succ] at L
   simp (implicitDefEqProofs:=false) only [go_sem]
   refine L.stoOne 1 rfl (by simp) rfl fun H12 L=>?_
   simp only [List.set_cons_zero,List.set_cons_succ,List.set_nil,List.eraseIdx_cons_zero,List.eraseIdx_cons_succ] at L
   have L:=L.rowN 0 [.mk kk tt nn aa ks,.mk kk' tt' nn' aa' ks'] rfl
   simp only [List.set_cons_zero,List.set_cons_succ,List.set_nil,List.eraseIdx_cons_zero,List.eraseIdx_cons_succ] at L
   have c:=L.cell 0 rfl
   simp (implicitDefEqProofs:=false) only [go_sem,c]
   refine L.stoAll 1 rfl rfl (one_agg (t:=[]) rfl) fun HZ L=>?_
   simp only [List.set_cons_zero,List.set_cons_succ,List.set_nil,List.eraseIdx_cons_zero,List.eraseIdx_cons_succ] at L
   have c:=L.cell 1 rfl
   simp (implicitDefEqProofs:=false) only [go_sem,c]
   exact L.fin hp (.inl (by simp))
  ·have hp:argP e fn ts=e ts:=by simp only [argP,e1,e2,if_false]
   simp (implicitDefEqProofs:=false) only [go_sem,ba_eq,e1,e2]
   refine hex.goL hs L hp fun kk tt nn aa ks kv r H5 L hp=>?_
   simp (implicitDefEqProofs:=false) only [go_sem]
   refine L.stoAll 1 rfl rfl (one_agg (L.one (ks:=ks) (by simp))) fun H6 L=>?_
   simp only [List.set_cons_zero,List.set_cons_succ,List.set_nil,List.eraseIdx_cons_zero,List.eraseIdx_cons_succ] at L
   have c:=L.cell 1 rfl
   simp (implicitDefEqProofs:=false) only [go_sem,c]
   exact L.fin hp (.inl (by simp))
theorem functions_ok (s:Bs) (H:Heap):HCalls Tryz.prog 159 #[sv s] H fun v H'=>v= .bool (decide (s ∈ fnList))∧Fr [] H H':=by
 refine calls_of_vc (args:=[_]) Tryz.func159 c159ok (Nat.le_of_ble_eq_true rfl) ?_
 unfold sv
 by_cases h:s ∈ fnList
 ·rw [decide_eq_true h]
  simp only [fnList,List.mem_cons,List.not_mem_nil,or_false] at h
  rcases h with rfl | rfl | rfl | rfl | rfl | rfl | rfl | rfl | rfl | rfl | rfl | rfl | rfl | rfl | rfl | rfl | rfl <;>
   ·simp (implicitDefEqProofs:=false) only [go_sem,c159,ba_eq]
    simp [Fr.refl]
 ·rw [decide_eq_false h]
  simp only [fnList,List.mem_cons,List.not_mem_nil,or_false,not_or] at h
  obtain ⟨h1,h2,h3,h4,h5,h6,h7,h8,h9,h10,h11,h12,h13,h14,h15,h16,h17⟩:=h
  simp (implicitDefEqProofs:=false) only [go_sem,c159,ba_eq,h1,h2,h3,h4,h5,h6,h7,h8,h9,h10,h11,h12,h13,h14,h15,h16,h17]
  exact Fr.refl _ _
theorem comma_lt {ts r:List Tk} (h:commaP ts= .ok (true,r)) (hn:ts≠[]):r.length < ts.length:=by
 unfold commaP at h
 split at h
 ·cases h
  have:=List.length_pos_iff.2 hn
  simp; omega
 ·unfold bd at h
  split at h
  ·cases h
  ·simp [ret] at h
theorem lo_0:loK 0=none:=rfl
theorem lo_s (j:Nat):∃ x,loK (j + 1)=some x:=⟨_,rfl⟩
set_option maxHeartbeats 2000000 in
theorem primary_ok {k:Nat} (hex:∀ j,k=j + 1→POk j 28 [] (lev j).1 NdR):POk k 158 [] (primP (loK k)) NdR:=by
 refine ⟨fun {X H ts} hs=>?_⟩
 refine pcalls_of_vc (args:=[_]) Tryz.func158 c158ok (Nat.le_of_ble_eq_true rfl) ?_
 have L:=hs.walk
 simp (implicitDefEqProofs:=false) only [go_sem,c158]
 refine L.newP fun b1 H1 L=>?_
 simp (implicitDefEqProofs:=false) only [go_sem]
 refine look_go L fun H2 L=>?_
 simp (implicitDefEqProofs:=false) only [go_sem,tkC]
 refine L.newP fun b2 H3 L=>?_
 simp (implicitDefEqProofs:=false) only [go_sem]
 refine L.stoAll 0 rfl rfl (one4' (hd ts)) fun H4 L=>?_
 simp only [List.set_cons_zero,List.set_cons_succ,List.set_nil,List.eraseIdx_cons_zero,List.eraseIdx_cons_succ] at L
 have c:=L.cell 0 rfl
 simp (implicitDefEqProofs:=false) only [go_sem,c]
 refine L.newP fun b3 H5 L=>?_
 simp (implicitDefEqProofs:=false) only [go_sem]
 refine L.stoAll 0 rfl rfl (one_agg (t:=[]) rfl) fun H6 L=>?_
 simp only [List.set_cons_zero,List.set_cons_succ,List.set_nil,List.eraseIdx_cons_zero,List.eraseIdx_cons_succ] at L
 have c:=L.cell 1 rfl
 obtain ⟨hp,_⟩:primP (loK k) ts=primP (loK k) ts∧True:=⟨rfl,trivial⟩
 conv at hp=>rhs; unfold primP
 by_cases k3:(hd ts).kind=3
 ·rw [if_pos (.inl k3)] at hp
  simp (implicitDefEqProofs:=false) only [go_sem,c,k3]
  refine integer_ok.goL hs L hp fun kk tt nn aa ks kv r H5 L hp=>?_
  simp (implicitDefEqProofs:=false) only [go_sem]
  refine L.stoAll 2 rfl rfl (one_agg (L.one (ks:=ks) (by simp))) fun HZ L=>?_
  simp only [List.set_cons_zero,List.set_cons_succ,List.set_nil,List.eraseIdx_cons_zero,List.eraseIdx_cons_succ] at L
  have c:=L.cell 2 rfl
  simp (implicitDefEqProofs:=false) only [go_sem,c]
  exact L.fin hp (.inl (by simp))
 simp (implicitDefEqProofs:=false) only [go_sem,c,k3]
 refine is_go L [45] fun H7 L=>?_
 cases e45:isB [45] ts with
 | true=>
   rw [if_pos (.inr e45)] at hp
   simp (implicitDefEqProofs:=false) only [go_sem]
   refine integer_ok.goL hs L hp fun kk tt nn aa ks kv r H5 L hp=>?_
   simp (implicitDefEqProofs:=false) only [go_sem]
   refine L.stoAll 2 rfl rfl (one_agg (L.one (ks:=ks) (by simp))) fun HZ L=>?_
   simp only [List.set_cons_zero,List.set_cons_succ,List.set_nil,List.eraseIdx_cons_zero,List.eraseIdx_cons_succ] at L
   have c:=L.cell 2 rfl
   simp (implicitDefEqProofs:=false) only [go_sem,c]
   exact L.fin hp (.inl (by simp))
 | false=>
 rw [if_neg (by rw [e45]; simp [k3])] at hp
 have c:=L.cell 1 rfl
 by_cases k4:(hd ts).kind=4
 ·rw [if_pos k4] at hp
  simp (implicitDefEqProofs:=false) only [go_sem,c,k4]
  refine quote_ok.goL hs L hp fun kk tt nn aa ks kv r H5 L hp=>?_
  simp (implicitDefEqProofs:=false) only [go_sem]
  refine L.stoAll 2 rfl rfl (one_agg (L.one (ks:=ks) (by simp))) fun HZ L=>?_
  simp only [List.set_cons_zero,List.set_cons_succ,List.set_nil,List.eraseIdx_cons_zero,List.eraseIdx_cons_succ] at L
  have c:=L.cell 2 rfl
  simp (implicitDefEqProofs:=false) only [go_sem,c]
  exact L.fin hp (.inl (by simp))
 rw [if_neg k4] at hp
 by_cases k1:(hd ts).kind=1
 ·rw [if_pos k1] at hp
  simp (implicitDefEqProofs:=false) only [go_sem,c,k4,k1]
  refine (named_ok 48).goL hs L hp fun kk tt nn aa ks kv r H5 L hp=>?_
  simp (implicitDefEqProofs:=false) only [go_sem]
  refine L.stoAll 2 rfl rfl (one_agg (L.one (ks:=ks) (by simp))) fun HZ L=>?_
  simp only [List.set_cons_zero,List.set_cons_succ,List.set_nil,List.eraseIdx_cons_zero,List.eraseIdx_cons_succ] at L
  have c:=L.cell 2 rfl
  simp (implicitDefEqProofs:=false) only [go_sem,c]
  exact L.fin hp (.inl (by simp))
 rw [if_neg k1] at hp
 simp (implicitDefEqProofs:=false) only [go_sem,c,k4,k1]
 refine accept_go hs L [116,114,117,101] (fun e H7 L=>?_) fun e H7 L=>?_
 ·rw [if_pos e] at hp
  simp (implicitDefEqProofs:=false) only [go_sem]
  refine L.stoOne 0 rfl (by simp) rfl fun H8 L=>?_
  simp only [List.set_cons_zero,List.set_cons_succ,List.set_nil,List.eraseIdx_cons_zero,List.eraseIdx_cons_succ] at L
  simp (implicitDefEqProofs:=false) only [go_sem]
  have c:=L.cell 0 rfl
  simp (implicitDefEqProofs:=false) only [go_sem,c]
  refine L.stoAll 2 rfl rfl (one_agg (t:=[]) rfl) fun HZ L=>?_
  simp only [List.set_cons_zero,List.set_cons_succ,List.set_nil,List.eraseIdx_cons_zero,List.eraseIdx_cons_succ] at L
  have c:=L.cell 2 rfl
  simp (implicitDefEqProofs:=false) only [go_sem,c]
  exact L.fin hp (.inr ⟨rfl,rfl⟩)
 rw [if_neg (by rw [e]; decide)] at hp
 simp (implicitDefEqProofs:=false) only [go_sem]
 refine accept_go hs L [102,97,108,115,101] (fun e H7 L=>?_) fun e H7 L=>?_
 ·rw [if_pos e] at hp
  simp (implicitDefEqProofs:=false) only [go_sem]
  refine L.stoOne 0 rfl (by simp) rfl fun H8 L=>?_
  simp only [List.set_cons_zero,List.set_cons_succ,List.set_nil,List.eraseIdx_cons_zero,List.eraseIdx_cons_succ] at L
  simp (implicitDefEqProofs:=false) only [go_sem]
  have c:=L.cell 0 rfl
  simp (implicitDefEqProofs:=false) only [go_sem,c]
  refine L.stoAll 2 rfl rfl (one_agg (t:=[]) rfl) fun HZ L=>?_
  simp only [List.set_cons_zero,List.set_cons_succ,List.set_nil,List.eraseIdx_cons_zero,List.eraseIdx_cons_succ] at L
  have c:=L.cell 2 rfl
  simp (implicitDefEqProofs:=false) only [go_sem,c]
  exact L.fin hp (.inr ⟨rfl,rfl⟩)
 rw [if_neg (by rw [e]; decide)] at hp
 simp (implicitDefEqProofs:=false) only [go_sem]
 refine accept_go hs L [115] (fun e H7 L=>?_) fun e H7 L=>?_
 ·rw [if_pos e] at hp
  simp (implicitDefEqProofs:=false) only [go_sem]
  refine L.stoOne 0 rfl (by simp) rfl fun H8 L=>?_
  simp only [List.set_cons_zero,List.set_cons_succ,List.set_nil,List.eraseIdx_cons_zero,List.eraseIdx_cons_succ] at L
  simp (implicitDefEqProofs:=false) only [go_sem]
  have c:=L.cell 0 rfl
  simp (implicitDefEqProofs:=false) only [go_sem,c]
  refine L.stoAll 2 rfl rfl (one_agg (t:=[]) rfl) fun HZ L=>?_
  simp only [List.set_cons_zero,List.set_cons_succ,List.set_nil,List.eraseIdx_cons_zero,List.eraseIdx_cons_succ] at L
  have c:=L.cell 2 rfl
  simp (implicitDefEqProofs:=false) only [go_sem,c]
  exact L.fin hp (.inr ⟨rfl,rfl⟩)
 rw [if_neg (by rw [e]; decide)] at hp
 simp (implicitDefEqProofs:=false) only [go_sem]
 refine accept_go hs L [98,111,116,116,111,109] (fun e H7 L=>?_) fun e H7 L=>?_
 ·rw [if_pos e] at hp
  simp (implicitDefEqProofs:=false) only [go_sem]
  refine L.stoOne 0 rfl (by simp) rfl fun H8 L=>?_
  simp only [List.set_cons_zero,List.set_cons_succ,List.set_nil,List.eraseIdx_cons_zero,List.eraseIdx_cons_succ] at L
  simp (implicitDefEqProofs:=false) only [go_sem]
  have c:=L.cell 0 rfl
  simp (implicitDefEqProofs:=false) only [go_sem,c]
  refine L.stoAll 2 rfl rfl (one_agg (t:=[]) rfl) fun HZ L=>?_
  simp only [List.set_cons_zero,List.set_cons_succ,List.set_nil,List.eraseIdx_cons_zero,List.eraseIdx_cons_succ] at L
  have c:=L.cell 2 rfl
  simp (implicitDefEqProofs:=false) only [go_sem,c]
  exact L.fin hp (.inr ⟨rfl,rfl⟩)
 rw [if_neg (by rw [e]; decide)] at hp
 simp (implicitDefEqProofs:=false) only [go_sem]
 refine is_go L [40] fun H7 L=>?_
 cases e40:isB [40] ts with
 | true=>
   rw [if_pos e40] at hp
   simp (implicitDefEqProofs:=false) only [go_sem]
   refine enter_go (lo:=loK) hs L lo_0 lo_s hp fun j x H8 hj hx L _ hp=>?_
   cases hx
   simp (implicitDefEqProofs:=false) only [go_sem]
   refine (hex j hj).goN hs L hp fun kk tt nn aa ks kv r H9 L hp _=>?_
   simp (implicitDefEqProofs:=false) only [go_sem]
   refine L.stoAll 0 rfl rfl (one_agg (L.one (ks:=ks) (by simp))) fun H10 L=>?_
   simp only [List.set_cons_zero,List.set_cons_succ,List.set_nil,List.eraseIdx_cons_zero,List.eraseIdx_cons_succ] at L
   simp (implicitDefEqProofs:=false) only [go_sem]
   refine (expect_ok [41]).go hs L hp fun _ r v H11 L hp _ _=>?_
   simp (implicitDefEqProofs:=false) only [go_sem]
   refine leave_go hs L hj hs.k64 fun _ H12 L=>?_
   have c:=L.cell 0 rfl
   simp (implicitDefEqProofs:=false) only [go_sem,c]
   refine L.stoAll 2 rfl rfl (one_agg (L.one (ks:=ks) (by simp))) fun HZ L=>?_
   simp only [List.set_cons_zero,List.set_cons_succ,List.set_nil,List.eraseIdx_cons_zero,List.eraseIdx_cons_succ] at L
   have c:=L.cell 2 rfl
   simp (implicitDefEqProofs:=false) only [go_sem,c]
   exact L.fin hp (.inl (by simp))
 | false=>
 rw [if_neg (by rw [e40]; decide)] at hp
 have c:=L.cell 1 rfl
 by_cases k2:(hd ts).kind=2
 ·simp (implicitDefEqProofs:=false) only [go_sem,c,k2]
  refine (functions_ok (hd ts).text _).mono ?_
  rintro v H8 ⟨rfl,hf8⟩
  have L:=L.ext hf8
  by_cases hfn:(hd ts).text ∈ fnList
  ·rw [if_pos ⟨k2,hfn⟩] at hp
   obtain ⟨i,hb,hw,hnext⟩:=L.ps.step (by omega)
   have hc:=hb.cell
   have c:=L.cell 1 rfl
   unfold ptr
   simp (implicitDefEqProofs:=false) only [go_sem,hfn,hc,hw]
   refine Sto_one hb (by simp) rfl fun H9 hn9 hf9 _=>?_
   have L:=L.pto hs hf9 (hnext H9 hn9 hf9)
   have c:=L.cell 1 rfl
   simp (implicitDefEqProofs:=false) only [go_sem,c]
   refine L.stoOne 0 rfl (by simp) rfl fun H10 L=>?_
   simp only [List.set_cons_zero,List.set_cons_succ,List.set_nil,List.eraseIdx_cons_zero,List.eraseIdx_cons_succ] at L
   have c:=L.cell 1 rfl
   simp (implicitDefEqProofs:=false) only [go_sem,c,sv]
   refine L.stoOne 0 rfl (by simp) rfl fun H11 L=>?_
   simp only [List.set_cons_zero,List.set_cons_succ,List.set_nil,List.eraseIdx_cons_zero,List.eraseIdx_cons_succ] at L
   have L:PLv X H ts.tail k H11 [.blk b3 24 [.int .i64 51,sv (hd ts).text,.int .i64 0,.int .i64 (hd ts).at_,.slice none 0 0],.blk b2 58 (tkC (hd ts)),.blk b1 24 [.int .i64 0,sv [],.int .i64 0,.int .i64 0,.slice none 0 0]] []:=L
   simp (implicitDefEqProofs:=false) only [go_sem]
   refine enter_go (lo:=loK) hs L lo_0 lo_s hp fun j x H12 hj hx L _ hp=>?_
   cases hx
   have hcap:=hs.cap
   have hlen:ts.tail.tail.length≤1048576:=by
    obtain ⟨i',_,e',_⟩:=L.ps.ex
    rw [e',List.length_drop]; omega
   have L:=L.row0 24 5
   have hdn:Dn (argP (lev j).1 (hd ts).text):=argP_dn (lev_dn j).1 _
   obtain ⟨cur0,hcur0⟩:∃ cur,cur=ts.tail.tail:=⟨_,rfl⟩
   rw [← hcur0] at L hp hlen
   simp (implicitDefEqProofs:=false) only [go_sem]
   refine accept_u hs L [41] fun H13 L=>?_
   simp (implicitDefEqProofs:=false) only [go_sem]
   refine vc_loop (fun (s:Bool × List Tk × List Nd × Value) H'=>∃ g f,PLv X H s.2.1 j H' [.row 24 5 s.2.2.2 (s.2.2.1.map Nd.dat) g,.blk b3 24 [.int .i64 51,sv (hd ts).text,.int .i64 0,.int .i64 (hd ts).at_,s.2.2.2],.blk b2 58 (tkC (hd ts)),.blk b1 24 [.int .i64 0,sv [],.int .i64 0,.int .i64 0,.slice none 0 0]] []∧
    (s.1=true→primP (loK k) ts=bd (listF (argP (lev j).1 (hd ts).text) f s.2.2.1) (fun l=>ret (.mk 51 (hd ts).text 0 (hd ts).at_ l)) s.2.1∧s.2.1.length≤f∧s.2.2.1.length + s.2.1.length≤1048576)∧
    (s.1=false→primP (loK k) ts=ret (Nd.mk 51 (hd ts).text 0 (hd ts).at_ s.2.2.1) s.2.1))
    (fun s=>[(0,ptr X.b),(2,.pointer (some ⟨b1,0,none⟩)),(3,.pointer (some ⟨b2,0,none⟩)),(4,.pointer (some ⟨b3,0,none⟩)),(5,.bool s.1)]) (fun s=>if s.1 then s.2.1.length + 1 else 0) (!(isB [41] cur0),(if isB [41] cur0 then cur0.tail else cur0),[],.slice none 0 0) ?_ ?_ ?_
   ·refine ⟨none,cur0.length,L,fun h=>?_,fun h=>?_⟩
    ·have e:isB [41] cur0=false:=by simpa using h
     simp only [e,Bool.false_eq_true,if_false]
     rw [hp]
     refine ⟨?_,Nat.le_refl _,by simpa using hlen⟩
     unfold bd listP; simp only [e,Bool.false_eq_true,if_false]
    ·have e:isB [41] cur0=true:=by simpa using h
     simp only [e,if_true]
     rw [hp]
     unfold bd listP; simp only [e,if_true]
   ·simp (implicitDefEqProofs:=false) only [go_sem,ptr]
   ·rintro ⟨more,cur,ns,v⟩ H14 ⟨g,f,L,hT,hF⟩
    simp only at L hT hF ⊢
    cases more with
    | false=>
      have hp:=hF rfl
      simp (implicitDefEqProofs:=false) only [go_sem]
      refine leave_go hs L hj hs.k64 fun _ H15 L=>?_
      have L:=L.rowN 0 ns rfl
      simp only [List.set_cons_zero,List.set_cons_succ,List.set_nil,List.eraseIdx_cons_zero,List.eraseIdx_cons_succ] at L
      have c:=L.cell 0 rfl
      simp (implicitDefEqProofs:=false) only [go_sem,c]
      refine L.stoAll 2 rfl rfl (one_agg (L.one (ks:=ns) (by simp))) fun HZ L=>?_
      simp only [List.set_cons_zero,List.set_cons_succ,List.set_nil,List.eraseIdx_cons_zero,List.eraseIdx_cons_succ] at L
      have c:=L.cell 2 rfl
      simp (implicitDefEqProofs:=false) only [go_sem,c]
      exact L.fin hp (.inl (by simp))
    | true=>
      obtain ⟨hp,hf,hle⟩:=hT rfl
      have hcur:=List.length_pos_iff.2 L.ps.nil
      obtain ⟨f,rfl⟩:∃ f',f=f' + 1:=⟨f - 1,by omega⟩
      have hp:primP (loK k) ts=bd (argP (lev j).1 (hd ts).text) (fun a=>bd (bd commaP fun m=>if m then listF (argP (lev j).1 (hd ts).text) f (ns ++ [a]) else ret (ns ++ [a])) (fun l=>ret (.mk 51 (hd ts).text 0 (hd ts).at_ l))) cur:=by
       rw [hp]; simp only [listF,bd_bd]
      have c:=L.cell 1 rfl
      have c2:=L.cell 2 rfl
      simp (implicitDefEqProofs:=false) only [go_sem,c,c2,tkC]
      refine (argument_ok (hex j hj) _).goN hs L hp fun kk tt nn aa ks kv r1 H15 L hp he=>?_
      have hle1:=hdn.of he
      have hne1:=L.ps.nil
      simp only [bd_bd] at hp
      have c:=L.cell 1 rfl
      simp (implicitDefEqProofs:=false) only [go_sem,c]
      refine L.newS fun bA HA L=>?_
      have c:=L.cell 2 rfl
      simp (implicitDefEqProofs:=false) only [go_sem,c]
      refine L.appN (ns:=ns) (ks:=ks) 0 rfl (by simp) (by omega) fun a c g' HB L=>?_
      simp only [List.set_cons_zero,List.set_cons_succ,List.set_nil,List.eraseIdx_cons_zero,List.eraseIdx_cons_succ] at L
      simp (implicitDefEqProofs:=false) only [go_sem]
      refine L.stoOne 1 rfl (by simp) rfl fun HC L=>?_
      simp only [List.set_cons_zero,List.set_cons_succ,List.set_nil,List.eraseIdx_cons_zero,List.eraseIdx_cons_succ] at L
      simp (implicitDefEqProofs:=false) only [go_sem]
      refine comma_ok.go hs L hp fun m r2 v HD L hp hcm hv=>?_
      cases hv
      have L:=L.drop (ds':=[]) (List.Sublist.refl _) (by simp)
      simp (implicitDefEqProofs:=false) only [go_sem]
      refine loopK_intro (m,r2,ns ++ [.mk kk tt nn aa ks],.slice a (ns ++ [Nd.mk kk tt nn aa ks]).length c) ?_ ?_ ⟨g',f,L,fun h=>?_,fun h=>?_⟩
      ·have:=commaP_dn.of hcm
       cases m
       ·show 0 < cur.length + 1
        omega
       ·have:=comma_lt hcm hne1
        show r2.length + 1 < cur.length + 1
        omega
      ·simp (implicitDefEqProofs:=false) only [go_sem]
      ·simp only at h; subst h
       have:=comma_lt hcm hne1
       refine ⟨hp,show r2.length≤f by omega,?_⟩
       simp only [List.length_append,List.length_cons,List.length_nil]; omega
      ·simp only at h; subst h
       exact hp
  ·rw [if_neg (fun h=>hfn h.2)] at hp
   simp (implicitDefEqProofs:=false) only [go_sem,hfn]
   exact fail_go L hp
 ·rw [if_neg (fun h=>k2 h.1)] at hp
  simp (implicitDefEqProofs:=false) only [go_sem,c,k2]
  exact fail_go L hp
end Go.Proofs.YtmhdkbmnpekpoaaGreatDoor
end
section
set_option linter.unusedSimpArgs false
set_option linter.unusedVariables false
set_option maxRecDepth 8000
namespace Go.Proofs.YtmhdkbmnpekpoaaGreatDoor
open Gx Go
theorem lev_ok:∀ k:Nat,POk k 28 [] (exprP (loK k)) NdR∧POk k 115 [] (notP (loK k)) NdR:=by
 have key:∀ k:Nat,(∀ j,k=j + 1→POk j 28 [] (lev j).1 NdR∧POk j 115 [] (lev j).2 NdR)→POk k 28 [] (exprP (loK k)) NdR∧POk k 115 [] (notP (loK k)) NdR:=fun k h=>by
  have hl:=loK_dn k
  have h1:=primary_ok fun j hj=>(h j hj).1
  have h2:=postfix_ok (fun j hj=>(h j hj).1) h1
  have h3:=sum_ok hl h2
  have h4:=joined_ok hl h3
  have h5:=comparison_ok hl h4
  have h6:=not_ok (fun j hj=>(h j hj).2) h5
  have h7:=and_ok hl h6
  have h8:=or_ok hl h7
  exact ⟨expression_ok (fun j hj=>(h j hj).1) h8,h6⟩
 intro k
 induction k with
 | zero=>exact key 0 fun j hj=>by omega
 | succ k ih=>
   refine key (k + 1) fun j hj=>?_
   obtain rfl:j=k:=by omega
   rw [lev_eq]; exact ih
def quotesF:Nat→List Nd→PP (List Nd)
 | 0,l=>ret l
 | f + 1,l=>fun ts=>if isB [44] ts then bd quoteP (fun q=>quotesF f (l ++ [q])) ts.tail else .ok (l,ts)
def quotesP:PP (List Nd):=bd quoteP fun q r=>quotesF r.length [q] r
def allowedP:PP (List Nd):=fun ts=>if isB [40] ts then bd quotesP (fun l=>bd (expP [41]) fun _=>ret l) ts.tail else .ok ([],ts)
def twoP (p:PP Nd):PP (List Nd):=bd (expP [40]) fun _=>bd p fun a=>bd (expP [44]) fun _=>bd p fun b=>bd (expP [41]) fun _=>ret [a,b]
def optQ:PP (List Nd):=fun ts=>if (hd ts).kind=4 then quotesP ts else .ok ([],ts)
def ruleP:PP Nd:=fun ts=>bd optQ (fun q=>bd (expP [61,62]) fun _=>bd quoteP fun c=>ret (.mk 20 [] 0 (hd ts).at_ (q ++ [c]))) ts
def rulesF:Nat→List Nd→PP (List Nd)
 | 0,l=>ret l
 | f + 1,l=>fun ts=>if isB [59] ts then bd ruleP (fun r=>rulesF f (l ++ [r])) ts.tail else .ok (l,ts)
def closedP:PP (List Nd):=bd (expP [40]) fun _=>bd optQ fun l ts=>bd (rulesF ts.length l) (fun l=>bd (expP [41]) fun _=>ret l) ts
def memP (x:PP Nd):PP Nd:=bd (takeP 1) fun t=>bd (expP [58]) fun _=>bd x fun y=>ret (.mk 22 t.text 0 t.at_ [y])
def memF (x:PP Nd):Nat→List Nd→PP (List Nd)
 | 0,l=>ret l
 | f + 1,l=>bd (memP x) fun m ts=>if isB [44] ts then memF x f (l ++ [m]) ts.tail else .ok (l ++ [m],ts)
def memsP (x:PP Nd):PP (List Nd):=fun ts=>bd (memF x (ts.length + 1) []) (fun l=>bd (expP [125]) fun _=>ret l) ts
abbrev LLo:=Option (PP Nd)
def latP (lo:LLo):PP Nd:=fun ts=>
 if (hd ts).kind=1 then namedP 21 ts
 else if isB [102,108,97,103] ts then .ok (.mk 10 [] 0 (hd ts).at_ [],ts.tail)
 else if isB [114,101,103,105,115,116,101,114] ts then .ok (.mk 18 [] 0 (hd ts).at_ [],ts.tail)
 else if isB [115,101,116] ts then bd allowedP (fun l=>ret (.mk 13 [] 0 (hd ts).at_ l)) ts.tail
 else if isB [102,108,97,116] ts then bd allowedP (fun l=>ret (.mk 17 [] 0 (hd ts).at_ l)) ts.tail
 else if isB [109,97,112] ts then entP lo [109,97,112] (fun x=>bd allowedP fun l=>bd x fun y=>ret (.mk 14 [] 0 (hd ts).at_ (l ++ [y]))) ts
 else if isB [109,97,120] ts then bd (twoP intP) (fun l=>ret (.mk 11 [] 0 (hd ts).at_ l)) ts.tail
 else if isB [109,105,110] ts then bd (twoP intP) (fun l=>ret (.mk 12 [] 0 (hd ts).at_ l)) ts.tail
 else if isB [108,101,120] ts then entP lo [108,101,120] (fun x=>bd (twoP x) fun l=>ret (.mk 16 [] 0 (hd ts).at_ l)) ts
 else if isB [123] ts then entP lo [123] (fun x=>bd (memsP x) fun l=>ret (.mk 15 [] 0 (hd ts).at_ l)) ts
 else if isB [99,108,111,115,101,100] ts then bd closedP (fun l=>ret (.mk 19 [] 0 (hd ts).at_ l)) ts.tail
 else .error (2,(hd ts).at_)
def levL:Nat→PP Nd
 | 0=>latP none
 | k + 1=>latP (some (levL k))
def loL:Nat→LLo
 | 0=>none
 | k + 1=>some (levL k)
theorem levL_eq (k:Nat):levL k=latP (loL k):=by cases k <;> rfl
def sortP:PP Int:=fun ts=>
 if isB [105,110,116] ts then .ok (1,ts.tail)
 else if isB [98,111,111,108] ts then .ok (2,ts.tail)
 else if isB [110,97,109,101] ts then .ok (3,ts.tail)
 else if isB [110,97,109,101,115] ts then .ok (4,ts.tail)
 else .error (2,(hd ts).at_)
def paramP:PP Nd:=bd (takeP 1) fun t=>bd (expP [58]) fun _=>bd sortP fun s=>ret (.mk 6 t.text s t.at_ [])
def funcP (at_ kind:Int):PP Nd:=bd (takeP 1) fun t=>bd (expP [40]) fun _=>bd (listP paramP) fun ps=>bd (expP [111,110]) fun _=>bd (namedP 48) fun o=>
 bd (if kind=5 then bd (expP [58]) fun _=>sortP else ret 0) fun n=>bd (expP [61]) fun _=>bd (exprP (loK 64)) fun e=>bd (expP [59]) fun _=>ret (.mk kind t.text n at_ (ps ++ [o] ++ [e]))
def latD (at_ kind:Int) (s:Bs):PP Nd:=bd (takeP 1) fun t=>bd (expP s) fun _=>bd (levL 64) fun x=>bd (expP [59]) fun _=>ret (.mk kind t.text 0 at_ [x])
def declP:PP Nd:=fun ts=>
 if isB [108,97,116,116,105,99,101] ts then latD (hd ts).at_ 2 [61] ts.tail
 else if isB [111,98,106,101,99,116] ts then latD (hd ts).at_ 3 [58] ts.tail
 else if isB [117,112,100,97,116,101] ts then funcP (hd ts).at_ 4 ts.tail
 else if isB [113,117,101,114,121] ts then funcP (hd ts).at_ 5 ts.tail
 else .error (2,(hd ts).at_)
def progF:Nat→List Nd→PP (List Nd)
 | 0,l=>ret l
 | f + 1,l=>fun ts=>if (hd ts).kind=6 then .ok (l,ts) else bd declP (fun d=>progF f (l ++ [d])) ts
def progP:PP Nd:=fun ts=>bd (progF (ts.length + 1) []) (fun l=>ret (.mk 1 [] 0 0 l)) ts
def topP (p:PP Nd) (ts:List Tk):Except Flt Nd:=match p ts with
 | .error e=>.error e
 | .ok (n,r)=>if (hd r).kind=6 then .ok n else .error (2,(hd r).at_)
theorem quotesF_dn:∀ f l,Dn (quotesF f l)
 | 0,l=>Dn.ret l
 | f + 1,l=>by
   intro ts r b hb
   simp only [quotesF] at hb
   split at hb
   ·exact Dn.tl (quoteP_dn.bnd fun m=>quotesF_dn f _) hb
   ·cases hb; exact Nat.le_refl _
theorem quotesP_dn:Dn quotesP:=quoteP_dn.bnd' fun n ts r b hb=>(quotesF_dn _ _).of hb
theorem allowedP_dn:Dn allowedP:=by
 intro ts r b hb
 unfold allowedP at hb
 split at hb
 ·exact Dn.tl (quotesP_dn.bnd fun _=>(expP_dn _).bnd fun _=>Dn.ret _) hb
 ·cases hb; exact Nat.le_refl _
theorem twoP_dn {p:PP Nd} (h:Dn p):Dn (twoP p):=(expP_dn _).bnd fun _=>h.bnd fun _=>(expP_dn _).bnd fun _=>h.bnd fun _=>(expP_dn _).bnd fun _=>Dn.ret _
theorem optQ_dn:Dn optQ:=by
 intro ts r b hb
 unfold optQ at hb
 split at hb
 ·exact quotesP_dn.of hb
 ·cases hb; exact Nat.le_refl _
theorem ruleP_dn:Dn ruleP:=by
 intro ts r b hb
 unfold ruleP at hb
 exact Dn.of (optQ_dn.bnd fun _=>(expP_dn _).bnd fun _=>quoteP_dn.bnd fun _=>Dn.ret _) hb
theorem rulesF_dn:∀ f l,Dn (rulesF f l)
 | 0,l=>Dn.ret l
 | f + 1,l=>by
   intro ts r b hb
   simp only [rulesF] at hb
   split at hb
   ·exact Dn.tl (ruleP_dn.bnd fun m=>rulesF_dn f _) hb
   ·cases hb; exact Nat.le_refl _
theorem closedP_dn:Dn closedP:=(expP_dn _).bnd fun _=>optQ_dn.bnd' fun l ts r b hb=>Dn.of ((rulesF_dn _ l).bnd fun _=>(expP_dn _).bnd fun _=>Dn.ret _) hb
theorem memP_dn {x:PP Nd} (h:Dn x):Dn (memP x):=(takeP_dn 1).bnd fun _=>(expP_dn _).bnd fun _=>h.bnd fun _=>Dn.ret _
theorem memF_dn {x:PP Nd} (h:Dn x):∀ f l,Dn (memF x f l)
 | 0,l=>Dn.ret l
 | f + 1,l=>(memP_dn h).bnd' fun m ts r b hb=>by
   split at hb
   ·exact Dn.tl (memF_dn h f _) hb
   ·cases hb; exact Nat.le_refl _
theorem memsP_dn {x:PP Nd} (h:Dn x):Dn (memsP x):=by
 intro ts r b hb
 unfold memsP at hb
 exact Dn.of ((memF_dn h _ _).bnd fun _=>(expP_dn _).bnd fun _=>Dn.ret _) hb
theorem ite_le {α:Type} {c:Prop} [Decidable c] {x y:Except Flt (α × List Tk)} {n:Nat} (hx:∀ b r,x= .ok (b,r)→r.length≤n) (hy:∀ b r,y= .ok (b,r)→r.length≤n):∀ b r,(if c then x else y)= .ok (b,r)→r.length≤n:=by
 intro b r h
 by_cases hc:c
 ·rw [if_pos hc] at h; exact hx b r h
 ·rw [if_neg hc] at h; exact hy b r h
theorem ok_le {α:Type} {n:α} {ts:List Tk}:∀ b r,(Except.ok (n,ts.tail):Except Flt (α × List Tk))= .ok (b,r)→r.length≤ts.length:=by
 intro b r h; cases h; exact tail_le _
theorem latP_dn {lo:LLo} (hl:∀ x,lo=some x→Dn x):Dn (latP lo):=by
 intro ts r b hb
 unfold latP at hb
 revert b r
 suffices h:∀ b r,latP lo ts= .ok (b,r)→r.length≤ts.length from fun r b hb=>h b r hb
 unfold latP
 refine ite_le (fun b r h=>(namedP_dn _).of h) (ite_le ok_le (ite_le ok_le (ite_le (fun b r h=>Dn.tl (allowedP_dn.bnd fun _=>Dn.ret _) h) (ite_le (fun b r h=>Dn.tl (allowedP_dn.bnd fun _=>Dn.ret _) h) (ite_le ?_ (ite_le (fun b r h=>Dn.tl ((twoP_dn intP_dn).bnd fun _=>Dn.ret _) h) (ite_le (fun b r h=>Dn.tl ((twoP_dn intP_dn).bnd fun _=>Dn.ret _) h) (ite_le ?_ (ite_le ?_ (ite_le (fun b r h=>Dn.tl (closedP_dn.bnd fun _=>Dn.ret _) h) fun b r h=>?_))))))))))
 ·intro b r h; exact Dn.of (entP_dn fun x hx=>allowedP_dn.bnd fun _=>(hl x hx).bnd fun _=>Dn.ret _) h
 ·intro b r h; exact Dn.of (entP_dn fun x hx=>(twoP_dn (hl x hx)).bnd fun _=>Dn.ret _) h
 ·intro b r h; exact Dn.of (entP_dn fun x hx=>(memsP_dn (hl x hx)).bnd fun _=>Dn.ret _) h
 ·cases h
theorem levL_dn:∀ k,Dn (levL k)
 | 0=>latP_dn fun x hx=>by cases hx
 | k + 1=>latP_dn fun x hx=>by cases hx; exact levL_dn k
theorem loL_dn (k:Nat):∀ x,loL k=some x→Dn x:=by
 intro x hx
 cases k with
 | zero=>cases hx
 | succ k=>cases hx; exact levL_dn k
theorem sortP_dn:Dn sortP:=by
 intro ts r b hb
 unfold sortP at hb
 split at hb
 ·cases hb; exact tail_le _
 split at hb
 ·cases hb; exact tail_le _
 split at hb
 ·cases hb; exact tail_le _
 split at hb
 ·cases hb; exact tail_le _
 ·cases hb
theorem paramP_dn:Dn paramP:=(takeP_dn 1).bnd fun _=>(expP_dn _).bnd fun _=>sortP_dn.bnd fun _=>Dn.ret _
theorem funcP_dn (a k:Int):Dn (funcP a k):=(takeP_dn 1).bnd fun _=>(expP_dn _).bnd fun _=>(listP_dn paramP_dn).bnd fun _=>(expP_dn _).bnd fun _=>(namedP_dn _).bnd fun _=>Dn.bnd (by
 split
 ·exact (expP_dn _).bnd fun _=>sortP_dn
 ·exact Dn.ret _) fun _=>(expP_dn _).bnd fun _=>(exprP_dn (loK_dn 64)).bnd fun _=>(expP_dn _).bnd fun _=>Dn.ret _
theorem latD_dn (a k:Int) (s:Bs):Dn (latD a k s):=(takeP_dn 1).bnd fun _=>(expP_dn _).bnd fun _=>(levL_dn 64).bnd fun _=>(expP_dn _).bnd fun _=>Dn.ret _
theorem declP_lt {ts r:List Tk} {n:Nd} (h:declP ts= .ok (n,r)) (hn:ts≠[]):r.length < ts.length:=by
 have hp:=List.length_pos_iff.2 hn
 have ht:ts.tail.length=ts.length - 1:=by simp
 unfold declP at h
 split at h
 ·have:=(latD_dn _ _ _).of h; omega
 split at h
 ·have:=(latD_dn _ _ _).of h; omega
 split at h
 ·have:=(funcP_dn _ _).of h; omega
 split at h
 ·have:=(funcP_dn _ _).of h; omega
 ·cases h
end Go.Proofs.YtmhdkbmnpekpoaaGreatDoor
end
