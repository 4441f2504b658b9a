import Derived.Test.YtdhlibkdcldioaaGreatB15
namespace Gx
open Go
def RepP (H:Heap) (B:Nat→Prop) (d:Dat) (cs:List Value):Prop:=∀ M:List Nat,(∀ x ∈ M,B x)→Rep H M d cs
def RepsP (H:Heap) (B:Nat→Prop) (l:List Dat) (css:List (List Value)):Prop:=∀ M:List Nat,(∀ x ∈ M,B x)→Reps H M l css
def StaysP (H:Heap) (B:Nat→Prop) (H':Heap) (B':Nat→Prop):Prop:=∀ b,b < H.size→¬ B b→¬ B' b∧H'[b]?=H[b]?
section
variable {H H':Heap} {B B':Nat→Prop} {M:List Nat} {d:Dat} {cs:List Value} {l:List Dat} {css:List (List Value)}
theorem StaysP.list (hs:StaysP H B H' B') {M':List Nat} (hM:∀ x ∈ M',B' x):∃ M,(∀ x ∈ M,B x)∧Stays H M H' M':=by
 classical
 refine ⟨(List.range H.size).filter (fun b=>decide (B b)),fun x hx=>by simpa using (List.mem_filter.1 hx).2,fun b hb hn=>?_⟩
 have hB:¬ B b:=fun h=>hn (List.mem_filter.2 ⟨List.mem_range.2 hb,by simpa using h⟩)
 obtain ⟨h1,h2⟩:=hs b hb hB
 exact ⟨fun hm=>h1 (hM b hm),h2⟩
theorem RepP.to (h:RepP H B d cs) (hs:StaysP H B H' B'):RepP H' B' d cs:=fun M' hM=>by
 obtain ⟨M,h1,h2⟩:=hs.list hM
 exact Rep.to h2 d cs (h M h1)
theorem RepsP.to (h:RepsP H B l css) (hs:StaysP H B H' B'):RepsP H' B' l css:=fun M' hM=>by
 obtain ⟨M,h1,h2⟩:=hs.list hM
 exact Reps.to h2 l css (h M h1)
theorem StaysP.fr (hf:Fr M H H') (hm:∀ x ∈ M,B x∨H.size≤x) (hb:∀ x,B' x→B x∨H.size≤x):StaysP H B H' B':=fun b hb' hn=>
 ⟨fun h=>by rcases hb b h with q | q; exact hn q; omega,hf.same b hb' fun h=>by rcases hm b h with q | q; exact hn q; omega⟩
theorem StaysP.ext (hf:Fr [] H H') (hb:∀ x,B' x→B x∨H.size≤x):StaysP H B H' B':=StaysP.fr hf (by simp) hb
theorem RepP.fr (h:RepP H B d cs) (hf:Fr M H H') (hm:∀ x ∈ M,B x∨H.size≤x) (hb:∀ x,B' x→B x∨H.size≤x):RepP H' B' d cs:=h.to (StaysP.fr hf hm hb)
theorem RepP.ext (h:RepP H B d cs) (hf:Fr [] H H') (hb:∀ x,B' x→B x∨H.size≤x):RepP H' B' d cs:=h.to (StaysP.ext hf hb)
theorem RepP.more (h:RepP H B d cs) (hb:∀ x,B' x→B x∨H.size≤x):RepP H B' d cs:=h.ext (Fr.refl _ _) hb
theorem RepsP.more (h:RepsP H B l css) (hb:∀ x,B' x→B x∨H.size≤x):RepsP H B' l css:=h.to (StaysP.ext (Fr.refl _ _) hb)
theorem RepP.rep (h:RepP H B d cs):Rep H [] d cs:=h [] (by simp)
theorem RepP.v (x:Value):RepP H B (.v x) [x]:=fun M _=>by simp [Rep]
theorem RepsP.nil:RepsP H B [] []:=fun M _=>by simp [Reps]
theorem RepsP.cons {x:List Value} (h:RepP H B d x) (hs:RepsP H B l css):RepsP H B (d :: l) (x :: css):=fun M hM=>by
 simp only [Reps]; exact ⟨x,css,rfl,h M hM,hs M hM⟩
theorem RepsP.append {l':List Dat} {css':List (List Value)} (h:RepsP H B l css) (h':RepsP H B l' css'):RepsP H B (l ++ l') (css ++ css'):=fun M hM=>Reps.append (h M hM) (h' M hM)
theorem RepP.nil (m:Nat):RepP H B (.list m []) [.slice none 0 0]:=fun M _=>Rep.nil m
def LsO (H:Heap) (B:Nat→Prop) (e m:Nat) (v:Value) (ds:List Dat) (g:Option Nat):Prop:=
 ∃ css,Own H e m v ds.length css.flatten g∧(∀ x ∈ css,x.length=m)∧RepsP H (fun b=>B b∨g=some b) ds css
variable {e m:Nat} {v:Value} {ds:List Dat} {g:Option Nat}
theorem LsO.nil:LsO H B e m (.slice none 0 0) [] none:=⟨[],Own.nil _ _ _,by simp,RepsP.nil⟩
theorem LsO.fr (h:LsO H B e m v ds g) (hf:Fr M H H') (hm:∀ x ∈ M,B x∨H.size≤x) (hg:∀ b,g=some b→b ∉ M) (hb:∀ x,B' x→B x∨H.size≤x):LsO H' B' e m v ds g:=by
 obtain ⟨css,h1,h2,h3⟩:=h
 refine ⟨css,h1.fr hf hg,h2,h3.to (StaysP.fr hf (fun x hx=>(hm x hx).imp .inl id) fun x hx=>?_)⟩
 rcases hx with hx | hx
 ·exact (hb x hx).imp .inl id
 ·exact .inl (.inr hx)
theorem LsO.ext (h:LsO H B e m v ds g) (hf:Fr [] H H') (hb:∀ x,B' x→B x∨H.size≤x):LsO H' B' e m v ds g:=h.fr hf (by simp) (by simp) hb
theorem LsO.lt (h:LsO H B e m v ds g) {b:Nat} (hg:g=some b):b < H.size:=by
 obtain ⟨css,h1,_⟩:=h
 exact h1.lt hg
theorem LsO.slice (h:LsO H B e m v ds g):∃ a c,v= .slice a ds.length c∧ds.length≤c∧c≤maxLen:=by
 obtain ⟨css,h1,_⟩:=h
 rcases h1.2 with ⟨_,rfl,h0⟩ | ⟨b,cap,cur,_,rfl,_,h4,h5,_⟩
 ·rw [h0]; exact ⟨none,0,rfl,Nat.le_refl _,Nat.zero_le _⟩
 ·exact ⟨_,_,rfl,h4,h5⟩
theorem LsO.one (h:LsO H B e m v ds g):v.oneCell'=true:=by
 obtain ⟨a,c,rfl,_⟩:=h.slice; rfl
theorem LsO.rep (h:LsO H B e m v ds g) (hg:∀ b,g=some b→¬ B b):RepP H B (.list m ds) [v]:=fun M hM=>by
 obtain ⟨css,h1,h2,h3⟩:=h
 have hr:Reps H M ds css:=h3 M fun x hx=>.inl (hM x hx)
 have h1':=h1
 rcases h1.2 with ⟨_,rfl,h0⟩ | ⟨b,cap,cur,hb,rfl,hc,h4,h5,h6,h7⟩
 ·have:ds=[]:=List.eq_nil_of_length_eq_zero h0
  subst this
  exact Rep.nil m
 ·simp only [Rep]
  refine ⟨_,cap,css,rfl,h4,h5,hr,h2,?_⟩
  rcases Own.csR h1' with h8 | ⟨b',o,h8,h9⟩
  ·exact .inl h8
  ·simp at h8; obtain ⟨rfl,rfl⟩:=h8
   exact .inr ⟨b,0,rfl,fun hm=>hg b hb (hM b hm),h9⟩
theorem App_ls {P:Program} {t tx bytes tn nb n1 c1:Nat} {z:Value} {R:Value→Heap→Prop} (hE:ElemOk P t e m bytes z) (h:LsO H B e m v ds g) {ex:Nat} (hk:P.underlying tx=some (.slice ex)) (hn:Blk H nb tn cs) (hl:cs.length=m)
 (hc:∀ u ∈ cs,u.oneCell'=true) (hd:RepP H (fun b=>B b∨g=some b) d cs) (h1:n1=1) (h63:ds.length + 1≤maxLen) (hb:(ds.length + 1) * bytes≤140737488355328)
 (hR:∀ a c H' g',LsO H' B e m (.slice a (ds.length + 1) c) (ds ++ [d]) g'→Fr g.toList H H'→(∀ b,g'=some b→g=some b∨H.size≤b)→R (.slice a (ds.length + 1) c) H'):App P t tx t H v (.slice (some ⟨nb,0,none⟩) n1 c1) R:=by
 subst h1
 obtain ⟨css,ho,h2,h3⟩:=h
 refine App_own hE ho (m:=1) (SrcH.blk hk hn (by omega) hc) h63 hb fun a c H' g' ho' hf hg'=>?_
 refine hR a c H' g' ⟨css ++ [cs],?_,?_,?_⟩ hf hg'
 ·rw [List.flatten_append]
  simpa using ho'
 ·intro x hx
  rcases List.mem_append.1 hx with hx | hx
  ·exact h2 x hx
  ·simp at hx; subst hx; exact hl
 ·have hst:StaysP H (fun b=>B b∨g=some b) H' (fun b=>B b∨g'=some b):=StaysP.fr hf (fun x hx=>.inl (.inr (by simpa using hx))) fun x hx=>by
   rcases hx with hx | hx
   ·exact .inl (.inl hx)
   ·exact (hg' x hx).imp .inr id
  exact (h3.to hst).append ((RepsP.nil.cons hd).to hst)
end
end Gx
