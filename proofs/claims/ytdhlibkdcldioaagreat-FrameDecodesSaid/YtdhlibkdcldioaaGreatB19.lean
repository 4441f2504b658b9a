import Derived.Test.YtdhlibkdcldioaaGreatB17
set_option linter.unusedSimpArgs false
set_option linter.unusedVariables false
namespace Gx
open Go
inductive Ent where
 | blk (b t:Nat) (cs:List Value)
 | row (e m:Nat) (v:Value) (ds:List Dat) (g:Option Nat)
def Ent.bs:Ent→List Nat
 | .blk b _ _=>[b]
 | .row _ _ _ _ g=>g.toList
def Lk (N:Nat) (O:List Nat) (l:List Ent):Nat→Prop:=fun x=>x < N∨x ∈ O∨x ∈ l.flatMap Ent.bs
def Ent.ok (H:Heap) (B:Nat→Prop):Ent→Prop
 | .blk b t cs=>Blk H b t cs
 | .row e m v ds g=>LsO H B e m v ds g
structure Lv (O0:List Nat) (H0:Heap) (O:List Nat) (S:Heap→Prop) (H:Heap) (l:List Ent) (ds:List (Dat × List Value)):Prop where
 fr:Fr O0 H0 H
 own:∀ x ∈ O,x < H.size∧(x ∈ O0∨H0.size≤x)
 nd:(l.flatMap Ent.bs).Nodup
 lo:∀ x ∈ l.flatMap Ent.bs,H0.size≤x∧x ∉ O∧x < H.size
 ok:∀ p ∈ l,p.ok H (Lk H0.size O l)
 dat:∀ p ∈ ds,RepP H (Lk H0.size O l) p.1 p.2
 stb:∀ (M:List Nat) (H':Heap),Fr M H H'→(∀ x ∈ M,H0.size≤x∧x ∉ O)→S H'
section
variable {O0 O O' M:List Nat} {b t e m:Nat} {v:Value} {cs:List Value} {dl:List Dat} {g:Option Nat} {S S':Heap→Prop} {H0 H H':Heap} {l l':List Ent} {ds:List (Dat × List Value)}
theorem Lv.st (L:Lv O0 H0 O S H l ds):S H:=L.stb [] H (Fr.refl _ _) (by simp)
theorem Lv.start (hO:∀ x ∈ O,x < H.size) (hS:∀ (M:List Nat) (H':Heap),Fr M H H'→(∀ x ∈ M,H.size≤x∧x ∉ O)→S H'):Lv O H O S H [] []:=
 ⟨Fr.refl _ _,fun x hx=>⟨hO x hx,.inl hx⟩,by simp,by simp,by simp,by simp,hS⟩
theorem Ent.ok_step {e:Ent} {B B':Nat→Prop} (h:e.ok H B) (hf:Fr M H H') (hm:∀ x ∈ M,B x∨H.size≤x) (hg:∀ x ∈ e.bs,x ∉ M) (hb:∀ x,B' x→B x∨H.size≤x):e.ok H' B':=by
 cases e with
 | blk b t cs=>exact Blk.fr h hf (hg b (by simp [Ent.bs]))
 | row e m v ds g=>exact LsO.fr h hf hm (fun b hb=>hg b (by simp [Ent.bs,hb])) hb
theorem Ent.lt {e:Ent} {B:Nat→Prop} (h:e.ok H B):∀ x ∈ e.bs,x < H.size:=by
 cases e with
 | blk b t cs=>intro x hx; simp [Ent.bs] at hx; subst hx; exact Blk.lt h
 | row e m v ds g=>intro x hx; simp [Ent.bs] at hx; exact LsO.lt h hx
theorem Lv.step (L:Lv O0 H0 O S H l ds) (hf:Fr M H H') (hM:∀ x ∈ M,x ∈ O∨H.size≤x) (hO:∀ x ∈ O',x < H'.size∧(x ∈ O∨H.size≤x))
 (hS:∀ (M:List Nat) (H'':Heap),Fr M H' H''→(∀ x ∈ M,H0.size≤x∧x ∉ O')→S' H''):Lv O0 H0 O' S' H' l ds:=by
 have hsz:=L.fr.size
 have hn:∀ p ∈ l,∀ x ∈ p.bs,x ∉ M:=fun p hp x hx hm=>by
  obtain ⟨_,h2,h3⟩:=L.lo x (List.mem_flatMap.2 ⟨p,hp,hx⟩)
  rcases hM x hm with q | q
  ·exact h2 q
  ·omega
 have hm:∀ x ∈ M,Lk H0.size O l x∨H.size≤x:=fun x hx=>(hM x hx).imp (fun q=>.inr (.inl q)) id
 have hb:∀ x,Lk H0.size O' l x→Lk H0.size O l x∨H.size≤x:=by
  rintro x (q | q | q)
  ·exact .inl (.inl q)
  ·exact (hO x q).2.imp (fun q=>.inr (.inl q)) id
  ·exact .inl (.inr (.inr q))
 refine ⟨L.fr.trans' hf fun x hx=>?_,fun x hx=>⟨(hO x hx).1,?_⟩,L.nd,fun x hx=>?_,fun p hp=>Ent.ok_step (L.ok p hp) hf hm (hn p hp) hb,fun p hp=>RepP.fr (L.dat p hp) hf hm hb,hS⟩
 ·rcases hM x hx with q | q
  ·exact (L.own x q).2
  ·exact .inr (by omega)
 ·rcases (hO x hx).2 with q | q
  ·exact (L.own x q).2
  ·exact .inr (by omega)
 ·obtain ⟨h1,h2,h3⟩:=L.lo x hx
  refine ⟨h1,fun q=>?_,Nat.lt_of_lt_of_le h3 hf.size⟩
  rcases (hO x q).2 with q | q
  ·exact h2 q
  ·omega
theorem Lv.stb_trans (L:Lv O0 H0 O S H l ds) (hf:Fr M H H') (hM:∀ x ∈ M,H0.size≤x∧x ∉ O):∀ (M':List Nat) (H'':Heap),Fr M' H' H''→(∀ x ∈ M',H0.size≤x∧x ∉ O)→S H'':=fun M' H'' hf' hM'=>by
 refine L.stb (M ++ M') H'' ?_ fun x hx=>(List.mem_append.1 hx).elim (hM x) (hM' x)
 exact (hf.mono fun x hx=>.inl (by simp [hx])).trans (hf'.mono fun x hx=>.inl (by simp [hx]))
theorem Lv.ext (L:Lv O0 H0 O S H l ds) (hf:Fr [] H H'):Lv O0 H0 O S H' l ds:=
 L.step hf (by simp) (fun x hx=>⟨Nat.lt_of_lt_of_le (L.own x hx).1 hf.size,.inl hx⟩) (L.stb_trans hf (by simp))
theorem Lv.call (L:Lv O0 H0 O S H l ds) (hf:Fr O H H') (hS:∀ (M:List Nat) (H'':Heap),Fr M H' H''→(∀ x ∈ M,H0.size≤x∧x ∉ O)→S' H''):Lv O0 H0 O S' H' l ds:=
 L.step hf (fun x hx=>.inl hx) (fun x hx=>⟨Nat.lt_of_lt_of_le (L.own x hx).1 hf.size,.inl hx⟩) hS
theorem Lv.push (L:Lv O0 H0 O S H l ds) {t:Nat} {cs:List Value} (hf:Fr [] H H') (hn:Blk H' H.size t cs):Lv O0 H0 O S H' (.blk H.size t cs :: l) ds:=by
 have hsz:=L.fr.size
 have hb:∀ x,Lk H0.size O (.blk H.size t cs :: l) x→Lk H0.size O l x∨H.size≤x:=by
  rintro x (q | q | q)
  ·exact .inl (.inl q)
  ·exact .inl (.inr (.inl q))
  ·simp only [List.flatMap_cons,Ent.bs,List.cons_append,List.nil_append,List.mem_cons] at q
   rcases q with rfl | q
   ·exact .inr (Nat.le_refl _)
   ·exact .inl (.inr (.inr q))
 have hlt:=hn.lt
 refine ⟨L.fr.trans' hf (by simp),fun x hx=>⟨Nat.lt_of_lt_of_le (L.own x hx).1 hf.size,(L.own x hx).2⟩,?_,fun x hx=>?_,fun p hp=>?_,fun p hp=>RepP.fr (L.dat p hp) hf (by simp) hb,L.stb_trans hf (by simp)⟩
 ·simp only [List.flatMap_cons,Ent.bs,List.cons_append,List.nil_append,List.nodup_cons]
  exact ⟨fun q=>by have:=(L.lo _ q).2.2; omega,L.nd⟩
 ·simp only [List.flatMap_cons,Ent.bs,List.cons_append,List.nil_append,List.mem_cons] at hx
  rcases hx with rfl | hx
  ·exact ⟨hsz,fun q=>by have:=(L.own _ q).1; omega,hlt⟩
  ·obtain ⟨h1,h2,h3⟩:=L.lo x hx
   exact ⟨h1,h2,by omega⟩
 ·rcases List.mem_cons.1 hp with rfl | hp
  ·exact hn
  ·exact Ent.ok_step (L.ok p hp) hf (by simp) (by simp) hb
theorem Lv.newP (L:Lv O0 H0 O S H l ds) {t:Nat} {cs:List Value} {R:Value→Heap→Prop} (h:∀ b H',Lv O0 H0 O S H' (.blk b t cs :: l) ds→R (.pointer (some ⟨b,0,none⟩)) H'):NewP H t cs R:=
 NewP_intro fun H' hn hf _=>h _ H' (L.push hf hn)
theorem Lv.newS (L:Lv O0 H0 O S H l ds) {t n:Nat} {cs:List Value} {R:Value→Heap→Prop} (h:∀ b H',Lv O0 H0 O S H' (.blk b t cs :: l) ds→R (.slice (some ⟨b,0,none⟩) n n) H'):NewS H t n cs R:=
 NewS_intro fun H' hn hf _=>h _ H' (L.push hf hn)
theorem Lv.setE (L:Lv O0 H0 O S H l ds) {i:Nat} {e e':Ent} (hi:l[i]?=some e) (hf:Fr M H H') (hM:∀ x ∈ M,x ∈ e.bs) (hbs:∀ x ∈ e'.bs,x ∈ e.bs∨H.size≤x) (hnd:e'.bs.Nodup)
 (hok:e'.ok H' (fun x=>Lk H0.size O l x∨x ∈ e'.bs)):Lv O0 H0 O S H' (l.set i e') ds:=by
 have hsz:=L.fr.size
 obtain ⟨hlt,hie⟩:=List.getElem?_eq_some_iff.1 hi
 obtain ⟨l1,l2,rfl,hs⟩:∃ l1 l2,l=l1 ++ e :: l2∧l.set i e'=l1 ++ e' :: l2:=by
  refine ⟨l.take i,l.drop (i + 1),?_,?_⟩
  ·rw [← hie,← List.drop_eq_getElem_cons hlt,List.take_append_drop]
  ·rw [List.set_eq_take_append_cons_drop,if_pos hlt]
 rw [hs]
 have hnd0:=L.nd
 simp only [List.flatMap_append,List.flatMap_cons,List.nodup_append] at hnd0
 obtain ⟨n1,⟨n2,n3,n4⟩,n5⟩:=hnd0
 have hmem:∀ x,x ∈ (l1 ++ e' :: l2).flatMap Ent.bs↔x ∈ l1.flatMap Ent.bs∨x ∈ e'.bs∨x ∈ l2.flatMap Ent.bs:=by
  intro x; rw [List.flatMap_append,List.flatMap_cons,List.mem_append,List.mem_append]
 have hmem0:∀ x,x ∈ (l1 ++ e :: l2).flatMap Ent.bs↔x ∈ l1.flatMap Ent.bs∨x ∈ e.bs∨x ∈ l2.flatMap Ent.bs:=by
  intro x; rw [List.flatMap_append,List.flatMap_cons,List.mem_append,List.mem_append]
 have hlk1:∀ x,Lk H0.size O (l1 ++ e' :: l2) x→Lk H0.size O (l1 ++ e :: l2) x∨x ∈ e'.bs:=by
  rintro x (q | q | q)
  ·exact .inl (.inl q)
  ·exact .inl (.inr (.inl q))
  ·rcases (hmem x).1 q with q | q | q
   ·exact .inl (.inr (.inr ((hmem0 x).2 (.inl q))))
   ·exact .inr q
   ·exact .inl (.inr (.inr ((hmem0 x).2 (.inr (.inr q)))))
 have hlk:∀ x,Lk H0.size O (l1 ++ e' :: l2) x→Lk H0.size O (l1 ++ e :: l2) x∨H.size≤x:=fun x hx=>by
  rcases hlk1 x hx with q | q
  ·exact .inl q
  ·exact (hbs x q).imp (fun q=>.inr (.inr ((hmem0 x).2 (.inr (.inl q))))) id
 have hm:∀ x ∈ M,Lk H0.size O (l1 ++ e :: l2) x∨H.size≤x:=fun x hx=>.inl (.inr (.inr ((hmem0 x).2 (.inr (.inl (hM x hx))))))
 have hloe:∀ x ∈ e.bs,H0.size≤x∧x ∉ O∧x < H.size:=fun x hx=>L.lo x ((hmem0 x).2 (.inr (.inl hx)))
 have hlt':=Ent.lt hok
 have hoth:∀ p ∈ l1 ++ l2,p.ok H' (Lk H0.size O (l1 ++ e' :: l2)):=fun p hp=>by
  have hp0:p ∈ l1 ++ e :: l2:=by
   rcases List.mem_append.1 hp with hp | hp
   ·exact List.mem_append.2 (.inl hp)
   ·exact List.mem_append.2 (.inr (List.mem_cons.2 (.inr hp)))
  refine Ent.ok_step (L.ok p hp0) hf hm (fun x hx hxm=>?_) hlk
  have hxe:=hM x hxm
  rcases List.mem_append.1 hp with hp | hp
  ·exact n5 x (List.mem_flatMap.2 ⟨p,hp,hx⟩) x (List.mem_append.2 (.inl hxe)) rfl
  ·exact n4 x hxe x (List.mem_flatMap.2 ⟨p,hp,hx⟩) rfl
 refine ⟨L.fr.trans' hf fun x hx=>.inr (hloe x (hM x hx)).1,fun x hx=>⟨Nat.lt_of_lt_of_le (L.own x hx).1 hf.size,(L.own x hx).2⟩,?_,fun x hx=>?_,fun p hp=>?_,fun p hp=>RepP.fr (L.dat p hp) hf hm hlk,L.stb_trans hf fun x hx=>⟨(hloe x (hM x hx)).1,(hloe x (hM x hx)).2.1⟩⟩
 ·simp only [List.flatMap_append,List.flatMap_cons,List.nodup_append]
  refine ⟨n1,⟨hnd,n3,fun a ha b hb=>?_⟩,fun a ha b hb=>?_⟩
  ·rcases hbs a ha with q | q
   ·exact n4 a q b hb
   ·have:=(L.lo b ((hmem0 b).2 (.inr (.inr hb)))).2.2
    omega
  ·have hal:=(L.lo a ((hmem0 a).2 (.inl ha))).2.2
   rcases List.mem_append.1 hb with hb | hb
   ·rcases hbs b hb with q | q
    ·exact n5 a ha b (List.mem_append.2 (.inl q))
    ·omega
   ·exact n5 a ha b (List.mem_append.2 (.inr hb))
 ·rcases (hmem x).1 hx with q | q | q
  ·obtain ⟨h1,h2,h3⟩:=L.lo x ((hmem0 x).2 (.inl q))
   exact ⟨h1,h2,Nat.lt_of_lt_of_le h3 hf.size⟩
  ·have hl:=hlt' x q
   rcases hbs x q with r | r
   ·exact ⟨(hloe x r).1,(hloe x r).2.1,hl⟩
   ·exact ⟨by omega,fun s=>by have:=(L.own x s).1; omega,hl⟩
  ·obtain ⟨h1,h2,h3⟩:=L.lo x ((hmem0 x).2 (.inr (.inr q)))
   exact ⟨h1,h2,Nat.lt_of_lt_of_le h3 hf.size⟩
 ·rcases List.mem_append.1 hp with hp | hp
  ·exact hoth p (List.mem_append.2 (.inl hp))
  ·rcases List.mem_cons.1 hp with rfl | hp
   ·exact Ent.ok_step hok (Fr.refl [] H') (by simp) (by simp) fun x hx=>.inl (hlk1 x hx)
   ·exact hoth p (List.mem_append.2 (.inr hp))
theorem Lv.sto (L:Lv O0 H0 O S H l ds) (i:Nat) {b t:Nat} {cs cs':List Value} (hi:l[i]?=some (.blk b t cs)) (hf:Fr [b] H H') (hn:Blk H' b t cs'):Lv O0 H0 O S H' (l.set i (.blk b t cs')) ds:=
 L.setE hi hf (by simp [Ent.bs]) (by simp [Ent.bs]) (by simp [Ent.bs]) hn
theorem Lv.get (L:Lv O0 H0 O S H l ds) (i:Nat) {b t:Nat} {cs:List Value} (hi:l[i]?=some (.blk b t cs)):Blk H b t cs:=L.ok _ (List.mem_of_getElem? hi)
theorem Lv.cell (L:Lv O0 H0 O S H l ds) (i:Nat) {b t:Nat} {cs:List Value} (hi:l[i]?=some (.blk b t cs)) (o:Nat):cellB H b o=cs[o]?:=(L.get i hi).cell o
theorem Lv.stoAll (L:Lv O0 H0 O S H l ds) (i:Nat) {b t:Nat} {cs vs:List Value} {R:Heap→Prop} (hi:l[i]?=some (.blk b t cs)) (hl:vs.length=cs.length) (h1:∀ v ∈ vs,v.oneCell'=true)
 (hR:∀ H',Lv O0 H0 O S H' (l.set i (.blk b t vs)) ds→R H'):Sto H ⟨b,0,none⟩ vs 0 R:=
 Sto_all (L.get i hi) hl h1 fun H' hn hf _=>hR H' (L.sto i hi hf hn)
theorem Lv.stoOne (L:Lv O0 H0 O S H l ds) (i:Nat) {b t o:Nat} {cs:List Value} {v:Value} {R:Heap→Prop} (hi:l[i]?=some (.blk b t cs)) (ho:o < cs.length) (h1:v.oneCell'=true)
 (hR:∀ H',Lv O0 H0 O S H' (l.set i (.blk b t (cs.set o v))) ds→R H'):Sto H ⟨b,o,none⟩ [v] 0 R:=
 Sto_one (L.get i hi) ho h1 fun H' hn hf _=>hR H' (L.sto i hi hf hn)
theorem Lv.stoMany (L:Lv O0 H0 O S H l ds) (i:Nat) {b t o:Nat} {cs vs:List Value} {R:Heap→Prop} (hi:l[i]?=some (.blk b t cs)) (ho:o + vs.length≤cs.length) (h1:∀ v ∈ vs,v.oneCell'=true)
 (hR:∀ H',Lv O0 H0 O S H' (l.set i (.blk b t (setL cs o vs))) ds→R H'):Sto H ⟨b,o,none⟩ vs 0 R:=
 Sto_blk vs H cs o 0 (L.get i hi) (by omega) h1 fun H' hn hf _=>hR H' (L.sto i hi hf (by simpa using hn))
theorem Lv.sub (L:Lv O0 H0 O S H l ds) {l':List Ent} (hs:l'.Sublist l) {ds':List (Dat × List Value)} (hd:∀ p ∈ ds',RepP H (Lk H0.size O l') p.1 p.2):Lv O0 H0 O S H l' ds':=by
 have hfs:(l'.flatMap Ent.bs).Sublist (l.flatMap Ent.bs):=by
  clear hd L
  induction hs with
  | slnil=>simp
  | cons a _ ih=>rw [List.flatMap_cons]; exact ih.trans (List.sublist_append_right _ _)
  | cons_cons a _ ih=>rw [List.flatMap_cons,List.flatMap_cons]; exact List.Sublist.append (List.Sublist.refl _) ih
 have hlk:∀ x,Lk H0.size O l' x→Lk H0.size O l x∨H.size≤x:=by
  rintro x (q | q | q)
  ·exact .inl (.inl q)
  ·exact .inl (.inr (.inl q))
  ·exact .inl (.inr (.inr (hfs.subset q)))
 exact ⟨L.fr,L.own,hfs.nodup L.nd,fun x hx=>L.lo x (hfs.subset hx),fun p hp=>Ent.ok_step (L.ok p (hs.subset hp)) (Fr.refl [] _) (by simp) (by simp) hlk,hd,L.stb⟩
theorem Lv.lk_sub (L:Lv O0 H0 O S H l ds) {l':List Ent} (hs:l'.Sublist l) {d:Dat} {cs:List Value} (h:RepP H (Lk H0.size O l) d cs):RepP H (Lk H0.size O l') d cs:=by
 refine h.more ?_
 rintro x (q | q | q)
 ·exact .inl (.inl q)
 ·exact .inl (.inr (.inl q))
 ·refine .inl (.inr (.inr ?_))
  obtain ⟨p,hp,hx⟩:=List.mem_flatMap.1 q
  exact List.mem_flatMap.2 ⟨p,hs.subset hp,hx⟩
theorem Lv.drop (L:Lv O0 H0 O S H l ds) {l':List Ent} (hs:l'.Sublist l) {ds':List (Dat × List Value)} (hd:∀ p ∈ ds',p ∈ ds):Lv O0 H0 O S H l' ds':=
 L.sub hs fun p hp=>L.lk_sub hs (L.dat p (hd p hp))
theorem Lv.add (L:Lv O0 H0 O S H l ds) {d:Dat} {cs:List Value} (h:RepP H (Lk H0.size O l) d cs):Lv O0 H0 O S H l ((d,cs) :: ds):=
 ⟨L.fr,L.own,L.nd,L.lo,L.ok,fun p hp=>by
  rcases List.mem_cons.1 hp with rfl | hp
  ·exact h
  ·exact L.dat p hp,L.stb⟩
theorem Lv.built (L:Lv O0 H0 O S H l ds) {d:Dat} {cs:List Value} (h:RepP H' (fun x=>x < H.size) d cs):RepP H' (Lk H0.size O l) d cs:=by
 refine h.more ?_
 rintro x (q | q | q)
 ·exact .inl (Nat.lt_of_lt_of_le q L.fr.size)
 ·exact .inl (L.own x q).1
 ·exact .inl (L.lo x q).2.2
theorem Lv.row0 (L:Lv O0 H0 O S H l ds) (e m:Nat):Lv O0 H0 O S H (.row e m (.slice none 0 0) [] none :: l) ds:=by
 have hlk:∀ x,Lk H0.size O (.row e m (.slice none 0 0) [] none :: l) x→Lk H0.size O l x∨H.size≤x:=by
  rintro x (q | q | q)
  ·exact .inl (.inl q)
  ·exact .inl (.inr (.inl q))
  ·exact .inl (.inr (.inr (by simpa [Ent.bs] using q)))
 refine ⟨L.fr,L.own,by simpa [Ent.bs] using L.nd,fun x hx=>L.lo x (by simpa [Ent.bs] using hx),fun p hp=>?_,fun p hp=>(L.dat p hp).more hlk,L.stb⟩
 rcases List.mem_cons.1 hp with rfl | hp
 ·exact LsO.nil
 ·exact Ent.ok_step (L.ok p hp) (Fr.refl [] _) (by simp) (by simp) hlk
theorem Lv.rowGet (L:Lv O0 H0 O S H l ds) (i:Nat) {e m:Nat} {v:Value} {dl:List Dat} {g:Option Nat} (hi:l[i]?=some (.row e m v dl g)):LsO H (Lk H0.size O l) e m v dl g:=L.ok _ (List.mem_of_getElem? hi)
theorem Lv.app {P:Program} {t tx bytes tn nb n1 c1 m:Nat} {z:Value} {R:Value→Heap→Prop} {d:Dat} {cs:List Value} (L:Lv O0 H0 O S H (.blk nb tn cs :: l) ds) (hE:ElemOk P t e m bytes z) (i:Nat) {v:Value} {dl:List Dat} {g:Option Nat}
 (hi:l[i]?=some (.row e m v dl g)) {ex:Nat} (hk:P.underlying tx=some (.slice ex)) (hl:cs.length=m)
 (hc:∀ u ∈ cs,u.oneCell'=true) (hd:RepP H (Lk H0.size O l) d cs) (h1:n1=1) (h63:dl.length + 1≤maxLen) (hb:(dl.length + 1) * bytes≤140737488355328)
 (hR:∀ a c g' H',Lv O0 H0 O S H' (l.set i (.row e m (.slice a (dl.length + 1) c) (dl ++ [d]) g')) ds→R (.slice a (dl.length + 1) c) H'):App P t tx t H v (.slice (some ⟨nb,0,none⟩) n1 c1) R:=by
 have L':=L.drop (l':=l) (List.sublist_cons_self _ _) fun p hp=>hp
 have hrow:=L'.rowGet i hi
 have hmem:=List.mem_of_getElem? hi
 refine App_ls (cs:=cs) hE hrow hk (L.get 0 rfl) hl hc (hd.more fun x hx=>.inl ?_) h1 h63 hb fun a c H' g' ho hf hg'=>hR a c g' H' ?_
 ·rcases hx with q | q
  ·exact q
  ·exact .inr (.inr (List.mem_flatMap.2 ⟨_,hmem,by simp [Ent.bs,q]⟩))
 ·refine L'.setE hi hf (fun x hx=>hx) (fun x hx=>?_) (by cases g' <;> simp [Ent.bs]) ?_
  ·simp only [Ent.bs,Option.mem_toList] at hx ⊢
   exact hg' x hx
  ·obtain ⟨css,q1,q2,q3⟩:=ho
   refine ⟨css,q1,q2,q3.more fun x hx=>.inl ?_⟩
   simp only [Ent.bs,Option.mem_toList] at hx
   rcases hx with (hx | hx) | hx
   ·exact .inl hx
   ·exact .inr hx
   ·exact .inr hx
theorem Lv.rowDone (L:Lv O0 H0 O S H l ds) (i:Nat) (hi:l[i]?=some (.row e m v dl g)):Lv O0 H0 O S H (l.eraseIdx i) ((.list m dl,[v]) :: ds):=by
 have hs:(l.eraseIdx i).Sublist l:=List.eraseIdx_sublist l i
 refine (L.drop hs fun p hp=>hp).add ?_
 refine LsO.rep ((L.rowGet i hi).ext (Fr.refl [] _) (B':=Lk H0.size O (l.eraseIdx i)) ?_) fun b hb hB=>?_
 ·rintro x (q | q | q)
  ·exact .inl (.inl q)
  ·exact .inl (.inr (.inl q))
  ·exact .inl (.inr (.inr (List.mem_flatMap.2 (by obtain ⟨p,hp,hx⟩:=List.mem_flatMap.1 q; exact ⟨p,hs.subset hp,hx⟩))))
 ·subst hb
  have hbl:=L.lo b (List.mem_flatMap.2 ⟨_,List.mem_of_getElem? hi,by simp [Ent.bs]⟩)
  have hnd:=L.nd
  obtain ⟨hlt,hie⟩:=List.getElem?_eq_some_iff.1 hi
  have hl:l=l.take i ++ .row e m v dl (some b) :: l.drop (i + 1):=by rw [← hie,← List.drop_eq_getElem_cons hlt,List.take_append_drop]
  have he:l.eraseIdx i=l.take i ++ l.drop (i + 1):=List.eraseIdx_eq_take_drop_succ l i
  rw [hl] at hnd
  simp only [List.flatMap_append,List.flatMap_cons,Ent.bs,Option.toList_some,List.cons_append,List.nil_append,List.nodup_append,List.nodup_cons,List.mem_cons] at hnd
  rcases hB with q | q | q
  ·omega
  ·exact hbl.2.1 q
  ·rw [he,List.flatMap_append,List.mem_append] at q
   rcases q with q | q
   ·exact hnd.2.2 b q b (.inl rfl) rfl
   ·exact hnd.2.1.1 q
theorem Lv.rowOwn (L:Lv O0 H0 O S H (.blk b t cs :: l) ds) {n:Nat} {css:List (List Value)} (hcs:cs=css.flatten) (hl:∀ x ∈ css,x.length=m) (hR:RepsP H (Lk H0.size O (.blk b t cs :: l)) dl css) (hn:n=dl.length) (h63:dl.length≤maxLen) :
 Lv O0 H0 O S H (.row t m (.slice (some ⟨b,0,none⟩) n n) dl (some b) :: l) ds:=by
 have hb:=L.get 0 rfl
 subst hcs hn
 have hlen:css.length=dl.length:=Reps.length (hR [] (by simp))
 refine L.setE (i:=0) rfl (Fr.refl [] _) (by simp) (fun x hx=>.inl (by simpa [Ent.bs] using hx)) (by simp [Ent.bs]) ?_
 refine ⟨css,Own.of_blk hb (by rw [flatten_len hl,hlen]) h63,hl,fun M hM=>?_⟩
 refine hR M fun x hx=>?_
 rcases hM x hx with (q | q) | q
 ·exact q
 ·exact .inr (.inr (by simpa [Ent.bs] using .inl (by simpa [Ent.bs] using q)))
 ·exact .inr (.inr (by simpa [Ent.bs] using .inl (by simpa [eq_comm] using q)))
end
end Gx
