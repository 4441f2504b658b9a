import Derived.Test.YtdhlibkdcldioaaGreatB7
import Derived.Deep.AppendSrc
section
namespace Gx
open Go
def cellB (H:Heap) (b o:Nat):Option Value:=
 match H[b]? with
 | some (.cells c _ _)=>c[o]?
 | _=>none
@[go_sem] theorem cellAt_mk (H:Heap) (b o:Nat):cellAt H ⟨b,o,none⟩=cellB H b o:=by
  simp only [cellAt,cellB]; cases H[b]? with
  | none=>rfl
  | some x=>cases x <;> rfl
@[go_sem] theorem add_mk (b o n:Nat):Addr.add ⟨b,o,none⟩ n=⟨b,o + n,none⟩:=Addr.add_lit b o n
def Blk (H:Heap) (b t:Nat) (l:List Value):Prop:=H[b]?=some (.cells l.toArray t (0,0))
theorem Blk.cell {H:Heap} {b t:Nat} {l:List Value} (h:Blk H b t l) (o:Nat):cellB H b o=l[o]?:=by
 unfold Blk at h; simp [cellB,h]
theorem Blk.lt {H:Heap} {b t:Nat} {l:List Value} (h:Blk H b t l):b < H.size:=by
 rcases Nat.lt_or_ge b H.size with h' | h'
 ·exact h'
 ·unfold Blk at h; simp [Array.getElem?_eq_none h'] at h
structure Fr (M:List Nat) (H H':Heap):Prop where
 size:H.size≤H'.size
 same:∀ b,b < H.size→b ∉ M→H'[b]?=H[b]?
theorem Fr.refl (M:List Nat) (H:Heap):Fr M H H:=⟨Nat.le_refl _,fun _ _ _=>rfl⟩
theorem Fr.trans {M:List Nat} {a b c:Heap} (h:Fr M a b) (k:Fr M b c):Fr M a c:=
 ⟨Nat.le_trans h.size k.size,fun i hi hm=>(k.same i (Nat.lt_of_lt_of_le hi h.size) hm).trans (h.same i hi hm)⟩
theorem Fr.mono {M M':List Nat} {H H':Heap} (h:Fr M H H') (hm:∀ b,b ∈ M→b ∈ M'∨H.size≤b):Fr M' H H':=
 ⟨h.size,fun b hb hn=>h.same b hb fun hx=>by rcases hm b hx with h1 | h1; exact hn h1; omega⟩
theorem Fr.trans' {M M':List Nat} {a b c:Heap} (h:Fr M a b) (k:Fr M' b c) (hm:∀ x,x ∈ M'→x ∈ M∨a.size≤x):Fr M a c:=
 ⟨Nat.le_trans h.size k.size,fun i hi hn=>(k.same i (Nat.lt_of_lt_of_le hi h.size) (fun hx=>by rcases hm i hx with h1 | h1; exact hn h1; omega)).trans (h.same i hi hn)⟩
theorem Blk.fr {M:List Nat} {H H':Heap} {b t:Nat} {l:List Value} (h:Blk H b t l) (hf:Fr M H H') (hb:b ∉ M):Blk H' b t l:=by
 have hlt:=h.lt
 unfold Blk at *; rw [hf.same b hlt hb]; exact h
theorem Blk.ext {H H':Heap} {b t:Nat} {l:List Value} (h:Blk H b t l) (hf:Fr [] H H'):Blk H' b t l:=h.fr hf (by simp)
theorem cellB_lt {H:Heap} {b o:Nat} {v:Value} (h:cellB H b o=some v):b < H.size:=by
 rcases Nat.lt_or_ge b H.size with h' | h'
 ·exact h'
 ·simp [cellB,Array.getElem?_eq_none h'] at h
theorem cellB_fr {M:List Nat} {H H':Heap} {b o:Nat} {v:Value} (h:cellB H b o=some v) (hf:Fr M H H') (hb:b ∉ M):cellB H' b o=some v:=by
 have:=hf.same b (cellB_lt h) hb
 unfold cellB at *; rw [this]; exact h
theorem fr_push (M:List Nat) (H:Heap) (o:Obj):Fr M H (H.push o):=
 ⟨by simp,fun b hb _=>by rw [Array.getElem?_push]; simp [show b≠H.size by omega]⟩
theorem NewP_intro {H:Heap} {t:Nat} {cs:List Value} {R:Value→Heap→Prop} (h:∀ H',Blk H' H.size t cs→Fr [] H H'→H'.size=H.size + 1→R (.pointer (some ⟨H.size,0,none⟩)) H'):NewP H t cs R:=
 h _ (by simp [Blk]) (fr_push _ _ _) (by simp)
theorem NewS_intro {H:Heap} {t n:Nat} {cs:List Value} {R:Value→Heap→Prop} (h:∀ H',Blk H' H.size t cs→Fr [] H H'→H'.size=H.size + 1→R (.slice (some ⟨H.size,0,none⟩) n n) H'):NewS H t n cs R:=
 h _ (by simp [Blk]) (fr_push _ _ _) (by simp)
theorem Blk.set {H:Heap} {b t:Nat} {l:List Value} (h:Blk H b t l) (o:Nat) (v:Value):Blk (setCellH H ⟨b,o,none⟩ v) b t (l.set o v):=by
 have hlt:=h.lt
 unfold Blk at *
 have h':H[b]= .cells l.toArray t (0,0):=by simpa [Array.getElem?_eq_getElem hlt] using h
 simp only [setCellH]
 rw [Array.getElem?_eq_getElem (by simpa using hlt),Array.getElem_modify_self,h']
 simp
theorem fr_set (H:Heap) (b o:Nat) (v:Value):Fr [b] H (setCellH H ⟨b,o,none⟩ v):=
 ⟨by simp [setCellH],fun k _ hk=>by simp only [setCellH,Array.getElem?_modify]; rw [if_neg (by simp at hk; omega)]⟩
theorem size_set (H:Heap) (a:Addr) (v:Value):(setCellH H a v).size=H.size:=by simp [setCellH]
def setL (l:List Value) (o:Nat):List Value→List Value
 | []=>l
 | v :: vs=>setL (l.set o v) (o + 1) vs
theorem setL_eq:∀ (vs:List Value) (l:List Value) (o:Nat),o + vs.length≤l.length→setL l o vs=l.take o ++ vs ++ l.drop (o + vs.length)
 | [],l,o,_=>by simp [setL]
 | v :: vs,l,o,h=>by
   simp only [List.length_cons] at h
   rw [setL,setL_eq vs (l.set o v) (o + 1) (by simp; omega)]
   have e2:(l.set o v).take (o + 1)=l.take o ++ [v]:=by
    rw [List.take_add_one,List.take_set_of_le (Nat.le_refl _)]; simp [show o < l.length by omega]
   have e3:(l.set o v).drop (o + 1 + vs.length)=l.drop (o + (vs.length + 1)):=by
    rw [List.drop_set_of_lt (by omega)]; congr 1; omega
   rw [e2,e3]; simp
theorem Sto_blk {R:Heap→Prop} {b t:Nat}:∀ (vs:List Value) (H:Heap) (l:List Value) (o i:Nat),Blk H b t l→o + i + vs.length≤l.length→(∀ v ∈ vs,v.oneCell'=true)→
 (∀ H',Blk H' b t (setL l (o + i) vs)→Fr [b] H H'→H'.size=H.size→R H')→Sto H ⟨b,o,none⟩ vs i R
 | [],H,l,o,i,h,_,_,hR=>hR H h (Fr.refl _ _) rfl
 | v :: vs,H,l,o,i,h,hl,h1,hR=>by
   simp only [List.length_cons] at hl
   have hlt:o + i < l.length:=by omega
   refine ⟨h1 v (by simp),⟨l[o + i],?_⟩,?_,?_⟩
   ·rw [add_mk,cellAt_mk,h.cell]; simp [hlt]
   ·rw [add_mk]; unfold Blk at h; simp [frozenAt,h]
   ·rw [add_mk]
    refine Sto_blk vs _ (l.set (o + i) v) o (i + 1) (h.set (o + i) v) (by simp; omega) (fun v hv=>h1 v (by simp [hv])) fun H' hb hf hs=>?_
    exact hR H' hb ((fr_set H b (o + i) v).trans hf) (hs.trans (size_set _ _ _))
theorem Sto_one {R:Heap→Prop} {b t o:Nat} {H:Heap} {l:List Value} {v:Value} (h:Blk H b t l) (ho:o < l.length) (h1:v.oneCell'=true)
 (hR:∀ H',Blk H' b t (l.set o v)→Fr [b] H H'→H'.size=H.size→R H'):Sto H ⟨b,o,none⟩ [v] 0 R:=
 Sto_blk [v] H l o 0 h (by simp; omega) (by simpa using h1) fun H' hb hf hs=>hR H' (by simpa [setL] using hb) hf hs
def Own (H:Heap) (e size:Nat) (v:Value) (n:Nat) (xs:List Value) (g:Option Nat):Prop:=
 xs.length=n * size∧
 ((g=none∧v= .slice none 0 0∧n=0)∨
  ∃ b cap cur,g=some b∧v= .slice (some ⟨b,0,none⟩) n cap∧H[b]?=some (.cells cur e (0,0))∧n≤cap∧cap≤maxLen∧cur.size=cap * size∧cur.toList.take (n * size)=xs)
theorem Own.nil (H:Heap) (e size:Nat):Own H e size (.slice none 0 0) 0 [] none:=⟨by simp,.inl ⟨rfl,rfl,rfl⟩⟩
theorem Own.lt {H:Heap} {e size:Nat} {v:Value} {n:Nat} {xs:List Value} {g:Option Nat} (h:Own H e size v n xs g) {b:Nat} (hb:g=some b):b < H.size:=by
 rcases h.2 with ⟨h1,_⟩ | ⟨b',cap,cur,h1,_,h2,_⟩
 ·rw [h1] at hb; cases hb
 ·rw [h1] at hb; cases hb
  rcases Nat.lt_or_ge b H.size with h' | h'
  ·exact h'
  ·simp [Array.getElem?_eq_none h'] at h2
theorem Own.fr {M:List Nat} {H H':Heap} {e size:Nat} {v:Value} {n:Nat} {xs:List Value} {g:Option Nat} (h:Own H e size v n xs g) (hf:Fr M H H') (hg:∀ b,g=some b→b ∉ M):Own H' e size v n xs g:=by
 refine ⟨h.1,?_⟩
 rcases h.2 with h1 | ⟨b,cap,cur,h1,h2,h3,r⟩
 ·exact .inl h1
 ·refine .inr ⟨b,cap,cur,h1,h2,?_,r⟩
  rw [hf.same b (h.lt h1) (hg b h1)]; exact h3
theorem Own.cell {H:Heap} {e size:Nat} {v:Value} {n:Nat} {xs:List Value} {b:Nat} (h:Own H e size v n xs (some b)) (j:Nat) (hj:j < n * size):cellB H b j=xs[j]?:=by
 rcases h.2 with ⟨h1,_⟩ | ⟨b',cap,cur,h1,h2,h3,h4,h5,h6,h7⟩
 ·cases h1
 ·cases h1
  rw [← h7]
  have:j < cur.size:=by rw [h6]; exact Nat.lt_of_lt_of_le hj (Nat.mul_le_mul_right _ h4)
  simp [cellB,h3,hj]
theorem Own.of_blk {H:Heap} {b e size n:Nat} {l:List Value} (h:Blk H b e l) (hl:l.length=n * size) (hn:n≤maxLen):Own H e size (.slice (some ⟨b,0,none⟩) n n) n l (some b):=
 ⟨hl,.inr ⟨b,n,l.toArray,rfl,rfl,h,Nat.le_refl _,hn,by simp [hl],by simp [← hl]⟩⟩
structure ElemOk (P:Program) (t e size bytes:Nat) (z:Value):Prop where
 und:P.underlying t=some (.slice e)
 info:(P.info? e).map (fun i=>(i.zero,i.size,i.bytes))=some (some z,size,bytes)
 zs:z.cells.size=size
 pos:0 < size
def SrcH (P:Program) (H:Heap) (size tx:Nat) (x:Value) (m:Nat) (news:List Value):Prop:=∀ w:World,w.heap=H→Src P size tx x m news w
theorem SrcH.cells {P:Program} {H:Heap} {size tx e:Nat} (hk:P.underlying tx=some (.slice e)) {ad:Addr} {m c:Nat} {news:List Value} (hl:news.length=m * size) (hn:∀ j u,news[j]?=some u→cellAt H (ad.add j)=some u) (h1:∀ u ∈ news,u.oneCell'=true) :
 SrcH P H size tx (.slice (some ad) m c) m news:=fun w hw=>Src.ofSlice w hk ad m c news hl (fun j u hj=>by subst hw; exact hn j u hj) h1
theorem SrcH.nil {P:Program} {H:Heap} {size tx e:Nat} (hk:P.underlying tx=some (.slice e)) (c:Nat):SrcH P H size tx (.slice none 0 c) 0 []:=fun w _=>Src.ofNil w hk c
theorem SrcH.str {P:Program} {H:Heap} {tx:Nat} (hk:P.underlying tx=some .string) (l:List UInt8):SrcH P H 1 tx (.string ⟨⟨l⟩⟩) l.length (l.map fun b=>Value.int .u8 b.toNat):=fun w _=>by
 have:=Src.ofString w hk ⟨⟨l⟩⟩
 exact this
theorem SrcH.empty {P:Program} {H:Heap} {size tx e:Nat} (hk:P.underlying tx=some (.slice e)) (ad:Option Addr) (c:Nat):SrcH P H size tx (.slice ad 0 c) 0 []:=by
 cases ad with
 | none=>exact SrcH.nil hk c
 | some ad=>exact SrcH.cells hk (by simp) (by simp) (by simp)
theorem SrcH.blk {P:Program} {H:Heap} {size tx e:Nat} (hk:P.underlying tx=some (.slice e)) {b t m c:Nat} {l:List Value} (h:Blk H b t l) (hl:l.length=m * size) (h1:∀ u ∈ l,u.oneCell'=true) :
 SrcH P H size tx (.slice (some ⟨b,0,none⟩) m c) m l:=
 SrcH.cells hk hl (fun j u hj=>by rw [add_mk,cellAt_mk,Nat.zero_add,h.cell]; exact hj) h1
theorem Own.ne {H:Heap} {e size:Nat} {v:Value} {n:Nat} {xs:List Value} {g:Option Nat} {b t:Nat} {l:List Value} (h:Own H e size v n xs g) (hb:Blk H b t l) (ht:e≠t):b ∉ g.toList:=by
 intro hm
 have hg:g=some b:=by simpa using hm
 rcases h.2 with ⟨h1,_⟩ | ⟨b',cap,cur,h1,_,h3,_⟩
 ·rw [h1] at hg; cases hg
 ·rw [h1] at hg; cases hg
  unfold Blk at hb
  rw [h3] at hb
  simp at hb
  exact ht hb.2
theorem setCells_blk {b e:Nat}:∀ (vs:List Value) (o:Nat) (w:World) (l:List Value),Blk w.heap b e l→Blk (w.setCells b o vs).heap b e (setL l o vs)∧Fr [b] w.heap (w.setCells b o vs).heap∧Same w (w.setCells b o vs)
 | [],o,w,l,h=>⟨h,Fr.refl _ _,Same.refl _⟩
 | v :: vs,o,w,l,h=>by
   obtain ⟨h1,h2,h3⟩:=setCells_blk vs (o + 1) (w.setCell ⟨b,o,none⟩ v) (l.set o v) (h.set o v)
   exact ⟨h1,(fr_set _ _ _ _).trans h2,⟨h3.os,h3.tape,h3.output⟩⟩
theorem App_own {P:Program} {t tx e size bytes:Nat} {z:Value} (hE:ElemOk P t e size bytes z) {H:Heap} {v x:Value} {n:Nat} {xs:List Value} {g:Option Nat} (hown:Own H e size v n xs g)
 {m:Nat} {news:List Value} (hsrc:SrcH P H size tx x m news) (h63:n + m≤maxLen) (hb:(n + m) * bytes≤140737488355328) {R:Value→Heap→Prop}
 (hR:∀ a c H' g',Own H' e size (.slice a (n + m) c) (n + m) (xs ++ news) g'→Fr g.toList H H'→(∀ b,g'=some b→g=some b∨H.size≤b)→R (.slice a (n + m) c) H'):App P t tx t H v x R:=by
 intro w hw
 have hs:=hsrc w hw
 subst hw
 have hinfo:=hE.info
 simp only [Option.map_eq_some_iff,Prod.mk.injEq] at hinfo
 obtain ⟨i,hi,hz,hsz,hbt⟩:=hinfo
 subst hsz; subst hbt
 have hlen:(xs ++ news).length=(n + m) * i.size:=by rw [List.length_append,hown.1,hs.newsLen,Nat.add_mul]
 have h63':((n + m:Nat):Int)≤9223372036854775807:=by simp only [maxLen] at h63; omega
 have grow:∀ (base:Option Addr) (cap:Nat),cap < n + m→v= .slice base n cap→(Builtin.firstCells i.size n (.slice base n cap)).run P w.drew= .ok xs.toArray w.drew→
  ∃ v' w',(Builtin.append_ #[t,tx] t #[v,x]).run P w= .ok v' w'∧R v' w'.heap∧Same w w':=by
  intro base cap hc hv hold
  subst hv
  have hr:=run_append_grow_src (P:=P) w t tx t e i z hE.und hi hz base n cap xs hold x m news hs hc h63' (growslice_fits hc hb)
  refine ⟨_,_,hr,hR _ _ _ (some w.heap.size) ⟨hlen,.inr ⟨w.heap.size,_,_,rfl,rfl,heap_alloc_new w.drew _,grownCap_ge _ _ _ _,grownCap_le_maxLen _ _ _ _ h63,?_,?_⟩⟩ ?_ ?_,⟨rfl,rfl,rfl⟩⟩
  ·have hge:=grownCap_ge w (n + m) cap e
   rw [Array.size_append,size_zeroCells,hE.zs]
   simp only [List.size_toArray,hlen,← Nat.add_mul]
   congr 1; omega
  ·simp only [Array.toList_append]
   rw [← hlen]; exact List.take_left
  ·exact fr_push _ _ _
  ·intro b hb; simp at hb; exact .inr (by omega)
 rcases hown.2 with ⟨rfl,rfl,rfl⟩ | ⟨b,cap,cur,rfl,rfl,hg,hnc,hcm,hcs,htake⟩
 ·have hx:xs=[]:=List.eq_nil_of_length_eq_zero (by simpa using hown.1)
  subst hx
  by_cases hm:m=0
  ·subst hm
   have hn:news=[]:=List.eq_nil_of_length_eq_zero (by simpa using hs.newsLen)
   subst hn
   refine ⟨.slice none 0 0,w,?_,hR none 0 _ none (Own.nil _ _ _) (Fr.refl _ _) (by simp),Same.refl _⟩
   rcases hs.kind with ⟨e',hk⟩ | hk <;> simp [Builtin.append_,run_underlying hE.und,run_underlying hk,Go.sizeOf,typeInfo,hi,hs.len,hs.cells]
  ·exact grow none 0 (by omega) rfl (run_firstCells_none _ _ _ _ _)
 ·by_cases hroom:n + m≤cap
  ·have hfit:n * i.size + news.length≤cur.size:=by rw [hs.newsLen,hcs,← Nat.add_mul]; exact Nat.mul_le_mul_right _ hroom
   have hblk:Blk w.heap b e cur.toList:=by simpa [Blk] using hg
   have hr:=run_append_room_src (P:=P) w t tx t e i hE.und hi b 0 n cap x m news hs hroom
    (fun j hj=>by
     have:w.cell? ⟨b,0 + n * i.size + j,none⟩=cellB w.heap b (0 + n * i.size + j):=(cell?_eq w _).trans (cellAt_mk _ _ _)
     rw [this,hblk.cell]; simp; omega)
    (fun j hj=>by
     show frozenAt w.heap _=false
     simp [frozenAt,hg])
   rw [Nat.zero_add] at hr
   obtain ⟨h1,h2,h3⟩:=setCells_blk news (n * i.size) w cur.toList hblk
   rw [setL_eq _ _ _ (by simpa using hfit)] at h1
   refine ⟨_,_,hr,hR _ _ _ (some b) ⟨hlen,.inr ⟨b,cap,_,rfl,rfl,h1,hroom,hcm,?_,?_⟩⟩ h2 (fun b' hb=>by simp at hb; exact .inl (by rw [hb])),h3⟩
   ·simp; omega
   ·rw [htake,← hlen]; exact List.take_left
  ·refine grow (some ⟨b,0,none⟩) cap (by omega) rfl ?_
   refine run_firstCells_some w.drew i.size n ⟨b,0,none⟩ n cap xs hown.1 fun j u hj=>?_
   have hlt:j < n * i.size:=by
    rw [← hown.1]
    rcases Nat.lt_or_ge j xs.length with h | h
    ·exact h
    ·rw [List.getElem?_eq_none h] at hj; cases hj
   show cellAt w.heap _=_
   rw [add_mk,cellAt_mk,Nat.zero_add,hown.cell j hlt,hj]
end Gx
end
section
namespace Gx
open Go
def bv (b:UInt8):Value:=.int .u8 b.toNat
@[simp] theorem bv_one (b:UInt8):(bv b).oneCell'=true:=rfl
theorem wrap_u8_id (x:Int) (h:0≤x) (h':x < 256):IntKind.u8.wrap x=x:=by
 rw [IntKind.wrap_u8]; omega
theorem wrap_u64_id (x:Int) (h:0≤x) (h':x < 18446744073709551616):IntKind.u64.wrap x=x:=by
 rw [IntKind.wrap_u64]; omega
theorem wrap_i64_id (x:Int) (h:-9223372036854775808≤x) (h':x < 9223372036854775808):IntKind.i64.wrap x=x:=by
 rw [IntKind.wrap_i64]; omega
theorem u8_of (n:Nat) (h:n < 256):((UInt8.ofNat n).toNat:Int)=n:=by
 have:(UInt8.ofNat n).toNat=n % 256:=UInt8.toNat_ofNat'
 omega
def BsR (H:Heap) (a:Option Addr) (l:List UInt8):Prop:=
 l=[]∨∃ b o,a=some ⟨b,o,none⟩∧∀ j (h:j < l.length),cellB H b (o + j)=some (bv l[j])
theorem BsR.nil (H:Heap) (a:Option Addr):BsR H a []:=.inl rfl
theorem BsR.ext {H H':Heap} {a:Option Addr} {l:List UInt8} (h:BsR H a l) (hf:Fr [] H H'):BsR H' a l:=by
 rcases h with h | ⟨b,o,h1,h2⟩
 ·exact .inl h
 ·exact .inr ⟨b,o,h1,fun j hj=>cellB_fr (h2 j hj) hf (by simp)⟩
theorem BsR.fr {M:List Nat} {H H':Heap} {a:Option Addr} {l:List UInt8} (h:BsR H a l) (hf:Fr M H H') (hm:∀ b o,a=some ⟨b,o,none⟩→b ∉ M):BsR H' a l:=by
 rcases h with h | ⟨b,o,h1,h2⟩
 ·exact .inl h
 ·exact .inr ⟨b,o,h1,fun j hj=>cellB_fr (h2 j hj) hf (hm b o h1)⟩
theorem BsR.take {H:Heap} {a:Option Addr} {l:List UInt8} (h:BsR H a l) (n:Nat):BsR H a (l.take n):=by
 rcases h with h | ⟨b,o,h1,h2⟩
 ·subst h; simp [BsR]
 ·refine .inr ⟨b,o,h1,fun j hj=>?_⟩
  simp only [List.length_take] at hj
  rw [h2 j (by omega)]; simp
theorem BsR.drop {H:Heap} {a:Option Addr} {l:List UInt8} (h:BsR H a l) (n:Nat):BsR H (a.map (·.add n)) (l.drop n):=by
 rcases h with h | ⟨b,o,h1,h2⟩
 ·subst h; simp [BsR]
 ·refine .inr ⟨b,o + n,by simp [h1,add_mk],fun j hj=>?_⟩
  simp only [List.length_drop] at hj
  rw [show o + n + j=o + (n + j) by omega,h2 (n + j) (by omega)]; simp
theorem BsR.src {P:Program} {H:Heap} {a:Option Addr} {l:List UInt8} {tx e c:Nat} (hk:P.underlying tx=some (.slice e)) (h:BsR H a l):SrcH P H 1 tx (.slice a l.length c) l.length (l.map bv):=by
 rcases h with h | ⟨b,o,h1,h2⟩
 ·subst h; exact SrcH.empty hk a c
 ·subst h1
  refine SrcH.cells hk (by simp) (fun j u hj=>?_) (by simp)
  have hlt:j < l.length:=by
   rcases Nat.lt_or_ge j l.length with h | h
   ·exact h
   ·rw [List.getElem?_eq_none (by simpa using h)] at hj; cases hj
  rw [add_mk,cellAt_mk,h2 j hlt]
  simp [hlt] at hj; rw [hj]
theorem Own.bsR {H:Heap} {a:Option Addr} {c:Nat} {l:List UInt8} {e:Nat} {g:Option Nat} (h:Own H e 1 (.slice a l.length c) l.length (l.map bv) g):BsR H a l:=by
 rcases h.2 with ⟨h1,h2,h3⟩ | ⟨b,cap,cur,h1,h2,h3,h4,h5,h6,h7⟩
 ·exact .inl (List.eq_nil_of_length_eq_zero h3)
 ·refine .inr ⟨b,0,by simp at h2; exact h2.1,fun j hj=>?_⟩
  subst h1
  rw [Nat.zero_add,h.cell j (by simpa using hj)]
  simp [hj]
theorem BsR.b2s {H:Heap} {a:Option Addr} {l:List UInt8} (c:Nat) (h:BsR H a l):b2sN H (some (.slice a l.length c))=some (.string ⟨⟨l⟩⟩):=by
 have key:∀ (k:List UInt8) (b o i:Nat),(∀ j (h:j < k.length),cellB H b (o + i + j)=some (bv k[j]))→bytesFrom H ⟨b,o,none⟩ i k.length=some k:=by
  intro k
  induction k with
  | nil=>intro b o i _; rfl
  | cons x k ih=>
    intro b o i hc
    simp only [List.length_cons,bytesFrom,add_mk,cellAt_mk]
    have h0:=hc 0 (by simp)
    simp only [Nat.add_zero,List.getElem_cons_zero] at h0
    rw [h0,ih b o (i + 1) (fun j hj=>by have:=hc (j + 1) (by simpa using hj); simpa [Nat.add_assoc,Nat.add_comm 1 j] using this)]
    simp [bv]
 rcases h with h | ⟨b,o,h1,h2⟩
 ·subst h; cases a <;> rfl
 ·subst h1
  simp only [b2sN]
  rw [key l b o 0 (by simpa using h2)]
theorem Own.cap_le {H:Heap} {e z n c:Nat} {a:Option Addr} {xs:List Value} {g:Option Nat} (h:Own H e z (.slice a n c) n xs g):n≤c:=by
 rcases h.2 with ⟨_,h2,_⟩ | ⟨b,cap,cur,h1,h2,h3,h4,_⟩
 ·simp at h2; omega
 ·simp at h2; omega
theorem BsR.sub {H:Heap} {a:Option Addr} {l:List UInt8} (h:BsR H a l) (c:Nat) {lo hi:Nat} (hc:lo≤hi∧hi≤c):BsR H (if c=lo then a else Option.map (fun x=>x.add lo) a) ((l.drop lo).take (hi - lo)):=by
 by_cases e:c=lo
 ·rw [show hi - lo=0 by omega]; exact .inl rfl
 ·rw [if_neg e]; exact (h.drop lo).take _
end Gx
end
section
namespace Gx
open Go
abbrev I (n:Int):Value:=.int .i64 n
abbrev C (n:Int):Opd:=.c (.int .i64 n)
abbrev Z:Value:=.slice none 0 0
abbrev oT (s:SOp Opd):GOp:=.op none .t s
abbrev oN (s:SOp Opd):GOp:=.op none .no s
abbrev oS (k:Nat) (s:SOp Opd):GOp:=.op none (.s k) s
abbrev mT (x:Opd):GOp:=.op none .t (.v (.mv x))
abbrev fT (n:Nat) (x:Opd):GOp:=.op none .t (.v (.fa n x))
abbrev lT (x:Opd):GOp:=.op none .t (.ld none x)
abbrev nT (x:Opd):GOp:=.op none .t (.v (.len x))
abbrev mS (k:Nat) (x:Opd):GOp:=.op none (.s k) (.v (.mv x))
abbrev rm (x:Opd) (D:List Nat) (n:DT):DT:=.rd none .t (.v (.mv x)) D n
abbrev rf (k:Nat) (x:Opd) (D:List Nat) (n:DT):DT:=.rd none .t (.v (.fa k x)) D n
abbrev rl (x:Opd) (D:List Nat) (n:DT):DT:=.rd none .t (.ld none x) D n
abbrev U (a b:SCode):Prop:=∀ (P:Program) (E:Chain→Heap→Prop) (σ:Slots) (H:Heap) (Q:Post),vc P E a σ H Q=vc P E b σ H Q
abbrev S0:Opd:=.s 0
abbrev T0:Opd:=.t 0
abbrev S1:Opd:=.s 1
abbrev T1:Opd:=.t 1
abbrev S2:Opd:=.s 2
abbrev T2:Opd:=.t 2
abbrev S3:Opd:=.s 3
abbrev T3:Opd:=.t 3
abbrev S4:Opd:=.s 4
abbrev T4:Opd:=.t 4
abbrev S5:Opd:=.s 5
abbrev T5:Opd:=.t 5
abbrev S6:Opd:=.s 6
abbrev T6:Opd:=.t 6
abbrev S7:Opd:=.s 7
abbrev T7:Opd:=.t 7
abbrev S8:Opd:=.s 8
abbrev T8:Opd:=.t 8
abbrev S9:Opd:=.s 9
abbrev T9:Opd:=.t 9
abbrev S10:Opd:=.s 10
abbrev T10:Opd:=.t 10
abbrev S11:Opd:=.s 11
abbrev T11:Opd:=.t 11
abbrev S12:Opd:=.s 12
abbrev T12:Opd:=.t 12
abbrev S13:Opd:=.s 13
abbrev S14:Opd:=.s 14
abbrev S15:Opd:=.s 15
abbrev T15:Opd:=.t 15
abbrev S16:Opd:=.s 16
abbrev S17:Opd:=.s 17
abbrev S18:Opd:=.s 18
abbrev S19:Opd:=.s 19
abbrev T19:Opd:=.t 19
abbrev S20:Opd:=.s 20
abbrev S21:Opd:=.s 21
abbrev T23:Opd:=.t 23
abbrev T27:Opd:=.t 27
abbrev T31:Opd:=.t 31
abbrev T35:Opd:=.t 35
end Gx
end
