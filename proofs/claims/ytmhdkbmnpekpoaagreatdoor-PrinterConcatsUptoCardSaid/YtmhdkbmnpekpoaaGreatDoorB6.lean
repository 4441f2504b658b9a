import Derived.Test.YtmhdkbmnpekpoaaGreatDoorB5
import Derived.Test.YtmhdkbmnpekpoaaGreatDoorB4
import Derived.Test.YtmhdkbmnpekpoaaGreatDoorB2
import Derived.Lib.Builder
import Derived.WalkKit
import Derived.Test.YtmhdkbmnpekpoaaGreatDoorB3
import Derived.Lib.UnsafeStr
section
set_option linter.unusedSimpArgs false
set_option linter.unusedVariables false
set_option maxRecDepth 8000
namespace Go.Proofs.YtmhdkbmnpekpoaaGreatDoor
open Gx Go
def Gt (ts:List Tk):Prop:=(∀ t ∈ ts,t.kind≠6→poB t=true)∧Hend ts
theorem Gt.tl {ts:List Tk} (h:Gt ts) (hk:(hd ts).kind≠6):Gt ts.tail:=by
 refine ⟨fun t ht=>h.1 t (List.mem_of_mem_tail ht),?_⟩
 obtain ⟨t,ht,h6⟩:=h.2
 cases ts with
 | nil=>simp at ht
 | cons u r=>
   rcases List.mem_cons.1 ht with rfl | ht
   ·exact absurd h6 hk
   ·exact ⟨t,ht,h6⟩
theorem Gt.hd {ts:List Tk} (h:Gt ts) (hk:(hd ts).kind≠6):poB (hd ts)=true:=by
 cases ts with
 | nil=>exact absurd rfl hk
 | cons t r=>exact h.1 t (by simp) hk
theorem Gt.ne {ts:List Tk} (h:Gt ts):ts≠[]:=by
 obtain ⟨t,ht,_⟩:=h.2
 rintro rfl
 simp at ht
theorem po_zero {t:Tk} (h:poB t=true) (hk:t.kind≠3):t.n=0:=by
 unfold poB at h
 simp only [Bool.and_eq_true,Bool.or_eq_true,decide_eq_true_eq] at h
 rcases h.1 with q | q
 ·first | exact q | exact absurd q hk
 ·first | exact q | exact absurd q hk
def tokT (s:Bs):Tk:=if kwB s then kwT s else sgT s
theorem isB_tok {s:Bs} {ts:List Tk} (h:Gt ts) (e:isB s ts=true):tkE (tokT s) (hd ts):=by
 have hk:=isB_kind e
 have hp:=h.hd hk
 obtain ⟨h1,h2⟩:=isB_iff.1 e
 have hz:=po_zero hp (by omega)
 have hs:∀ g ∈ signList,kwB g=false:=by decide
 rcases h1 with h1 | h1
 ·have hkw:kwB (hd ts).text=true:=by
   unfold poB at hp
   simp only [Bool.and_eq_true] at hp
   have hp:=hp.2
   rw [if_neg (by omega),if_pos h1] at hp
   exact hp
  rw [h2] at hkw
  unfold tokT
  rw [if_pos hkw]
  exact ⟨h1.symm,h2.symm,hz.symm⟩
 ·have hsg:signB (hd ts).text=true:=by
   unfold poB at hp
   simp only [Bool.and_eq_true] at hp
   have hp:=hp.2
   rw [if_neg (by omega),if_neg (by omega),if_neg (by omega),if_neg (by omega),if_pos h1] at hp
   exact hp
  rw [h2] at hsg
  have hn:=hs s (by unfold signB at hsg; simpa using hsg)
  unfold tokT
  rw [if_neg (by rw [hn]; decide)]
  exact ⟨h1.symm,h2.symm,hz.symm⟩
section
variable (w:Tk→Nat)
def cost:List Tk→Nat
 | []=>0
 | t :: r=>w t + cost r
theorem cost_app:∀ (a b:List Tk),cost w (a ++ b)=cost w a + cost w b
 | [],b=>by simp [cost]
 | t :: a,b=>by rw [List.cons_append,cost,cost,cost_app a b]; omega
def Wo:Prop:=∀ a b,tkE a b→w a=w b
variable {w} (hw:Wo w)
include hw
omit hw in
theorem cost_hd {ts:List Tk} (hn:(hd ts).kind≠6):cost w ts=w (hd ts) + cost w ts.tail:=by
 cases ts with
 | nil=>exact absurd rfl hn
 | cons t r=>rfl
theorem cost_isB {s:Bs} {ts:List Tk} (h:Gt ts) (e:isB s ts=true):cost w ts=w (tokT s) + cost w ts.tail:=by
 rw [cost_hd (isB_kind e),hw _ _ (isB_tok h e)]
omit hw in
theorem tkAt_cost (n:Nd) (l:Nat):cost w (tkAt n l)=if lvN n < l then w opT + cost w (tkB n) + w clT else cost w (tkB n):=by
 unfold tkAt wrapP
 by_cases h:lvN n < l
 ·rw [if_pos (by simpa using h),if_pos h,cost,cost_app]
  simp [cost]; omega
 ·rw [if_neg (by simpa using h),if_neg h]
omit hw in
theorem cost_mono (n:Nd) {l l':Nat} (h:l≤l'):cost w (tkAt n l)≤cost w (tkAt n l'):=by
 rw [tkAt_cost,tkAt_cost]
 split <;> split <;> omega
omit hw in
theorem op_mono (n:Nd) {l l':Nat} (h:l≤l'):opAtN n l≤opAtN n l':=by
 unfold opAtN wrapN
 simp only [decide_eq_true_eq]
 split <;> split <;> omega
def Mr (w:Tk→Nat) (k l:Nat) (ts:List Tk):Except Flt (Nd × List Tk)→Prop
 | .error _=>True
 | .ok x=>okB x.1=true∧opAtN x.1 l≤k∧cost w (tkAt x.1 l) + cost w x.2≤cost w ts∧Gt x.2
def Mi (w:Tk→Nat) (k l:Nat) (p:PP Nd):Prop:=∀ ts,Gt ts→Mr w k l ts (p ts)
omit hw in
theorem Mi.of {k l:Nat} {p:PP Nd} (h:Mi w k l p) {ts r:List Tk} {n:Nd} (hg:Gt ts) (e:p ts= .ok (n,r)):okB n=true∧opAtN n l≤k∧cost w (tkAt n l) + cost w r≤cost w ts∧Gt r:=by
 have:=h ts hg
 rw [e] at this
 exact this
omit hw in
theorem Mi.low {k l l':Nat} {p:PP Nd} (h:Mi w k l' p) (hl:l≤l'):Mi w k l p:=fun ts hg=>by
 have:=h ts hg
 cases e:p ts with
 | error e'=>trivial
 | ok x=>
   rw [e] at this
   obtain ⟨h1,h2,h3,h4⟩:=this
   exact ⟨h1,Nat.le_trans (op_mono x.1 hl) h2,Nat.le_trans (Nat.add_le_add_right (cost_mono (w:=w) x.1 hl) _) h3,h4⟩
def KdF (kd:Kd) (l:Nat):Prop:=∀ s,kdOf kd s≠0→binK (kdOf kd s)=some (tokT s,l,l,l + 1)
omit hw in
theorem kd_g {kd:Kd} {x:Nat × Nat × Nat} (h:∀ p ∈ kd,binK p.2=some (tokT p.1,x)):∀ s,kdOf kd s≠0→binK (kdOf kd s)=some (tokT s,x):=by
 intro s hs
 unfold kdOf at hs ⊢
 cases e:kd.lookup s with
 | none=>rw [e] at hs; exact absurd rfl hs
 | some v=>
   have hm:(s,v) ∈ kd:=by
    clear h hs
    induction kd with
    | nil=>simp at e
    | cons p r ih=>
      obtain ⟨a,b⟩:=p
      rw [List.lookup_cons] at e
      split at e
      ·rename_i hq
       have:s=a:=by simpa using hq
       cases e; subst this; simp
      ·exact List.mem_cons_of_mem _ (ih e)
   exact h _ hm
omit hw in
theorem kd_f {kd:Kd} {l:Nat} (h:∀ p ∈ kd,binK p.2=some (tokT p.1,l,l,l + 1)):KdF kd l:=kd_g h
theorem chainF_mi {op:PP Nd} {kd:Kd} {l k:Nat} (hkd:KdF kd l) (hop:Mi w k (l + 1) op):∀ (f:Nat) (n:Nd) (ts r:List Tk) (m:Nd),okB n=true→opAtN n l≤k→Gt ts→chainF op kd f n ts= .ok (m,r)→
 okB m=true∧opAtN m l≤k∧cost w (tkAt m l) + cost w r≤cost w (tkAt n l) + cost w ts∧Gt r
 | 0,n,ts,r,m,h1,h2,h3,h=>by cases h; exact ⟨h1,h2,Nat.le_refl _,h3⟩
 | f + 1,n,ts,r,m,h1,h2,h3,h=>by
   simp only [chainF] at h
   by_cases e:opAt kd ts=true
   ·rw [if_pos e] at h
    cases eo:op ts.tail with
    | error e'=>rw [bd_err eo] at h; cases h
    | ok x=>
      obtain ⟨b,r1⟩:=x
      rw [bd_ok eo] at h
      obtain ⟨b1,b2,b3,b4⟩:=hop.of (h3.tl (isB_kind (opAt_isB e))) eo
      have hne:kdOf kd (hd ts).text≠0:=by
       unfold opAt at e
       simp only [Bool.and_eq_true,decide_eq_true_eq] at e
       exact e.1
      have hb:=hkd _ hne
      have hf:=binK_f hb
      have hlv:lvN (.mk (kdOf kd (hd ts).text) [] 0 (hd ts).at_ [n,b])=l:=hf.lev
      have hok:okB (.mk (kdOf kd (hd ts).text) [] 0 (hd ts).at_ [n,b])=true:=by
       rw [okB.eq_def]
       simp only [hb,h1,b1]
       decide
      have hop':opAtN (.mk (kdOf kd (hd ts).text) [] 0 (hd ts).at_ [n,b]) l≤k:=by
       unfold opAtN wrapN
       rw [hlv,opB_bin hb]
       simp
       omega
      have hc:cost w (tkAt (.mk (kdOf kd (hd ts).text) [] 0 (hd ts).at_ [n,b]) l)=cost w (tkAt n l) + w (tokT (hd ts).text) + cost w (tkAt b (l + 1)):=by
       rw [tkAt_cost,hlv,if_neg (Nat.lt_irrefl _),tkB_bin hb,cost_app,cost]; omega
      have hts:=cost_isB hw h3 (opAt_isB e)
      obtain ⟨m1,m2,m3,m4⟩:=chainF_mi hkd hop f _ r1 r m hok hop' b4 h
      exact ⟨m1,m2,by omega,m4⟩
   ·rw [if_neg e] at h
    cases h; exact ⟨h1,h2,Nat.le_refl _,h3⟩
theorem chainP_mi {op:PP Nd} {kd:Kd} {l k:Nat} (hkd:KdF kd l) (hop:Mi w k (l + 1) op):Mi w k l (chainP op kd):=fun ts hg=>by
 cases e:chainP op kd ts with
 | error e'=>trivial
 | ok x=>
   obtain ⟨m,r⟩:=x
   unfold chainP at e
   cases eo:op ts with
   | error e'=>rw [bd_err eo] at e; cases e
   | ok y=>
     obtain ⟨n,r1⟩:=y
     rw [bd_ok eo] at e
     obtain ⟨b1,b2,b3,b4⟩:=hop.of hg eo
     obtain ⟨m1,m2,m3,m4⟩:=chainF_mi hw hkd hop _ n r1 r m b1 (Nat.le_trans (op_mono n (Nat.le_succ l)) b2) b4 e
     have:=cost_mono (w:=w) n (l:=l) (l':=l + 1) (by omega)
     exact ⟨m1,m2,by show cost w (tkAt m l) + cost w r≤cost w ts; omega,m4⟩
def LoM (w:Tk→Nat) (k:Nat):Prop:=∀ j,k=j + 1→Mi w j 0 (exprP (loK j))∧Mi w j 3 (notP (loK j))
omit hw in
theorem bd_inv {α β:Type} {p:PP α} {f:α→PP β} {ts r:List Tk} {b:β} (h:bd p f ts= .ok (b,r)):∃ a r1,p ts= .ok (a,r1)∧f a r1= .ok (b,r):=by
 cases e:p ts with
 | error e'=>rw [bd_err e] at h; cases h
 | ok x=>
   obtain ⟨a,r1⟩:=x
   rw [bd_ok e] at h
   exact ⟨a,r1,rfl,h⟩
omit hw in
theorem expP_inv {s:Bs} {ts r:List Tk} {a:Int} (h:expP s ts= .ok (a,r)):isB s ts=true∧r=ts.tail:=by
 unfold expP at h
 split at h
 ·rename_i e; cases h; exact ⟨e,rfl⟩
 ·cases h
omit hw in
theorem takeP_inv {k:Int} {ts r:List Tk} {t:Tk} (h:takeP k ts= .ok (t,r)):(hd ts).kind=k∧t=hd ts∧r=ts.tail:=by
 unfold takeP at h
 split at h
 ·rename_i e; cases h; exact ⟨e,rfl,rfl⟩
 ·cases h
omit hw in
theorem entP_inv {α:Type} {k:Nat} {s:Bs} {body:PP Nd × PP Nd→PP α} {ts r:List Tk} {a:α} (h:entP (loK k) s body ts= .ok (a,r)):∃ j,k=j + 1∧isB s ts=true∧body (exprP (loK j),notP (loK j)) ts.tail= .ok (a,r):=by
 unfold entP at h
 split at h
 ·rename_i e
  cases k with
  | zero=>cases h
  | succ j=>
    rw [lev1] at h
    exact ⟨j,rfl,e,h⟩
 ·cases h
theorem cost_exp {s:Bs} {ts r:List Tk} {a:Int} (hg:Gt ts) (h:expP s ts= .ok (a,r)):cost w ts=w (tokT s) + cost w r∧Gt r:=by
 obtain ⟨e,rfl⟩:=expP_inv h
 exact ⟨cost_isB hw hg e,hg.tl (isB_kind e)⟩
theorem take_name {ts r:List Tk} {t:Tk} (hg:Gt ts) (h:takeP 1 ts= .ok (t,r)):nameB t.text=true∧cost w ts=w (nmT t.text) + cost w r∧Gt r:=by
 obtain ⟨e,rfl,rfl⟩:=takeP_inv h
 have hk:(hd ts).kind≠6:=by rw [e]; decide
 have hp:=hg.hd hk
 have hz:=po_zero hp (by rw [e]; decide)
 refine ⟨?_,?_,hg.tl hk⟩
 ·unfold poB at hp
  rw [if_pos e] at hp
  simp only [Bool.and_eq_true] at hp
  unfold nameB
  rw [hp.2.1,hp.2.2]; rfl
 ·rw [cost_hd hk,hw (nmT (hd ts).text) (hd ts) ⟨e.symm,rfl,hz.symm⟩]
end
end Go.Proofs.YtmhdkbmnpekpoaaGreatDoor
end
section
set_option linter.unusedSimpArgs false
set_option linter.unusedVariables false
set_option maxRecDepth 8000
namespace Go.Proofs.YtmhdkbmnpekpoaaGreatDoor
open Gx Go
section
variable {w:Tk→Nat} (hw:Wo w)
theorem okB_word {k p:Int} {s:Bs} (h:wordK k=some s):okB (.mk k [] 0 p [])=true:=by
 unfold wordK at h
 repeat' split at h
 all_goals first
  | (cases h; done)
  | (rename_i hk; subst hk; rw [okB.eq_def]; rfl)
theorem lv_word {k p:Int} {s:Bs} (h:wordK k=some s):lvN (.mk k [] 0 p [])=8∧opB (.mk k [] 0 p [])=0:=by
 unfold wordK at h
 repeat' split at h
 all_goals first
  | (cases h; done)
  | (rename_i hk; subst hk; rw [opB.eq_def]; exact ⟨rfl,rfl⟩)
theorem Mr.leaf {k:Nat} {ts r:List Tk} {x:Nd} (h1:lvN x=8) (h2:okB x=true) (h3:opB x=0) (h4:cost w (tkB x) + cost w r≤cost w ts) (h5:Gt r):Mr w k 8 ts (.ok (x,r)):=by
 refine ⟨h2,?_,?_,h5⟩
 ·unfold opAtN wrapN
  rw [h1,h3]; simp
 ·show cost w (tkAt x 8) + _≤_
  rw [tkAt_cost,h1,if_neg (Nat.lt_irrefl _)]; exact h4
include hw
theorem word_mi {k:Nat} {c:Int} {s:Bs} {ts:List Tk} (hc:wordK c=some s) (hs:kwB s=true) (hg:Gt ts) (e:isB s ts=true):Mr w k 8 ts (.ok (.mk c [] 0 (hd ts).at_ [],ts.tail)):=by
 obtain ⟨h1,h2⟩:=lv_word (p:=(hd ts).at_) hc
 refine Mr.leaf h1 (okB_word hc) h2 ?_ (hg.tl (isB_kind e))
 rw [tkB_word hc,cost_isB hw hg e,cost,cost]
 unfold tokT
 rw [if_pos hs]; omega
theorem take_int {ts r:List Tk} {t:Tk} (hg:Gt ts) (h:takeP 3 ts= .ok (t,r)):0≤t.n∧t.n≤1000000000000000∧cost w ts=w (itT t.n) + cost w r∧Gt r:=by
 obtain ⟨e,rfl,rfl⟩:=takeP_inv h
 have hk:(hd ts).kind≠6:=by rw [e]; decide
 have hp:=hg.hd hk
 unfold poB at hp
 simp only [Bool.and_eq_true] at hp
 have hp:=hp.2
 rw [if_neg (by omega),if_neg (by omega),if_pos e] at hp
 simp only [Bool.and_eq_true,decide_eq_true_eq] at hp
 refine ⟨hp.2.1,hp.2.2,?_,hg.tl hk⟩
 rw [cost_hd hk,hw (itT (hd ts).n) (hd ts) ⟨e.symm,hp.1.symm,rfl⟩]
theorem intP_mi (k:Nat):Mi w k 8 intP:=fun ts hg=>by
 have leaf:∀ (m q:Int) (r:List Tk),-1000000000000000≤m→m≤1000000000000000→cost w (intTk m) + cost w r≤cost w ts→Gt r→Mr w k 8 ts (.ok (.mk 44 [] m q [],r)):=fun m q r h1 h2 h3 h4=>by
  refine Mr.leaf rfl ?_ ?_ ?_ h4
  ·rw [okB.eq_def]
   show (decide ([]=[]) && ([]:List Nd).isEmpty && decide _ && decide _)=true
   simp [h1,h2]
  ·rw [opB.eq_def]; rfl
  ·rw [tkB_int]; exact h3
 cases e:intP ts with
 | error e'=>trivial
 | ok x=>
   obtain ⟨n,r⟩:=x
   unfold intP at e
   by_cases hm:isB [45] ts=true
   ·rw [if_pos hm] at e
    obtain ⟨t,r1,e1,e2⟩:=bd_inv e
    cases e2
    obtain ⟨h1,h2,h3,h4⟩:=take_int hw (hg.tl (isB_kind hm)) e1
    have hc:=cost_isB hw hg hm
    have hwr:IntKind.i64.wrap (0 - t.n)= -t.n:=by rw [wrap_i64_id _ (by omega) (by omega)]; omega
    rw [hwr]
    refine leaf _ _ _ (by omega) (by omega) ?_ h4
    have ht:tokT [45]=sgT [45]:=rfl
    rw [ht] at hc
    unfold intTk
    by_cases hz:-t.n < 0
    ·rw [if_pos hz]
     simp only [cost,Int.neg_neg]; omega
    ·rw [if_neg hz]
     have:t.n=0:=by omega
     rw [this] at h3 ⊢
     simp only [cost]
     have:w (itT (-0))=w (itT 0):=rfl
     omega
   ·rw [if_neg hm] at e
    obtain ⟨t,r1,e1,e2⟩:=bd_inv e
    cases e2
    obtain ⟨h1,h2,h3,h4⟩:=take_int hw hg e1
    refine leaf _ _ _ (by omega) h2 ?_ h4
    unfold intTk
    rw [if_neg (by omega)]
    simp only [cost]; omega
theorem namedP_mi (k:Nat):Mi w k 8 (namedP 48):=fun ts hg=>by
 cases e:namedP 48 ts with
 | error e'=>trivial
 | ok x=>
   obtain ⟨n,r⟩:=x
   obtain ⟨t,r1,e1,e2⟩:=bd_inv e
   cases e2
   obtain ⟨h1,h2,h3⟩:=take_name hw hg e1
   refine Mr.leaf rfl ?_ ?_ ?_ h3
   ·rw [okB.eq_def]
    show (nameB t.text && decide (0=0) && ([]:List Nd).isEmpty)=true
    simp [h1]
   ·rw [opB.eq_def]; rfl
   ·rw [tkB_name]; simp only [cost]; omega
theorem take_quote {ts r:List Tk} {t:Tk} (hg:Gt ts) (h:takeP 4 ts= .ok (t,r)):validN t.text=true∧cost w ts=w (qtT t.text) + cost w r∧Gt r:=by
 obtain ⟨e,rfl,rfl⟩:=takeP_inv h
 have hk:(hd ts).kind≠6:=by rw [e]; decide
 have hp:=hg.hd hk
 have hz:=po_zero hp (by rw [e]; decide)
 refine ⟨?_,?_,hg.tl hk⟩
 ·unfold poB at hp
  simp only [Bool.and_eq_true] at hp
  have hp:=hp.2
  rw [if_neg (by omega),if_neg (by omega),if_neg (by omega),if_pos e] at hp
  exact hp
 ·rw [cost_hd hk,hw (qtT (hd ts).text) (hd ts) ⟨e.symm,rfl,hz.symm⟩]
theorem quoteP_mi (k:Nat):Mi w k 8 quoteP:=fun ts hg=>by
 cases e:quoteP ts with
 | error e'=>trivial
 | ok x=>
   obtain ⟨n,r⟩:=x
   obtain ⟨t,r1,e1,e2⟩:=bd_inv e
   cases e2
   obtain ⟨h1,h2,h3⟩:=take_quote hw hg e1
   refine Mr.leaf rfl ?_ ?_ ?_ h3
   ·rw [okB.eq_def]
    show (validN t.text && decide (0=0) && ([]:List Nd).isEmpty)=true
    simp [h1]
   ·rw [opB.eq_def]; rfl
   ·rw [tkB_quote]; simp only [cost]; omega
omit hw in
theorem okJ_other {fn:Bs} (h1:fn≠[114,101,99]) (h2:fn≠[109,97,112]) (a:Nd):okJ fn a=okB a∧opG fn a=opB a∧tkG fn a=tkB a:=by
 obtain ⟨k,t,n,p,ks⟩:=a
 refine ⟨?_,?_,?_⟩
 ·rw [okJ.eq_def]; simp only [h1,h2,if_false]
 ·rw [opG.eq_def]; simp only [h1,h2,if_false]
 ·rw [tkG.eq_def]; simp only [h1,h2,if_false]
omit hw in
theorem tkG_rec {k n p:Int} {t:Bs} {x:Nd}:tkG [114,101,99] (.mk k t n p [x])=nmT t :: sgT [58] :: tkB x∧opG [114,101,99] (.mk k t n p [x])=opB x∧okJ [114,101,99] (.mk k t n p [x])=(decide (k=52) && nameB t && decide (n=0) && okB x):=by
 refine ⟨?_,?_,?_⟩
 ·rw [tkG.eq_def]; rfl
 ·rw [opG.eq_def]; rfl
 ·rw [okJ.eq_def]; rfl
omit hw in
theorem tkG_map {k n p:Int} {t:Bs} {x y:Nd}:tkG [109,97,112] (.mk k t n p [x,y])=tkB x ++ sgT [58] :: tkB y∧opG [109,97,112] (.mk k t n p [x,y])=max (opB x) (opB y)∧okJ [109,97,112] (.mk k t n p [x,y])=(decide (k=52) && decide (t=[]) && decide (n=0) && okB x && okB y):=by
 refine ⟨?_,?_,?_⟩
 ·rw [tkG.eq_def]; rfl
 ·rw [opG.eq_def]; rfl
 ·rw [okJ.eq_def]; rfl
omit hw in
theorem zero_of {j:Nat} {p:PP Nd} (h:Mi w j 0 p) {ts r:List Tk} {n:Nd} (hg:Gt ts) (e:p ts= .ok (n,r)):okB n=true∧opB n≤j∧cost w (tkB n) + cost w r≤cost w ts∧Gt r:=by
 have:=h.of hg e
 rw [opAt_zero,tkAt_zero] at this
 exact this
theorem argP_mi {j:Nat} (h:Mi w j 0 (exprP (loK j))) {fn:Bs} {ts r:List Tk} {a:Nd} (hg:Gt ts) (e:argP (exprP (loK j)) fn ts= .ok (a,r)):okJ fn a=true∧opG fn a≤j∧cost w (tkG fn a) + cost w r≤cost w ts∧Gt r:=by
 unfold argP at e
 by_cases h1:fn=[114,101,99]
 ·rw [if_pos h1] at e
  subst h1
  obtain ⟨t,r1,e1,e⟩:=bd_inv e
  obtain ⟨c,r2,e2,e⟩:=bd_inv e
  obtain ⟨x,r3,e3,e⟩:=bd_inv e
  cases e
  obtain ⟨a1,a2,a3⟩:=take_name hw hg e1
  obtain ⟨b1,b2⟩:=cost_exp hw a3 e2
  obtain ⟨c1,c2,c3,c4⟩:=zero_of h b2 e3
  obtain ⟨g1,g2,g3⟩:=tkG_rec (k:=52) (n:=0) (p:=(hd ts).at_) (t:=t.text) (x:=x)
  rw [g1,g2,g3]
  refine ⟨by simp [a1,c1],c2,?_,c4⟩
  have ht:tokT [58]=sgT [58]:=rfl
  rw [ht] at b1
  simp only [cost]; omega
 ·rw [if_neg h1] at e
  by_cases h2:fn=[109,97,112]
  ·rw [if_pos h2] at e
   subst h2
   obtain ⟨x,r1,e1,e⟩:=bd_inv e
   obtain ⟨c,r2,e2,e⟩:=bd_inv e
   obtain ⟨y,r3,e3,e⟩:=bd_inv e
   cases e
   obtain ⟨a1,a2,a3,a4⟩:=zero_of h hg e1
   obtain ⟨b1,b2⟩:=cost_exp hw a4 e2
   obtain ⟨c1,c2,c3,c4⟩:=zero_of h b2 e3
   obtain ⟨g1,g2,g3⟩:=tkG_map (k:=52) (n:=0) (p:=(hd ts).at_) (t:=[]) (x:=x) (y:=y)
   rw [g1,g2,g3]
   refine ⟨by simp [a1,c1],by omega,?_,c4⟩
   have ht:tokT [58]=sgT [58]:=rfl
   rw [ht] at b1
   rw [cost_app,cost]; omega
  ·rw [if_neg h2] at e
   obtain ⟨g1,g2,g3⟩:=okJ_other h1 h2 a
   rw [g1,g2,g3]
   exact zero_of h hg e
theorem listF_mi {j:Nat} (h:Mi w j 0 (exprP (loK j))) {fn:Bs}:∀ (f:Nat) (l:List Nd) (ts r:List Tk) (m:List Nd),ts.length≤f→Gt ts→listF (argP (exprP (loK j)) fn) f l ts= .ok (m,r)→
 ∃ a m',m=l ++ a :: m'∧okA fn (a :: m')=true∧opA fn (a :: m')≤j∧cost w (tkG fn a ++ tkA fn false m') + w clT + cost w r≤cost w ts∧Gt r
 | 0,l,ts,r,m,hf,hg,_=>by have:=List.length_pos_iff.2 hg.ne; omega
 | f + 1,l,ts,r,m,hf,hg,e=>by
   simp only [listF] at e
   obtain ⟨a,r1,e1,e⟩:=bd_inv e
   obtain ⟨c,r2,e2,e⟩:=bd_inv e
   obtain ⟨a1,a2,a3,a4⟩:=argP_mi hw h hg e1
   have l1:=(argP_Lt (exprP_Lt (loK_dn j)) (exprP_dn (loK_dn j)) fn).of e1
   have l2:=comma_lt' e2
   unfold commaP at e2
   by_cases hc:isB [44] r1=true
   ·rw [if_pos hc] at e2
    cases e2
    have hcc:=cost_isB hw a4 hc
    simp only [if_true] at e
    obtain ⟨b,m',rfl,b1,b2,b3,b4⟩:=listF_mi h f _ _ r m (by omega) (a4.tl (isB_kind hc)) e
    refine ⟨a,b :: m',by simp,?_,?_,?_,b4⟩
    ·rw [okA,a1,b1]; rfl
    ·rw [opA]; omega
    ·have ht:tokT [44]=sgT [44]:=rfl
     rw [ht] at hcc
     have e3:tkA fn false (b :: m')=sgT [44] :: (tkG fn b ++ tkA fn false m'):=by rw [tkA]; simp
     rw [e3,cost_app,cost]; omega
   ·rw [if_neg hc] at e2
    obtain ⟨c',r3,e3,e4⟩:=bd_inv e2
    cases e4
    obtain ⟨b1,b2⟩:=cost_exp hw a4 e3
    simp only [Bool.false_eq_true,if_false] at e
    cases e
    refine ⟨a,[],rfl,?_,?_,?_,b2⟩
    ·rw [okA,a1,okA]; rfl
    ·rw [opA,opA]; omega
    ·have ht:tokT [41]=clT:=rfl
     rw [ht] at b1
     rw [tkA,List.append_nil]; omega
theorem listP_mi {j:Nat} (h:Mi w j 0 (exprP (loK j))) {fn:Bs} {ts r:List Tk} {m:List Nd} (hg:Gt ts) (e:listP (argP (exprP (loK j)) fn) ts= .ok (m,r)) :
 okA fn m=true∧opA fn m≤j∧cost w (tkA fn true m) + w clT + cost w r≤cost w ts∧Gt r:=by
 unfold listP at e
 by_cases hc:isB [41] ts=true
 ·rw [if_pos hc] at e
  cases e
  have hcc:=cost_isB hw hg hc
  have ht:tokT [41]=clT:=rfl
  rw [ht] at hcc
  exact ⟨by rw [okA],by rw [opA]; omega,by rw [tkA,cost]; omega,hg.tl (isB_kind hc)⟩
 ·rw [if_neg hc] at e
  ·obtain ⟨a,m',rfl,b1,b2,b3,b4⟩:=listF_mi hw h _ [] ts r m (Nat.le_refl _) hg e
   rw [List.nil_append]
   have e3:tkA fn true (a :: m')=tkG fn a ++ tkA fn false m':=by rw [tkA]; simp
   exact ⟨b1,b2,by rw [e3]; exact b3,b4⟩
theorem primP_mi {k:Nat} (hlo:LoM w k):Mi w k 8 (primP (loK k)):=fun ts hg=>by
 unfold primP
 have ite:∀ {c:Prop} [Decidable c] {x y:Except Flt (Nd × List Tk)},(c→Mr w k 8 ts x)→(¬ c→Mr w k 8 ts y)→Mr w k 8 ts (if c then x else y):=fun {c _ x y} h1 h2=>by
  by_cases h:c
  ·rw [if_pos h]; exact h1 h
  ·rw [if_neg h]; exact h2 h
 refine ite (fun _=>intP_mi hw k ts hg) fun _=>?_
 refine ite (fun _=>quoteP_mi hw k ts hg) fun _=>?_
 refine ite (fun _=>namedP_mi hw k ts hg) fun _=>?_
 refine ite (fun e=>word_mi hw (s:=[116,114,117,101]) rfl rfl hg e) fun _=>?_
 refine ite (fun e=>word_mi hw (s:=[102,97,108,115,101]) rfl rfl hg e) fun _=>?_
 refine ite (fun e=>word_mi hw (s:=[115]) rfl rfl hg e) fun _=>?_
 refine ite (fun e=>word_mi hw (s:=[98,111,116,116,111,109]) rfl rfl hg e) fun _=>?_
 refine ite (fun _=>?_) fun _=>?_
 ·-- parentheses
  cases e:entP (loK k) [40] (fun x=>bd x.1 fun n=>bd (expP [41]) fun _=>ret n) ts with
  | error e'=>trivial
  | ok x=>
    obtain ⟨n,r⟩:=x
    have e0:=entP_inv e
    clear e
    obtain ⟨j,hj,hb,e⟩:=e0
    subst hj
    obtain ⟨n',r1,e1,e⟩:=bd_inv e
    obtain ⟨c,r2,e2,e⟩:=bd_inv e
    cases e
    have hc:=cost_isB hw hg hb
    obtain ⟨a1,a2,a3,a4⟩:=zero_of (hlo j rfl).1 (hg.tl (isB_kind hb)) e1
    obtain ⟨b1,b2⟩:=cost_exp hw a4 e2
    have t1:tokT [40]=opT:=rfl
    have t2:tokT [41]=clT:=rfl
    rw [t1] at hc
    rw [t2] at b1
    refine ⟨a1,?_,?_,b2⟩
    ·show opAtN n 8≤j + 1
     unfold opAtN wrapN
     split <;> omega
    ·show cost w (tkAt n 8) + cost w r≤cost w ts
     rw [tkAt_cost]
     split <;> omega
 refine ite (fun q=>?_) fun _=>trivial
 -- a call
 cases e:entP (loK k) [40] (fun x=>bd (listP (argP x.1 (hd ts).text)) fun l=>ret (Nd.mk 51 (hd ts).text 0 (hd ts).at_ l)) ts.tail with
 | error e'=>trivial
 | ok x=>
   obtain ⟨n,r⟩:=x
   have e0:=entP_inv e
   clear e
   obtain ⟨j,hj,hb,e⟩:=e0
   subst hj
   obtain ⟨l,r1,e1,e⟩:=bd_inv e
   cases e
   have hk:(hd ts).kind≠6:=by rw [q.1]; decide
   have hg1:=hg.tl hk
   have hc:=cost_isB hw hg1 hb
   have t1:tokT [40]=opT:=rfl
   rw [t1] at hc
   obtain ⟨a1,a2,a3,a4⟩:=listP_mi hw (hlo j rfl).1 (hg1.tl (isB_kind hb)) e1
   have hz:=po_zero (hg.hd hk) (by rw [q.1]; decide)
   have hc0:=cost_hd (w:=w) hk
   rw [← hw (kwT (hd ts).text) (hd ts) ⟨q.1.symm,rfl,hz.symm⟩] at hc0
   have hlv:lvN (.mk 51 (hd ts).text 0 (hd ts).at_ l)=8:=rfl
   refine ⟨?_,?_,?_,a4⟩
   ·show okB _=true
    rw [okB.eq_def]
    show (decide ((hd ts).text ∈ fnList) && decide (0=0) && okA (hd ts).text l)=true
    simp [q.2,a1]
   ·show opAtN _ 8≤j + 1
    unfold opAtN wrapN
    rw [hlv,opB_call]
    simp; omega
   ·show cost w (tkAt _ 8) + _≤_
    rw [tkAt_cost,hlv,if_neg (Nat.lt_irrefl _),tkB_call,cost,cost,cost_app]
    simp only [cost]; omega
theorem postF_mi {k:Nat} (hlo:LoM w k):∀ (f:Nat) (n:Nd) (ts r:List Tk) (m:Nd),okB n=true→opAtN n 7≤k→Gt ts→postF (loK k) f n ts= .ok (m,r)→
 okB m=true∧opAtN m 7≤k∧cost w (tkAt m 7) + cost w r≤cost w (tkAt n 7) + cost w ts∧Gt r
 | 0,n,ts,r,m,h1,h2,h3,h=>by cases h; exact ⟨h1,h2,Nat.le_refl _,h3⟩
 | f + 1,n,ts,r,m,h1,h2,h3,h=>by
   simp only [postF] at h
   by_cases e:isB [46] ts=true
   ·rw [if_pos e] at h
    obtain ⟨t,r1,e1,h⟩:=bd_inv h
    have hc:=cost_isB hw h3 e
    have t1:tokT [46]=sgT [46]:=rfl
    rw [t1] at hc
    obtain ⟨a1,a2,a3⟩:=take_name hw (h3.tl (isB_kind e)) e1
    have hlv:lvN (.mk 42 t.text 0 (hd ts).at_ [n])=7:=rfl
    obtain ⟨m1,m2,m3,m4⟩:=postF_mi hlo f _ r1 r m (by
     rw [okB.eq_def]
     show (nameB t.text && decide (0=0) && okB n)=true
     simp [a1,h1]) (by
     unfold opAtN wrapN
     rw [hlv,opB_field]
     simpa using h2) a3 h
    refine ⟨m1,m2,?_,m4⟩
    have hcm:cost w (tkAt (.mk 42 t.text 0 (hd ts).at_ [n]) 7)=cost w (tkAt n 7) + w (sgT [46]) + w (nmT t.text):=by
     rw [tkAt_cost,hlv,if_neg (Nat.lt_irrefl _),tkB_field,cost_app]
     simp only [cost]; omega
    omega
   rw [if_neg e] at h
   by_cases e2:isB [91] ts=true
   ·rw [if_pos e2] at h
    have e0:=entP_inv h
    clear h
    obtain ⟨j,hj,_,h⟩:=e0
    subst hj
    obtain ⟨b,r1,e1,h⟩:=bd_inv h
    obtain ⟨c,r2,e3,h⟩:=bd_inv h
    have hc:=cost_isB hw h3 e2
    have t1:tokT [91]=sgT [91]:=rfl
    have t2:tokT [93]=sgT [93]:=rfl
    rw [t1] at hc
    obtain ⟨a1,a2,a3,a4⟩:=zero_of (hlo j rfl).1 (h3.tl (isB_kind e2)) e1
    obtain ⟨b1,b2⟩:=cost_exp hw a4 e3
    rw [t2] at b1
    have hlv:lvN (.mk 43 [] 0 (hd ts).at_ [n,b])=7:=rfl
    obtain ⟨m1,m2,m3,m4⟩:=postF_mi hlo f _ r2 r m (by
     rw [okB.eq_def]
     show (decide (([]:Bs)=[]) && decide (0=0) && okB n && okB b)=true
     simp [a1,h1]) (by
     unfold opAtN wrapN
     rw [hlv,opB_index]
     simp
     omega) b2 h
    refine ⟨m1,m2,?_,m4⟩
    have hcm:cost w (tkAt (.mk 43 [] 0 (hd ts).at_ [n,b]) 7)=cost w (tkAt n 7) + w (sgT [91]) + cost w (tkB b) + w (sgT [93]):=by
     rw [tkAt_cost,hlv,if_neg (Nat.lt_irrefl _),tkB_index,cost_app,cost,cost_app]
     simp only [cost]; omega
    omega
   ·rw [if_neg e2] at h
    cases h; exact ⟨h1,h2,Nat.le_refl _,h3⟩
theorem postP_mi {k:Nat} (hlo:LoM w k):Mi w k 7 (postP (loK k)):=fun ts hg=>by
 cases e:postP (loK k) ts with
 | error e'=>trivial
 | ok x=>
   obtain ⟨m,r⟩:=x
   obtain ⟨n,r1,e1,e⟩:=bd_inv e
   obtain ⟨b1,b2,b3,b4⟩:=((primP_mi hw hlo).low (l:=7) (by omega)).of hg e1
   obtain ⟨m1,m2,m3,m4⟩:=postF_mi hw hlo _ n r1 r m b1 b2 b4 e
   exact ⟨m1,m2,by show cost w (tkAt m 7) + cost w r≤cost w ts; omega,m4⟩
theorem sumP_mi {k:Nat} (hlo:LoM w k):Mi w k 6 (sumP (loK k)):=chainP_mi hw (kd_f (by decide)) (postP_mi hw hlo)
theorem joinP_mi {k:Nat} (hlo:LoM w k):Mi w k 5 (joinP (loK k)):=chainP_mi hw (kd_f (by decide)) (sumP_mi hw hlo)
theorem cmpP_mi {k:Nat} (hlo:LoM w k):Mi w k 4 (cmpP (loK k)):=fun ts hg=>by
 have hj:=joinP_mi hw hlo
 cases e:cmpP (loK k) ts with
 | error e'=>trivial
 | ok x=>
   obtain ⟨m,r⟩:=x
   obtain ⟨n,r1,e1,e⟩:=bd_inv e
   obtain ⟨b1,b2,b3,b4⟩:=hj.of hg e1
   by_cases ho:opAt kCmp r1=true
   ·rw [if_pos ho] at e
    obtain ⟨c,r2,e2,e⟩:=bd_inv e
    cases e
    obtain ⟨c1,c2,c3,c4⟩:=hj.of (b4.tl (isB_kind (opAt_isB ho))) e2
    have hne:kdOf kCmp (hd r1).text≠0:=by
     unfold opAt at ho
     simp only [Bool.and_eq_true,decide_eq_true_eq] at ho
     exact ho.1
    have hkd:∀ s,kdOf kCmp s≠0→binK (kdOf kCmp s)=some (tokT s,4,5,5):=kd_g (by decide)
    have hb:=hkd _ hne
    have hf:=binK_f hb
    have hlv:lvN (.mk (kdOf kCmp (hd r1).text) [] 0 (hd r1).at_ [n,c])=4:=hf.lev
    have hts:=cost_isB hw b4 (opAt_isB ho)
    refine ⟨?_,?_,?_,c4⟩
    ·show okB _=true
     rw [okB.eq_def]
     simp only [hb,b1,c1]
     decide
    ·show opAtN _ 4≤k
     unfold opAtN wrapN
     rw [hlv,opB_bin hb]
     simp
     omega
    ·show cost w (tkAt _ 4) + _≤_
     rw [tkAt_cost,hlv,if_neg (Nat.lt_irrefl _),tkB_bin hb,cost_app,cost]
     show _ + cost w r≤_
     omega
   ·rw [if_neg ho] at e
    cases e
    exact ⟨b1,Nat.le_trans (op_mono (l:=4) (l':=5) _ (by omega)) b2,Nat.le_trans (Nat.add_le_add_right (cost_mono (w:=w) (l:=4) (l':=5) _ (by omega)) _) b3,b4⟩
theorem notP_mi {k:Nat} (hlo:LoM w k):Mi w k 3 (notP (loK k)):=fun ts hg=>by
 unfold notP
 by_cases hb:isB [110,111,116] ts=true
 ·rw [if_pos hb]
  cases e:entP (loK k) [110,111,116] (fun x=>bd x.2 fun n=>ret (Nd.mk 33 [] 0 (hd ts).at_ [n])) ts with
  | error e'=>trivial
  | ok x=>
    obtain ⟨m,r⟩:=x
    have e0:=entP_inv e
    clear e
    obtain ⟨j,hj,_,e⟩:=e0
    subst hj
    obtain ⟨n,r1,e1,e⟩:=bd_inv e
    cases e
    have hc:=cost_isB hw hg hb
    have t1:tokT [110,111,116]=kwT [110,111,116]:=rfl
    rw [t1] at hc
    obtain ⟨a1,a2,a3,a4⟩:=(hlo j rfl).2.of (hg.tl (isB_kind hb)) e1
    have hlv:lvN (.mk 33 [] 0 (hd ts).at_ [n])=3:=rfl
    refine ⟨?_,?_,?_,a4⟩
    ·show okB _=true
     rw [okB.eq_def]
     show (decide (([]:Bs)=[]) && decide (0=0) && okB n)=true
     simp [a1]
    ·show opAtN _ 3≤j + 1
     unfold opAtN wrapN
     rw [hlv,opB_not]
     simp; omega
    ·show cost w (tkAt _ 3) + _≤_
     rw [tkAt_cost,hlv,if_neg (Nat.lt_irrefl _),tkB_not,cost]
     show _ + cost w r≤_
     omega
 ·rw [if_neg hb]
  exact (cmpP_mi hw hlo).low (by omega) ts hg
theorem andP_mi {k:Nat} (hlo:LoM w k):Mi w k 2 (andP (loK k)):=chainP_mi hw (kd_f (by decide)) (notP_mi hw hlo)
theorem orP_mi {k:Nat} (hlo:LoM w k):Mi w k 1 (orP (loK k)):=chainP_mi hw (kd_f (by decide)) (andP_mi hw hlo)
theorem exprP_mi {k:Nat} (hlo:LoM w k):Mi w k 0 (exprP (loK k)):=fun ts hg=>by
 unfold exprP
 by_cases hb:isB [105,102] ts=true
 ·rw [if_pos hb]
  cases e:entP (loK k) [105,102] (fun x=>bd x.1 fun a=>bd (expP [116,104,101,110]) fun _=>bd x.1 fun b=>bd (expP [101,108,115,101]) fun _=>bd x.1 fun c=>ret (Nd.mk 30 [] 0 (hd ts).at_ [a,b,c])) ts with
  | error e'=>trivial
  | ok x=>
    obtain ⟨m,r⟩:=x
    have e0:=entP_inv e
    clear e
    obtain ⟨j,hj,_,e⟩:=e0
    subst hj
    have hz:=(hlo j rfl).1
    obtain ⟨a,r1,e1,e⟩:=bd_inv e
    obtain ⟨_,r2,e2,e⟩:=bd_inv e
    obtain ⟨b,r3,e3,e⟩:=bd_inv e
    obtain ⟨_,r4,e4,e⟩:=bd_inv e
    obtain ⟨c,r5,e5,e⟩:=bd_inv e
    cases e
    have hc:=cost_isB hw hg hb
    obtain ⟨a1,a2,a3,a4⟩:=zero_of hz (hg.tl (isB_kind hb)) e1
    obtain ⟨f1,f2⟩:=cost_exp hw a4 e2
    obtain ⟨b1,b2,b3,b4⟩:=zero_of hz f2 e3
    obtain ⟨g1,g2⟩:=cost_exp hw b4 e4
    obtain ⟨c1,c2,c3,c4⟩:=zero_of hz g2 e5
    have t1:tokT [105,102]=kwT [105,102]:=rfl
    have t2:tokT [116,104,101,110]=kwT [116,104,101,110]:=rfl
    have t3:tokT [101,108,115,101]=kwT [101,108,115,101]:=rfl
    rw [t1] at hc
    rw [t2] at f1
    rw [t3] at g1
    have hlv:lvN (.mk 30 [] 0 (hd ts).at_ [a,b,c])=0:=rfl
    refine ⟨?_,?_,?_,c4⟩
    ·show okB _=true
     rw [okB.eq_def]
     show (decide (([]:Bs)=[]) && decide (0=0) && okB a && okB b && okB c)=true
     simp [a1,b1,c1]
    ·show opAtN _ 0≤j + 1
     rw [opAt_zero,opB_if]; omega
    ·show cost w (tkAt _ 0) + cost w r≤_
     rw [tkAt_zero,tkB_if,cost,cost_app,cost,cost_app,cost]
     omega
 ·rw [if_neg hb]
  exact (orP_mi hw hlo).low (by omega) ts hg
theorem loM:∀ k:Nat,LoM w k
 | 0=>fun j hj=>by omega
 | k + 1=>fun j hj=>by
   obtain rfl:j=k:=by omega
   exact ⟨exprP_mi hw (loM j),notP_mi hw (loM j)⟩
theorem expr_min {k:Nat} {ts r:List Tk} {n:Nd} (hg:Gt ts) (e:exprP (loK k) ts= .ok (n,r)):okB n=true∧opB n≤k∧cost w (tkB n) + cost w r≤cost w ts∧Gt r:=zero_of (exprP_mi hw (loM hw k)) hg e
end
end Go.Proofs.YtmhdkbmnpekpoaaGreatDoor
end
section
set_option linter.unusedSimpArgs false
set_option linter.unusedVariables false
set_option maxRecDepth 8000
namespace Go.Proofs.YtmhdkbmnpekpoaaGreatDoor
open Gx Go
def textOf:Nd→Bs
 | .mk _ t _ _ _=>t
def numOf:Nd→Int
 | .mk _ _ n _ _=>n
def kidsOf:Nd→List Nd
 | .mk _ _ _ _ ks=>ks
def okQ (x:Nd):Bool:=decide (kindOf x=47) && decide (numOf x=0) && (kidsOf x).isEmpty && validN (textOf x)
def okI (x:Nd):Bool:=decide (kindOf x=44) && decide (textOf x=[]) && (kidsOf x).isEmpty && decide (-1000000000000000≤numOf x) && decide (numOf x≤1000000000000000)
def plainN (x:Nd):Bool:=decide (textOf x=[]) && decide (numOf x=0)
def okR (x:Nd):Bool:=decide (kindOf x=20) && plainN x && !(kidsOf x).isEmpty && (kidsOf x).all okQ
def leadQ (ks:List Nd):List Nd:=ks.takeWhile fun x=>decide (kindOf x=47)
def restQ (ks:List Nd):List Nd:=ks.dropWhile fun x=>decide (kindOf x=47)
def tkQs:Bool→List Nd→List Tk
 | _,[]=>[]
 | first,a :: r=>(if first then [] else [sgT [44]]) ++ qtT (textOf a) :: tkQs false r
def tkAll (ks:List Nd):List Tk:=if ks.isEmpty then [] else opT :: (tkQs true ks ++ [clT])
def tkR (x:Nd):List Tk:=sgT [59] :: (tkQs true (kidsOf x).dropLast ++ [sgT [61,62],qtT (((kidsOf x).getLast?.map textOf).getD [])])
def tkRs:List Nd→List Tk
 | []=>[]
 | x :: r=>tkR x ++ tkRs r
mutual
def tkL:Nd→List Tk
 | .mk k t n p ks=>
   if k=21 then [nmT t]
   else if k=10 then [kwT [102,108,97,103]]
   else if k=18 then [kwT [114,101,103,105,115,116,101,114]]
   else if k=13 then kwT [115,101,116] :: tkAll ks
   else if k=17 then kwT [102,108,97,116] :: tkAll ks
   else if k=14 then kwT [109,97,112] :: (tkAll ks.dropLast ++ ((tkLs ks).getLast?.getD []))
   else if k=11 then kwT [109,97,120] :: opT :: (intTk ((ks.map numOf).getD 0 0) ++ sgT [44] :: (intTk ((ks.map numOf).getD 1 0) ++ [clT]))
   else if k=12 then kwT [109,105,110] :: opT :: (intTk ((ks.map numOf).getD 0 0) ++ sgT [44] :: (intTk ((ks.map numOf).getD 1 0) ++ [clT]))
   else if k=16 then kwT [108,101,120] :: opT :: ((tkLs ks).getD 0 [] ++ sgT [44] :: ((tkLs ks).getD 1 [] ++ [clT]))
   else if k=15 then sgT [123] :: (tkMs true ks ++ [sgT [125]])
   else if k=19 then kwT [99,108,111,115,101,100] :: opT :: (tkQs true (leadQ ks) ++ (tkRs (restQ ks) ++ [clT]))
   else []
def tkLs:List Nd→List (List Tk)
 | []=>[]
 | x :: r=>tkL x :: tkLs r
def tkMs:Bool→List Nd→List Tk
 | _,[]=>[]
 | first,x :: r=>(if first then [] else [sgT [44]]) ++ (tkM x ++ tkMs false r)
def tkM:Nd→List Tk
 | .mk k t n p ks=>nmT t :: sgT [58] :: ((tkLs ks).getD 0 [])
end
mutual
def okL:Nd→Bool
 | .mk k t n p ks=>
   if k=21 then nameB t && decide (n=0) && ks.isEmpty
   else decide (t=[]) && decide (n=0) && (
   if k=10 then ks.isEmpty
   else if k=18 then ks.isEmpty
   else if k=13 then ks.all okQ
   else if k=17 then ks.all okQ
   else if k=14 then ks.dropLast.all okQ && ((okLs ks).getLast?.getD false)
   else if k=11 then decide (ks.length=2) && ks.all okI
   else if k=12 then decide (ks.length=2) && ks.all okI
   else if k=16 then decide (ks.length=2) && (okLs ks).all id
   else if k=15 then !ks.isEmpty && okMs ks
   else if k=19 then (leadQ ks).all okQ && (restQ ks).all okR
   else false)
def okLs:List Nd→List Bool
 | []=>[]
 | x :: r=>okL x :: okLs r
def okMs:List Nd→Bool
 | []=>true
 | x :: r=>okM x && okMs r
def okM:Nd→Bool
 | .mk k t n p ks=>decide (k=22) && nameB t && decide (n=0) && decide (ks.length=1) && (okLs ks).all id
end
mutual
def opL:Nd→Nat
 | .mk k t n p ks=>
   if k=14 then ((opLs ks).getLast?.getD 0) + 1
   else if k=16 then max ((opLs ks).getD 0 0) ((opLs ks).getD 1 0) + 1
   else if k=15 then opMs ks + 1
   else 0
def opLs:List Nd→List Nat
 | []=>[]
 | x :: r=>opL x :: opLs r
def opMs:List Nd→Nat
 | []=>0
 | x :: r=>max (opM x) (opMs r)
def opM:Nd→Nat
 | .mk k t n p ks=>(opLs ks).getD 0 0
end
inductive LtC:Nd→Prop
 | named {n p:Int} {t:Bs} (ht:nameB t=true) (hn:n=0):LtC (.mk 21 t n p [])
 | flag {n p:Int} {t:Bs} (ht:t=[]) (hn:n=0):LtC (.mk 10 t n p [])
 | register {n p:Int} {t:Bs} (ht:t=[]) (hn:n=0):LtC (.mk 18 t n p [])
 | set {n p:Int} {t:Bs} {ks:List Nd} (ht:t=[]) (hn:n=0) (hk:ks.all okQ=true):LtC (.mk 13 t n p ks)
 | flat {n p:Int} {t:Bs} {ks:List Nd} (ht:t=[]) (hn:n=0) (hk:ks.all okQ=true):LtC (.mk 17 t n p ks)
 | map {n p:Int} {t:Bs} {ks:List Nd} {x:Nd} (ht:t=[]) (hn:n=0) (hk:ks.all okQ=true) (hx:okL x=true):LtC (.mk 14 t n p (ks ++ [x]))
 | max {n p:Int} {t:Bs} {a b:Nd} (ht:t=[]) (hn:n=0) (ha:okI a=true) (hb:okI b=true):LtC (.mk 11 t n p [a,b])
 | min {n p:Int} {t:Bs} {a b:Nd} (ht:t=[]) (hn:n=0) (ha:okI a=true) (hb:okI b=true):LtC (.mk 12 t n p [a,b])
 | lex {n p:Int} {t:Bs} {a b:Nd} (ht:t=[]) (hn:n=0) (ha:okL a=true) (hb:okL b=true):LtC (.mk 16 t n p [a,b])
 | prod {n p:Int} {t:Bs} {a:Nd} {ks:List Nd} (ht:t=[]) (hn:n=0) (ha:okM a=true) (hk:okMs ks=true):LtC (.mk 15 t n p (a :: ks))
 | closed {n p:Int} {t:Bs} {ks:List Nd} (ht:t=[]) (hn:n=0) (h1:(leadQ ks).all okQ=true) (h2:(restQ ks).all okR=true):LtC (.mk 19 t n p ks)
theorem okLs_app:∀ (l:List Nd) (x:Nd),okLs (l ++ [x])=okLs l ++ [okL x]
 | [],x=>by rw [List.nil_append,okLs,okLs]; rfl
 | y :: l,x=>by rw [List.cons_append,okLs,okLs,okLs_app l x]; rfl
theorem tkLs_app:∀ (l:List Nd) (x:Nd),tkLs (l ++ [x])=tkLs l ++ [tkL x]
 | [],x=>by rw [List.nil_append,tkLs,tkLs]; rfl
 | y :: l,x=>by rw [List.cons_append,tkLs,tkLs,tkLs_app l x]; rfl
theorem opLs_app:∀ (l:List Nd) (x:Nd),opLs (l ++ [x])=opLs l ++ [opL x]
 | [],x=>by rw [List.nil_append,opLs,opLs]; rfl
 | y :: l,x=>by rw [List.cons_append,opLs,opLs,opLs_app l x]; rfl
theorem lat_cases:∀ {x:Nd},okL x=true→LtC x
 | .mk k t n p ks,h=>by
   rw [okL.eq_def] at h
   simp only at h
   by_cases k0:k=21
   ·subst k0
    rw [if_pos rfl] at h
    simp only [Bool.and_eq_true,decide_eq_true_eq,List.isEmpty_iff] at h
    obtain ⟨⟨h1,h2⟩,rfl⟩:=h
    exact .named h1 h2
   rw [if_neg k0] at h
   simp only [Bool.and_eq_true,decide_eq_true_eq] at h
   obtain ⟨⟨ht,hn⟩,h⟩:=h
   by_cases k1:k=10
   ·subst k1
    rw [if_pos rfl] at h
    simp only [List.isEmpty_iff] at h
    subst h
    exact .flag ht hn
   rw [if_neg k1] at h
   by_cases k2:k=18
   ·subst k2
    rw [if_pos rfl] at h
    simp only [List.isEmpty_iff] at h
    subst h
    exact .register ht hn
   rw [if_neg k2] at h
   by_cases k3:k=13
   ·subst k3; rw [if_pos rfl] at h; exact .set ht hn h
   rw [if_neg k3] at h
   by_cases k4:k=17
   ·subst k4; rw [if_pos rfl] at h; exact .flat ht hn h
   rw [if_neg k4] at h
   by_cases k5:k=14
   ·subst k5
    rw [if_pos rfl] at h
    simp only [Bool.and_eq_true] at h
    cases hks:ks with
    | nil=>rw [hks,okLs] at h; exact absurd h.2 (by decide)
    | cons a r=>
      have hne:ks≠[]:=by rw [hks]; simp
      have e:=(List.dropLast_concat_getLast hne).symm
      rw [← hks,e]
      rw [e,okLs_app,List.getLast?_append] at h
      rw [List.dropLast_concat] at h
      exact .map ht hn h.1 (by simpa using h.2)
   rw [if_neg k5] at h
   by_cases k6:k=11
   ·subst k6
    rw [if_pos rfl] at h
    simp only [Bool.and_eq_true,decide_eq_true_eq] at h
    match ks,h with
    | [a,b],h=>
      have h:=h.2
      simp only [List.all_cons,List.all_nil,Bool.and_true,Bool.and_eq_true] at h
      exact .max ht hn h.1 h.2
   rw [if_neg k6] at h
   by_cases k7:k=12
   ·subst k7
    rw [if_pos rfl] at h
    simp only [Bool.and_eq_true,decide_eq_true_eq] at h
    match ks,h with
    | [a,b],h=>
      have h:=h.2
      simp only [List.all_cons,List.all_nil,Bool.and_true,Bool.and_eq_true] at h
      exact .min ht hn h.1 h.2
   rw [if_neg k7] at h
   by_cases k8:k=16
   ·subst k8
    rw [if_pos rfl] at h
    simp only [Bool.and_eq_true,decide_eq_true_eq] at h
    match ks,h with
    | [a,b],h=>
      have h:=h.2
      rw [okLs,okLs,okLs] at h
      simp only [List.all_cons,List.all_nil,Bool.and_true,Bool.and_eq_true,id] at h
      exact .lex ht hn h.1 h.2
   rw [if_neg k8] at h
   by_cases k9:k=15
   ·subst k9
    rw [if_pos rfl] at h
    simp only [Bool.and_eq_true] at h
    match ks,h with
    | a :: r,h=>
      have h:=h.2
      rw [okMs,Bool.and_eq_true] at h
      exact .prod ht hn h.1 h.2
   rw [if_neg k9] at h
   by_cases k10:k=19
   ·subst k10
    rw [if_pos rfl,Bool.and_eq_true] at h
    exact .closed ht hn h.1 h.2
   rw [if_neg k10] at h
   cases h
section
variable {n p:Int} {t:Bs} {a b x:Nd} {ks:List Nd}
theorem tkL_named:tkL (.mk 21 t n p ks)=[nmT t]:=by rw [tkL.eq_def]; rfl
theorem tkL_flag:tkL (.mk 10 t n p ks)=[kwT [102,108,97,103]]:=by rw [tkL.eq_def]; rfl
theorem tkL_register:tkL (.mk 18 t n p ks)=[kwT [114,101,103,105,115,116,101,114]]:=by rw [tkL.eq_def]; rfl
theorem tkL_set:tkL (.mk 13 t n p ks)=kwT [115,101,116] :: tkAll ks:=by rw [tkL.eq_def]; rfl
theorem tkL_flat:tkL (.mk 17 t n p ks)=kwT [102,108,97,116] :: tkAll ks:=by rw [tkL.eq_def]; rfl
theorem tkL_map:tkL (.mk 14 t n p (ks ++ [x]))=kwT [109,97,112] :: (tkAll ks ++ tkL x):=by
 have e:tkL (.mk 14 t n p (ks ++ [x]))=kwT [109,97,112] :: (tkAll (ks ++ [x]).dropLast ++ ((tkLs (ks ++ [x])).getLast?.getD [])):=by rw [tkL.eq_def]; rfl
 rw [e,List.dropLast_concat,tkLs_app,List.getLast?_append]; rfl
theorem tkL_max:tkL (.mk 11 t n p [a,b])=kwT [109,97,120] :: opT :: (intTk (numOf a) ++ sgT [44] :: (intTk (numOf b) ++ [clT])):=by rw [tkL.eq_def]; rfl
theorem tkL_min:tkL (.mk 12 t n p [a,b])=kwT [109,105,110] :: opT :: (intTk (numOf a) ++ sgT [44] :: (intTk (numOf b) ++ [clT])):=by rw [tkL.eq_def]; rfl
theorem tkL_lex:tkL (.mk 16 t n p [a,b])=kwT [108,101,120] :: opT :: (tkL a ++ sgT [44] :: (tkL b ++ [clT])):=by
 have e:tkL (.mk 16 t n p [a,b])=kwT [108,101,120] :: opT :: ((tkLs [a,b]).getD 0 [] ++ sgT [44] :: ((tkLs [a,b]).getD 1 [] ++ [clT])):=by rw [tkL.eq_def]; rfl
 rw [e,tkLs,tkLs,tkLs]; rfl
theorem tkL_prod:tkL (.mk 15 t n p ks)=sgT [123] :: (tkMs true ks ++ [sgT [125]]):=by rw [tkL.eq_def]; rfl
theorem tkL_closed:tkL (.mk 19 t n p ks)=kwT [99,108,111,115,101,100] :: opT :: (tkQs true (leadQ ks) ++ (tkRs (restQ ks) ++ [clT])):=by rw [tkL.eq_def]; rfl
theorem tkM_eq {k:Int}:tkM (.mk k t n p [x])=nmT t :: sgT [58] :: tkL x:=by rw [tkM,tkLs]; rfl
theorem opL_map:opL (.mk 14 t n p (ks ++ [x]))=opL x + 1:=by
 have e:opL (.mk 14 t n p (ks ++ [x]))=((opLs (ks ++ [x])).getLast?.getD 0) + 1:=by rw [opL.eq_def]; rfl
 rw [e,opLs_app,List.getLast?_append]; rfl
theorem opL_lex:opL (.mk 16 t n p [a,b])=max (opL a) (opL b) + 1:=by
 have e:opL (.mk 16 t n p [a,b])=max ((opLs [a,b]).getD 0 0) ((opLs [a,b]).getD 1 0) + 1:=by rw [opL.eq_def]; rfl
 rw [e,opLs,opLs,opLs]; rfl
theorem opL_prod:opL (.mk 15 t n p ks)=opMs ks + 1:=by rw [opL.eq_def]; rfl
theorem opM_eq {k:Int}:opM (.mk k t n p [x])=opL x:=by rw [opM,opLs]; rfl
theorem okM_inv:∀ {m:Nd},okM m=true→∃ t p x,m= .mk 22 t 0 p [x]∧nameB t=true∧okL x=true
 | .mk k t n p ks,h=>by
   rw [okM] at h
   simp only [Bool.and_eq_true,decide_eq_true_eq] at h
   obtain ⟨⟨⟨⟨rfl,h2⟩,rfl⟩,h4⟩,h5⟩:=h
   match ks,h4,h5 with
   | [x],_,h5=>
     rw [okLs,okLs] at h5
     exact ⟨t,p,x,rfl,h2,by simpa using h5⟩
theorem okQ_inv:∀ {m:Nd},okQ m=true→∃ t p,m= .mk 47 t 0 p []∧validN t=true
 | .mk k t n p ks,h=>by
   unfold okQ at h
   simp only [Bool.and_eq_true,decide_eq_true_eq,List.isEmpty_iff] at h
   obtain ⟨⟨⟨h1,h2⟩,h3⟩,h4⟩:=h
   have h1:k=47:=h1
   have h2:n=0:=h2
   have h3:ks=[]:=h3
   subst h1 h2 h3
   exact ⟨t,p,rfl,h4⟩
theorem okI_inv:∀ {m:Nd},okI m=true→∃ n p,m= .mk 44 [] n p []∧-1000000000000000≤n∧n≤1000000000000000
 | .mk k t n p ks,h=>by
   unfold okI at h
   simp only [Bool.and_eq_true,decide_eq_true_eq,List.isEmpty_iff] at h
   obtain ⟨⟨⟨⟨h1,h2⟩,h3⟩,h4⟩,h5⟩:=h
   have h1:k=44:=h1
   have h2:t=[]:=h2
   have h3:ks=[]:=h3
   subst h1 h2 h3
   exact ⟨n,p,rfl,h4,h5⟩
end
theorem quote_rt {t:Bs} (Y:List Tk):quoteP (qtT t :: Y)= .ok (.mk 47 t 0 0 [],Y):=rfl
theorem quotesF_rt {Y:List Tk} (hY:isB [44] Y=false):∀ (qs:List Nd) (f:Nat) (l:List Nd),qs.all okQ=true→qs.length≤f→∃ m,LsE qs m∧quotesF f l (tkQs false qs ++ Y)= .ok (l ++ m,Y)
 | [],0,l,_,_=>⟨[],LsE.nil,by rw [tkQs,List.append_nil]; rfl⟩
 | [],f + 1,l,_,_=>⟨[],LsE.nil,by
   rw [tkQs,List.nil_append,List.append_nil]
   simp only [quotesF]
   rw [if_neg (by rw [hY]; decide)]⟩
 | q :: qs,0,l,_,h=>by simp at h
 | q :: qs,f + 1,l,ho,h=>by
   rw [List.all_cons,Bool.and_eq_true] at ho
   obtain ⟨t,p,rfl,_⟩:=okQ_inv ho.1
   obtain ⟨m,h1,h2⟩:=quotesF_rt hY qs f (l ++ [.mk 47 t 0 0 []]) ho.2 (by simpa using h)
   refine ⟨.mk 47 t 0 0 [] :: m,LsE.cons (ndE rfl rfl rfl LsE.nil) h1,?_⟩
   have e:tkQs false (.mk 47 t 0 p [] :: qs) ++ Y=sgT [44] :: qtT t :: (tkQs false qs ++ Y):=by rw [tkQs]; rfl
   rw [e]
   simp only [quotesF]
   rw [if_pos (isB_same (s:=[44]) (t:=sgT [44]) (.inr rfl) rfl _)]
   show bd quoteP _ (qtT t :: (tkQs false qs ++ Y))=_
   rw [bd_ok (quote_rt _),h2]
   simp
theorem tkQs_len:∀ (qs:List Nd),qs.length≤(tkQs false qs).length
 | []=>Nat.zero_le _
 | q :: qs=>by
   have:=tkQs_len qs
   rw [tkQs]
   simp only [List.length_cons,List.length_append]
   omega
theorem quotesP_rt {Y:List Tk} (hY:isB [44] Y=false) {q:Nd} {qs:List Nd} (h:(q :: qs).all okQ=true):∃ m,LsE (q :: qs) m∧quotesP (tkQs true (q :: qs) ++ Y)= .ok (m,Y):=by
 rw [List.all_cons,Bool.and_eq_true] at h
 obtain ⟨t,p,rfl,_⟩:=okQ_inv h.1
 obtain ⟨m,h1,h2⟩:=quotesF_rt hY qs (tkQs false qs ++ Y).length [.mk 47 t 0 0 []] h.2 (by have:=tkQs_len qs; simp; omega)
 refine ⟨.mk 47 t 0 0 [] :: m,LsE.cons (ndE rfl rfl rfl LsE.nil) h1,?_⟩
 have e:tkQs true (.mk 47 t 0 p [] :: qs) ++ Y=qtT t :: (tkQs false qs ++ Y):=by rw [tkQs]; rfl
 rw [e]
 unfold quotesP
 rw [bd_ok (quote_rt _)]
 exact h2
theorem allowed_rt {Y:List Tk} (hY:isB [40] Y=false) {qs:List Nd} (h:qs.all okQ=true):∃ m,LsE qs m∧allowedP (tkAll qs ++ Y)= .ok (m,Y):=by
 cases qs with
 | nil=>
   refine ⟨[],LsE.nil,?_⟩
   show allowedP Y=_
   unfold allowedP
   rw [if_neg (by rw [hY]; decide)]
 | cons q qs=>
   obtain ⟨m,h1,h2⟩:=quotesP_rt (Y:=clT :: Y) (isB_diff (by decide) _) h
   refine ⟨m,h1,?_⟩
   have e:tkAll (q :: qs) ++ Y=opT :: (tkQs true (q :: qs) ++ clT :: Y):=by
    show opT :: (tkQs true (q :: qs) ++ [clT]) ++ Y=_
    simp
   rw [e]
   unfold allowedP
   rw [if_pos (isB_same (s:=[40]) (t:=opT) (.inr rfl) rfl _)]
   show bd quotesP _ (tkQs true (q :: qs) ++ clT :: Y)=_
   rw [bd_ok h2,bd_ok (expP_cl Y)]; rfl
theorem int_rt {n:Int} (h1:-1000000000000000≤n) (h2:n≤1000000000000000) (Y:List Tk):intP (intTk n ++ Y)= .ok (.mk 44 [] n 0 [],Y):=by
 unfold intTk
 by_cases hneg:n < 0
 ·rw [if_pos hneg]
  show intP (sgT [45] :: itT (-n) :: Y)=_
  unfold intP
  rw [if_pos (isB_same (s:=[45]) (t:=sgT [45]) (.inr rfl) rfl _)]
  have t1:takeP 3 (itT (-n) :: Y)= .ok (itT (-n),Y):=rfl
  show bd (takeP 3) _ (itT (-n) :: Y)=_
  rw [bd_ok t1]
  have hw:IntKind.i64.wrap (0 - (itT (-n)).n)=n:=by
   show IntKind.i64.wrap (0 - -n)=n
   rw [wrap_i64_id _ (by omega) (by omega)]; omega
  show ret (Nd.mk 44 [] (IntKind.i64.wrap (0 - (itT (-n)).n)) 0 []) Y=_
  rw [hw]; rfl
 ·rw [if_neg hneg]; rfl
theorem expP_op (r:List Tk):expP [40] (opT :: r)= .ok (0,r):=expP_sg [40] r
theorem two_rt {q:PP Nd} {A B Y:List Tk} {a b:Nd} (ha:q (A ++ sgT [44] :: (B ++ clT :: Y))= .ok (a,sgT [44] :: (B ++ clT :: Y))) (hb:q (B ++ clT :: Y)= .ok (b,clT :: Y)) :
 twoP q (opT :: (A ++ sgT [44] :: (B ++ [clT])) ++ Y)= .ok ([a,b],Y):=by
 have e:opT :: (A ++ sgT [44] :: (B ++ [clT])) ++ Y=opT :: (A ++ sgT [44] :: (B ++ clT :: Y)):=by simp
 rw [e]
 unfold twoP
 rw [bd_ok (expP_op _),bd_ok ha,bd_ok (expP_sg [44] _),bd_ok hb,bd_ok (expP_cl Y)]
 rfl
theorem rule_rt {Y:List Tk} {x:Nd} (h:okR x=true):∃ x',NdE x x'∧ruleP ((tkR x).tail ++ Y)= .ok (x',Y):=by
 obtain ⟨k,t,n,p,ks⟩:=x
 unfold okR plainN at h
 simp only [Bool.and_eq_true,decide_eq_true_eq] at h
 obtain ⟨⟨⟨h1,h2,h3⟩,h4⟩,h5⟩:=h
 have h1:k=20:=h1
 have h2:t=[]:=h2
 have h3:n=0:=h3
 subst h1 h2 h3
 have hne:ks≠[]:=by
  intro q
  subst q
  simp [kidsOf] at h4
 have ek:=(List.dropLast_concat_getLast hne).symm
 generalize hqs:ks.dropLast=qs at *
 generalize ks.getLast hne=c at *
 subst ek
 have h5:(qs ++ [c]).all okQ=true:=h5
 rw [List.all_append,Bool.and_eq_true] at h5
 obtain ⟨h6,h7⟩:=h5
 have h7:okQ c=true:=by simpa using h7
 obtain ⟨tc,pc,rfl,_⟩:=okQ_inv h7
 have e:(tkR (.mk 20 [] 0 p (qs ++ [.mk 47 tc 0 pc []]))).tail ++ Y=tkQs true qs ++ sgT [61,62] :: qtT tc :: Y:=by
  unfold tkR kidsOf
  simp only [List.tail_cons,List.dropLast_concat,List.getLast?_append,List.getLast?_singleton,Option.some_or,Option.map_some,Option.getD_some]
  simp [textOf]
 rw [e]
 have hq:∃ m,LsE qs m∧optQ (tkQs true qs ++ sgT [61,62] :: qtT tc :: Y)= .ok (m,sgT [61,62] :: qtT tc :: Y):=by
  cases qs with
  | nil=>exact ⟨[],LsE.nil,rfl⟩
  | cons q r=>
    obtain ⟨m,m1,m2⟩:=quotesP_rt (Y:=sgT [61,62] :: qtT tc :: Y) (isB_diff (by decide) _) h6
    refine ⟨m,m1,?_⟩
    unfold optQ
    rw [if_pos,m2]
    rw [tkQs]; rfl
 obtain ⟨m,m1,m2⟩:=hq
 refine ⟨.mk 20 [] 0 (hd (tkQs true qs ++ sgT [61,62] :: qtT tc :: Y)).at_ (m ++ [.mk 47 tc 0 0 []]),ndE rfl rfl rfl (m1.app (LsE.one (ndE rfl rfl rfl LsE.nil))),?_⟩
 unfold ruleP
 rw [bd_ok m2,bd_ok (expP_sg [61,62] _),bd_ok (quote_rt Y)]
 rfl
theorem tkR_cons (x:Nd) (Y:List Tk):tkR x ++ Y=sgT [59] :: ((tkR x).tail ++ Y):=rfl
theorem rules_rt {Y:List Tk} (hY:isB [59] Y=false):∀ (rs:List Nd) (f:Nat) (l:List Nd),rs.all okR=true→rs.length≤f→∃ m,LsE rs m∧rulesF f l (tkRs rs ++ Y)= .ok (l ++ m,Y)
 | [],0,l,_,_=>⟨[],LsE.nil,by rw [tkRs,List.append_nil]; rfl⟩
 | [],f + 1,l,_,_=>⟨[],LsE.nil,by
   rw [tkRs,List.nil_append,List.append_nil]
   simp only [rulesF]
   rw [if_neg (by rw [hY]; decide)]⟩
 | x :: rs,0,l,_,h=>by simp at h
 | x :: rs,f + 1,l,ho,h=>by
   rw [List.all_cons,Bool.and_eq_true] at ho
   obtain ⟨x',x1,x2⟩:=rule_rt (Y:=tkRs rs ++ Y) ho.1
   obtain ⟨m,h1,h2⟩:=rules_rt hY rs f (l ++ [x']) ho.2 (by simpa using h)
   refine ⟨x' :: m,LsE.cons x1 h1,?_⟩
   rw [tkRs,List.append_assoc,tkR_cons]
   simp only [rulesF]
   rw [if_pos (isB_same (s:=[59]) (t:=sgT [59]) (.inr rfl) rfl _)]
   show bd ruleP _ ((tkR x).tail ++ (tkRs rs ++ Y))=_
   rw [bd_ok x2,h2]
   simp
theorem tkRs_len:∀ (rs:List Nd),rs.length≤(tkRs rs).length
 | []=>Nat.zero_le _
 | x :: rs=>by
   have:=tkRs_len rs
   rw [tkRs]
   unfold tkR
   simp only [List.length_cons,List.length_append]
   omega
theorem split_q (ks:List Nd):ks=leadQ ks ++ restQ ks:=(List.takeWhile_append_dropWhile).symm
theorem closed_rt {Y:List Tk} {ks:List Nd} (h1:(leadQ ks).all okQ=true) (h2:(restQ ks).all okR=true):∃ m,LsE ks m∧closedP (opT :: (tkQs true (leadQ ks) ++ (tkRs (restQ ks) ++ [clT])) ++ Y)= .ok (m,Y):=by
 have e:opT :: (tkQs true (leadQ ks) ++ (tkRs (restQ ks) ++ [clT])) ++ Y=opT :: (tkQs true (leadQ ks) ++ (tkRs (restQ ks) ++ clT :: Y)):=by simp
 rw [e]
 have hh:isB [44] (tkRs (restQ ks) ++ clT :: Y)=false∧(hd (tkRs (restQ ks) ++ clT :: Y)).kind≠4:=by
  cases restQ ks with
  | nil=>rw [tkRs]; exact ⟨isB_diff (t:=clT) (by decide) _,by show (5:Int)≠4; decide⟩
  | cons x r=>rw [tkRs,List.append_assoc,tkR_cons]; exact ⟨isB_diff (t:=sgT [59]) (by decide) _,by show (5:Int)≠4; decide⟩
 have hq:∃ m,LsE (leadQ ks) m∧optQ (tkQs true (leadQ ks) ++ (tkRs (restQ ks) ++ clT :: Y))= .ok (m,tkRs (restQ ks) ++ clT :: Y):=by
  cases hl:leadQ ks with
  | nil=>
    refine ⟨[],LsE.nil,?_⟩
    rw [tkQs,List.nil_append]
    unfold optQ
    rw [if_neg hh.2]
  | cons q r=>
    rw [hl] at h1
    obtain ⟨m,m1,m2⟩:=quotesP_rt hh.1 h1
    refine ⟨m,m1,?_⟩
    unfold optQ
    rw [if_pos,m2]
    rw [tkQs]; rfl
 obtain ⟨m,m1,m2⟩:=hq
 obtain ⟨m',m3,m4⟩:=rules_rt (Y:=clT :: Y) (isB_diff (by decide) _) (restQ ks) (tkRs (restQ ks) ++ clT :: Y).length m h2 (by have:=tkRs_len (restQ ks); simp; omega)
 refine ⟨m ++ m',by
  have:=m1.app m3
  rw [← split_q] at this; exact this,?_⟩
 unfold closedP
 rw [bd_ok (expP_op _),bd_ok m2]
 show bd (rulesF (tkRs (restQ ks) ++ clT :: Y).length m) _ _=_
 rw [bd_ok m4,bd_ok (expP_cl Y)]
 rfl
theorem levL1 (k:Nat):loL (k + 1)=some (latP (loL k)):=by
 show some (levL k)=_
 rw [levL_eq]
def RtL (x:Nd):Prop:=okL x=true→∀ k,opL x≤k→∀ Y,isB [40] Y=false→∃ x',NdE x x'∧latP (loL k) (tkL x ++ Y)= .ok (x',Y)
theorem first_lat {x:Nd} (h:okL x=true) (Y:List Tk):isB [40] (tkL x ++ Y)=false:=by
 have hs:=lat_cases h
 cases hs with
 | named=>rw [tkL_named]; rfl
 | flag=>rw [tkL_flag]; rfl
 | register=>rw [tkL_register]; rfl
 | set=>rw [tkL_set]; rfl
 | flat=>rw [tkL_flat]; rfl
 | map=>rw [tkL_map]; rfl
 | max=>rw [tkL_max]; rfl
 | min=>rw [tkL_min]; rfl
 | lex=>rw [tkL_lex]; rfl
 | prod=>rw [tkL_prod]; rfl
 | closed=>rw [tkL_closed]; rfl
section
variable {N:Nat} (ih:∀ x,sizeN x≤N→RtL x)
include ih
theorem mem_rt {m:Nd} (hs:sizeN m≤N) (ho:okM m=true) {k:Nat} (hk:opM m≤k) {Y:List Tk} (hY:isB [40] Y=false):∃ m',NdE m m'∧memP (latP (loL k)) (tkM m ++ Y)= .ok (m',Y):=by
 obtain ⟨t,p,x,rfl,ht,hx⟩:=okM_inv ho
 rw [opM_eq] at hk
 rw [tkM_eq]
 simp only [sizeN,sizeL] at hs
 obtain ⟨x',h1,h2⟩:=ih x (by omega) hx k hk Y hY
 refine ⟨.mk 22 t 0 0 [x'],ndE rfl rfl rfl (LsE.one h1),?_⟩
 unfold memP
 show bd (takeP 1) _ (nmT t :: sgT [58] :: (tkL x ++ Y))=_
 have t1:takeP 1 (nmT t :: sgT [58] :: (tkL x ++ Y))= .ok (nmT t,sgT [58] :: (tkL x ++ Y)):=rfl
 rw [bd_ok t1,bd_ok (expP_sg [58] _),bd_ok h2]
 rfl
theorem mems_rt {k:Nat} {Y:List Tk}:∀ (ks:List Nd) (a:Nd) (f:Nat) (l:List Nd),sizeN a≤N→sizeL ks≤N→okM a=true→okMs ks=true→opM a≤k→opMs ks≤k→ks.length < f→
 ∃ m,LsE (a :: ks) m∧memF (latP (loL k)) f l (tkM a ++ (tkMs false ks ++ sgT [125] :: Y))= .ok (l ++ m,sgT [125] :: Y)
 | [],a,0,l,_,_,_,_,_,_,h=>by omega
 | [],a,f + 1,l,h1,h2,h3,h4,h5,h6,h7=>by
   obtain ⟨a',e1,e2⟩:=mem_rt ih h1 h3 h5 (Y:=sgT [125] :: Y) rfl
   refine ⟨[a'],LsE.one e1,?_⟩
   rw [tkMs,List.nil_append]
   simp only [memF]
   rw [bd_ok e2]
   rfl
 | b :: r,a,0,l,_,_,_,_,_,_,h=>by omega
 | b :: r,a,f + 1,l,h1,h2,h3,h4,h5,h6,h7=>by
   simp only [sizeL] at h2
   simp only [List.length_cons] at h7
   rw [okMs,Bool.and_eq_true] at h4
   rw [opMs] at h6
   have e:tkMs false (b :: r) ++ sgT [125] :: Y=sgT [44] :: (tkM b ++ (tkMs false r ++ sgT [125] :: Y)):=by
    rw [tkMs]; simp
   obtain ⟨a',e1,e2⟩:=mem_rt ih h1 h3 h5 (Y:=sgT [44] :: (tkM b ++ (tkMs false r ++ sgT [125] :: Y))) rfl
   obtain ⟨m,e3,e4⟩:=mems_rt (k:=k) (Y:=Y) r b f (l ++ [a']) (by omega) (by omega) h4.1 h4.2 (by omega) (by omega) (by omega)
   refine ⟨a' :: m,LsE.cons e1 e3,?_⟩
   rw [e]
   simp only [memF]
   rw [bd_ok e2]
   show (if isB [44] (sgT [44] :: _)=true then memF _ f (l ++ [a']) _ else _)=_
   rw [if_pos (isB_same (s:=[44]) (t:=sgT [44]) (.inr rfl) rfl _)]
   show memF _ f (l ++ [a']) (tkM b ++ (tkMs false r ++ sgT [125] :: Y))=_
   rw [e4]
   simp
end
theorem tkMs_len:∀ (ks:List Nd),ks.length≤(tkMs false ks).length
 | []=>Nat.zero_le _
 | a :: r=>by
   have:=tkMs_len r
   rw [tkMs]
   simp only [List.length_cons,List.length_append,Bool.false_eq_true,if_false]
   simp; omega
theorem rtL_all:∀ (N:Nat) (x:Nd),sizeN x≤N→RtL x
 | 0,x,h=>by cases x; simp only [sizeN] at h; omega
 | N + 1,x,h=>by
   have ih:=rtL_all N
   intro ho k hk Y hY
   have hs:=lat_cases ho
   cases hs with
   | @named n p t ht hn=>rw [tkL_named]; exact ⟨.mk 21 t 0 0 [],ndE rfl rfl hn LsE.nil,rfl⟩
   | @flag n p t ht hn=>rw [tkL_flag]; exact ⟨.mk 10 [] 0 0 [],ndE rfl ht hn LsE.nil,rfl⟩
   | @register n p t ht hn=>rw [tkL_register]; exact ⟨.mk 18 [] 0 0 [],ndE rfl ht hn LsE.nil,rfl⟩
   | @set n p t ks ht hn hk'=>
     rw [tkL_set]
     obtain ⟨m,m1,m2⟩:=allowed_rt hY hk'
     refine ⟨.mk 13 [] 0 0 m,ndE rfl ht hn m1,?_⟩
     have e:latP (loL k) (kwT [115,101,116] :: tkAll ks ++ Y)=bd allowedP (fun l=>ret (Nd.mk 13 [] 0 0 l)) (tkAll ks ++ Y):=rfl
     rw [e,bd_ok m2]; rfl
   | @flat n p t ks ht hn hk'=>
     rw [tkL_flat]
     obtain ⟨m,m1,m2⟩:=allowed_rt hY hk'
     refine ⟨.mk 17 [] 0 0 m,ndE rfl ht hn m1,?_⟩
     have e:latP (loL k) (kwT [102,108,97,116] :: tkAll ks ++ Y)=bd allowedP (fun l=>ret (Nd.mk 17 [] 0 0 l)) (tkAll ks ++ Y):=rfl
     rw [e,bd_ok m2]; rfl
   | @map n p t ks x ht hn hk' hx=>
     rw [opL_map] at hk
     rw [tkL_map]
     obtain ⟨k,rfl⟩:∃ k',k=k' + 1:=⟨k - 1,by omega⟩
     have hsz:sizeN x≤N:=by
      simp only [sizeN] at h
      have hsl:∀ l:List Nd,sizeL (l ++ [x])=sizeL l + sizeN x:=by
       intro l
       induction l with
       | nil=>simp [sizeL]
       | cons y l ih2=>rw [List.cons_append,sizeL,sizeL,ih2]; omega
      rw [hsl] at h
      omega
     obtain ⟨x',x1,x2⟩:=ih x hsz hx k (by omega) Y hY
     obtain ⟨m,m1,m2⟩:=allowed_rt (first_lat hx Y) hk'
     refine ⟨.mk 14 [] 0 0 (m ++ [x']),ndE rfl ht hn (m1.app (LsE.one x1)),?_⟩
     have e1:kwT [109,97,112] :: (tkAll ks ++ tkL x) ++ Y=kwT [109,97,112] :: (tkAll ks ++ (tkL x ++ Y)):=by simp
     rw [e1]
     have e:latP (loL (k + 1)) (kwT [109,97,112] :: (tkAll ks ++ (tkL x ++ Y)))=bd allowedP (fun l=>bd (levL k) fun y=>ret (Nd.mk 14 [] 0 0 (l ++ [y]))) (tkAll ks ++ (tkL x ++ Y)):=rfl
     rw [e,bd_ok m2,levL_eq,bd_ok x2]; rfl
   | @max n p t a b ht hn ha hb=>
     rw [tkL_max]
     obtain ⟨na,pa,rfl,a1,a2⟩:=okI_inv ha
     obtain ⟨nb,pb,rfl,b1,b2⟩:=okI_inv hb
     refine ⟨.mk 11 [] 0 0 [.mk 44 [] na 0 [],.mk 44 [] nb 0 []],ndE rfl ht hn (LsE.two (ndE rfl rfl rfl LsE.nil) (ndE rfl rfl rfl LsE.nil)),?_⟩
     have e:∀ Z,latP (loL k) (kwT [109,97,120] :: Z)=bd (twoP intP) (fun l=>ret (Nd.mk 11 [] 0 0 l)) Z:=fun Z=>rfl
     have en:∀ (q z:Int),numOf (.mk 44 [] q z [])=q:=fun _ _=>rfl
     rw [List.cons_append,e,en,en,bd_ok (two_rt (int_rt a1 a2 _) (int_rt b1 b2 _))]; rfl
   | @min n p t a b ht hn ha hb=>
     rw [tkL_min]
     obtain ⟨na,pa,rfl,a1,a2⟩:=okI_inv ha
     obtain ⟨nb,pb,rfl,b1,b2⟩:=okI_inv hb
     refine ⟨.mk 12 [] 0 0 [.mk 44 [] na 0 [],.mk 44 [] nb 0 []],ndE rfl ht hn (LsE.two (ndE rfl rfl rfl LsE.nil) (ndE rfl rfl rfl LsE.nil)),?_⟩
     have e:∀ Z,latP (loL k) (kwT [109,105,110] :: Z)=bd (twoP intP) (fun l=>ret (Nd.mk 12 [] 0 0 l)) Z:=fun Z=>rfl
     have en:∀ (q z:Int),numOf (.mk 44 [] q z [])=q:=fun _ _=>rfl
     rw [List.cons_append,e,en,en,bd_ok (two_rt (int_rt a1 a2 _) (int_rt b1 b2 _))]; rfl
   | @lex n p t a b ht hn ha hb=>
     rw [opL_lex] at hk
     rw [tkL_lex]
     simp only [sizeN,sizeL] at h
     obtain ⟨k,rfl⟩:∃ k',k=k' + 1:=⟨k - 1,by omega⟩
     obtain ⟨b',b1,b2⟩:=ih b (by omega) hb k (by omega) (clT :: Y) rfl
     obtain ⟨a',a1,a2⟩:=ih a (by omega) ha k (by omega) (sgT [44] :: (tkL b ++ clT :: Y)) rfl
     refine ⟨.mk 16 [] 0 0 [a',b'],ndE rfl ht hn (LsE.two a1 b1),?_⟩
     have e:∀ Z,latP (loL (k + 1)) (kwT [108,101,120] :: Z)=bd (twoP (levL k)) (fun l=>ret (Nd.mk 16 [] 0 0 l)) Z:=fun Z=>rfl
     rw [List.cons_append,e,levL_eq,bd_ok (two_rt a2 b2)]; rfl
   | @prod n p t a ks ht hn ha hk'=>
     rw [opL_prod,opMs] at hk
     rw [tkL_prod]
     simp only [sizeN,sizeL] at h
     obtain ⟨k,rfl⟩:∃ k',k=k' + 1:=⟨k - 1,by omega⟩
     have e1:sgT [123] :: (tkMs true (a :: ks) ++ [sgT [125]]) ++ Y=sgT [123] :: (tkM a ++ (tkMs false ks ++ sgT [125] :: Y)):=by
      rw [tkMs]; simp
     rw [e1]
     obtain ⟨m,m1,m2⟩:=mems_rt ih (k:=k) (Y:=Y) ks a ((tkM a ++ (tkMs false ks ++ sgT [125] :: Y)).length + 1) [] (by omega) (by omega) ha hk' (by omega) (by omega) (by have:=tkMs_len ks; simp; omega)
     refine ⟨.mk 15 [] 0 0 m,ndE rfl ht hn m1,?_⟩
     have e:∀ Z,latP (loL (k + 1)) (sgT [123] :: Z)=bd (memsP (levL k)) (fun l=>ret (Nd.mk 15 [] 0 0 l)) Z:=fun Z=>rfl
     have e2:memsP (latP (loL k)) (tkM a ++ (tkMs false ks ++ sgT [125] :: Y))= .ok (m,Y):=by
      unfold memsP
      rw [bd_ok m2,bd_ok (expP_sg [125] Y)]; rfl
     rw [e,levL_eq,bd_ok e2]; rfl
   | @closed n p t ks ht hn h1 h2=>
     rw [tkL_closed]
     obtain ⟨m,m1,m2⟩:=closed_rt (Y:=Y) h1 h2
     refine ⟨.mk 19 [] 0 0 m,ndE rfl ht hn m1,?_⟩
     have e:∀ Z,latP (loL k) (kwT [99,108,111,115,101,100] :: Z)=bd closedP (fun l=>ret (Nd.mk 19 [] 0 0 l)) Z:=fun Z=>rfl
     rw [List.cons_append,e,bd_ok m2]; rfl
theorem rt_lat {x:Nd} (ho:okL x=true) {k:Nat} (hk:opL x≤k) {Y:List Tk} (hY:isB [40] Y=false):∃ x',NdE x x'∧latP (loL k) (tkL x ++ Y)= .ok (x',Y):=rtL_all _ x (Nat.le_refl _) ho k hk Y hY
end Go.Proofs.YtmhdkbmnpekpoaaGreatDoor
end
section
set_option linter.unusedSimpArgs false
set_option linter.unusedVariables false
set_option maxRecDepth 8000
namespace Go.Proofs.YtmhdkbmnpekpoaaGreatDoor
open Gx Go
section
variable {w:Tk→Nat} (hw:Wo w)
include hw
theorem quote_min {ts r:List Tk} {q:Nd} (hg:Gt ts) (e:quoteP ts= .ok (q,r)):okQ q=true∧cost w ts=w (qtT (textOf q)) + cost w r∧Gt r:=by
 obtain ⟨t,r1,e1,e2⟩:=bd_inv e
 cases e2
 obtain ⟨h1,h2,h3⟩:=take_quote hw hg e1
 exact ⟨by show (decide ((47:Int)=47) && decide ((0:Int)=0) && ([]:List Nd).isEmpty && validN t.text)=true; rw [h1]; rfl,h2,h3⟩
theorem quotesF_min:∀ (f:Nat) (l:List Nd) (ts r:List Tk) (m:List Nd),Gt ts→quotesF f l ts= .ok (m,r)→∃ m',m=l ++ m'∧m'.all okQ=true∧cost w (tkQs false m') + cost w r≤cost w ts∧Gt r
 | 0,l,ts,r,m,hg,e=>by
   cases e
   exact ⟨[],by simp,rfl,by rw [tkQs,cost]; omega,hg⟩
 | f + 1,l,ts,r,m,hg,e=>by
   simp only [quotesF] at e
   by_cases hc:isB [44] ts=true
   ·rw [if_pos hc] at e
    obtain ⟨q,r1,e1,e⟩:=bd_inv e
    have hcc:=cost_isB hw hg hc
    have t1:tokT [44]=sgT [44]:=rfl
    rw [t1] at hcc
    obtain ⟨a1,a2,a3⟩:=quote_min hw (hg.tl (isB_kind hc)) e1
    obtain ⟨m',rfl,b1,b2,b3⟩:=quotesF_min f _ r1 r m a3 e
    refine ⟨q :: m',by simp,by rw [List.all_cons,a1,b1]; rfl,?_,b3⟩
    have e3:tkQs false (q :: m')=sgT [44] :: qtT (textOf q) :: tkQs false m':=by rw [tkQs]; rfl
    rw [e3]
    simp only [cost]; omega
   ·rw [if_neg hc] at e
    cases e
    exact ⟨[],by simp,rfl,by rw [tkQs,cost]; omega,hg⟩
theorem quotesP_min {ts r:List Tk} {m:List Nd} (hg:Gt ts) (e:quotesP ts= .ok (m,r)):m≠[]∧m.all okQ=true∧cost w (tkQs true m) + cost w r≤cost w ts∧Gt r:=by
 unfold quotesP at e
 obtain ⟨q,r1,e1,e⟩:=bd_inv e
 obtain ⟨a1,a2,a3⟩:=quote_min hw hg e1
 obtain ⟨m',rfl,b1,b2,b3⟩:=quotesF_min hw _ _ r1 r m a3 e
 refine ⟨by simp,?_,?_,b3⟩
 ·show (q :: m').all okQ=true
  rw [List.all_cons,a1,b1]; rfl
 ·have e3:tkQs true ([q] ++ m')=qtT (textOf q) :: tkQs false m':=by
   show tkQs true (q :: m')=_
   rw [tkQs]; rfl
  rw [e3,cost]; omega
theorem allowed_min {ts r:List Tk} {m:List Nd} (hg:Gt ts) (e:allowedP ts= .ok (m,r)):m.all okQ=true∧cost w (tkAll m) + cost w r≤cost w ts∧Gt r:=by
 unfold allowedP at e
 by_cases hc:isB [40] ts=true
 ·rw [if_pos hc] at e
  obtain ⟨l,r1,e1,e⟩:=bd_inv e
  obtain ⟨c,r2,e2,e⟩:=bd_inv e
  cases e
  have hcc:=cost_isB hw hg hc
  obtain ⟨a0,a1,a2,a3⟩:=quotesP_min hw (hg.tl (isB_kind hc)) e1
  obtain ⟨b1,b2⟩:=cost_exp hw a3 e2
  have t1:tokT [40]=opT:=rfl
  have t2:tokT [41]=clT:=rfl
  rw [t1] at hcc
  rw [t2] at b1
  refine ⟨a1,?_,b2⟩
  unfold tkAll
  rw [if_neg (by simpa using a0),cost,cost_app]
  simp only [cost]; omega
 ·rw [if_neg hc] at e
  cases e
  exact ⟨rfl,by show cost w [] + _≤_; rw [cost]; omega,hg⟩
theorem optQ_min {ts r:List Tk} {m:List Nd} (hg:Gt ts) (e:optQ ts= .ok (m,r)):m.all okQ=true∧cost w (tkQs true m) + cost w r≤cost w ts∧Gt r:=by
 unfold optQ at e
 by_cases hc:(hd ts).kind=4
 ·rw [if_pos hc] at e
  obtain ⟨_,h1,h2,h3⟩:=quotesP_min hw hg e
  exact ⟨h1,h2,h3⟩
 ·rw [if_neg hc] at e
  cases e
  exact ⟨rfl,by rw [tkQs,cost]; omega,hg⟩
theorem rule_min {ts r:List Tk} {x:Nd} (hg:Gt ts) (e:ruleP ts= .ok (x,r)):okR x=true∧cost w (tkR x).tail + cost w r≤cost w ts∧Gt r:=by
 unfold ruleP at e
 obtain ⟨q,r1,e1,e⟩:=bd_inv e
 obtain ⟨c,r2,e2,e⟩:=bd_inv e
 obtain ⟨d,r3,e3,e⟩:=bd_inv e
 cases e
 obtain ⟨a1,a2,a3⟩:=optQ_min hw hg e1
 obtain ⟨b1,b2⟩:=cost_exp hw a3 e2
 obtain ⟨c1,c2,c3⟩:=quote_min hw b2 e3
 have t1:tokT [61,62]=sgT [61,62]:=rfl
 rw [t1] at b1
 refine ⟨?_,?_,c3⟩
 ·show (decide ((20:Int)=20) && (decide (([]:Bs)=[]) && decide ((0:Int)=0)) && !(q ++ [d]).isEmpty && (q ++ [d]).all okQ)=true
  rw [List.all_append,a1,List.all_cons,c1]
  simp
 ·have et:(tkR (.mk 20 [] 0 (hd ts).at_ (q ++ [d]))).tail=tkQs true q ++ [sgT [61,62],qtT (textOf d)]:=by
   unfold tkR kidsOf
   simp
  rw [et,cost_app]
  simp only [cost]; omega
theorem rulesF_min:∀ (f:Nat) (l:List Nd) (ts r:List Tk) (m:List Nd),Gt ts→rulesF f l ts= .ok (m,r)→∃ m',m=l ++ m'∧m'.all okR=true∧cost w (tkRs m') + cost w r≤cost w ts∧Gt r
 | 0,l,ts,r,m,hg,e=>by
   cases e
   exact ⟨[],by simp,rfl,by rw [tkRs,cost]; omega,hg⟩
 | f + 1,l,ts,r,m,hg,e=>by
   simp only [rulesF] at e
   by_cases hc:isB [59] ts=true
   ·rw [if_pos hc] at e
    obtain ⟨q,r1,e1,e⟩:=bd_inv e
    have hcc:=cost_isB hw hg hc
    have t1:tokT [59]=sgT [59]:=rfl
    rw [t1] at hcc
    obtain ⟨a1,a2,a3⟩:=rule_min hw (hg.tl (isB_kind hc)) e1
    obtain ⟨m',rfl,b1,b2,b3⟩:=rulesF_min f _ r1 r m a3 e
    refine ⟨q :: m',by simp,by rw [List.all_cons,a1,b1]; rfl,?_,b3⟩
    have e3:tkRs (q :: m')=sgT [59] :: ((tkR q).tail ++ tkRs m'):=by rw [tkRs]; rfl
    rw [e3,cost,cost_app]; omega
   ·rw [if_neg hc] at e
    cases e
    exact ⟨[],by simp,rfl,by rw [tkRs,cost]; omega,hg⟩
omit hw in
theorem lead_app:∀ {qs rs:List Nd},qs.all okQ=true→rs.all okR=true→leadQ (qs ++ rs)=qs∧restQ (qs ++ rs)=rs
 | [],[],_,_=>⟨rfl,rfl⟩
 | [],x :: rs,_,h=>by
   rw [List.all_cons,Bool.and_eq_true] at h
   have hk:kindOf x=20:=by
    have:=h.1
    unfold okR at this
    simp only [Bool.and_eq_true,decide_eq_true_eq] at this
    exact this.1.1.1
   unfold leadQ restQ
   rw [List.nil_append,List.takeWhile_cons,List.dropWhile_cons]
   rw [if_neg (by rw [hk]; decide),if_neg (by rw [hk]; decide)]
   exact ⟨rfl,rfl⟩
 | q :: qs,rs,h,h'=>by
   rw [List.all_cons,Bool.and_eq_true] at h
   have hk:kindOf q=47:=by
    have:=h.1
    unfold okQ at this
    simp only [Bool.and_eq_true,decide_eq_true_eq] at this
    exact this.1.1.1
   obtain ⟨h1,h2⟩:=lead_app h.2 h'
   unfold leadQ restQ at *
   rw [List.cons_append,List.takeWhile_cons,List.dropWhile_cons]
   rw [if_pos (by rw [hk]; decide),if_pos (by rw [hk]; decide),h1,h2]
   exact ⟨rfl,rfl⟩
theorem closed_min {ts r:List Tk} {m:List Nd} (hg:Gt ts) (e:closedP ts= .ok (m,r)):(leadQ m).all okQ=true∧(restQ m).all okR=true∧cost w (opT :: (tkQs true (leadQ m) ++ (tkRs (restQ m) ++ [clT]))) + cost w r≤cost w ts∧Gt r:=by
 unfold closedP at e
 obtain ⟨_,r1,e1,e⟩:=bd_inv e
 obtain ⟨q,r2,e2,e⟩:=bd_inv e
 obtain ⟨l,r3,e3,e⟩:=bd_inv e
 obtain ⟨_,r4,e4,e⟩:=bd_inv e
 cases e
 obtain ⟨a1,a2⟩:=cost_exp hw hg e1
 obtain ⟨b1,b2,b3⟩:=optQ_min hw a2 e2
 obtain ⟨rs,rfl,c1,c2,c3⟩:=rulesF_min hw _ _ r2 r3 _ b3 e3
 obtain ⟨d1,d2⟩:=cost_exp hw c3 e4
 obtain ⟨f1,f2⟩:=lead_app b1 c1
 have t1:tokT [40]=opT:=rfl
 have t2:tokT [41]=clT:=rfl
 rw [t1] at a1
 rw [t2] at d1
 rw [f1,f2]
 refine ⟨b1,c1,?_,d2⟩
 rw [cost,cost_app,cost_app]
 simp only [cost]; omega
def MrL (w:Tk→Nat) (k:Nat) (ts:List Tk):Except Flt (Nd × List Tk)→Prop
 | .error _=>True
 | .ok x=>okL x.1=true∧opL x.1≤k∧cost w (tkL x.1) + cost w x.2≤cost w ts∧Gt x.2
omit hw in
theorem okL_q {k p:Int} {m:List Nd} (hk:k=13∨k=17) (h:m.all okQ=true):okL (.mk k [] 0 p m)=true∧opL (.mk k [] 0 p m)=0:=by
 rcases hk with rfl | rfl
 ·exact ⟨by rw [okL.eq_def]; show (true && true && m.all okQ)=true; rw [h]; rfl,by rw [opL.eq_def]; rfl⟩
 ·exact ⟨by rw [okL.eq_def]; show (true && true && m.all okQ)=true; rw [h]; rfl,by rw [opL.eq_def]; rfl⟩
omit hw in
theorem okI_of {n p:Int} (h1:-1000000000000000≤n) (h2:n≤1000000000000000):okI (.mk 44 [] n p [])=true:=by
 show (decide ((44:Int)=44) && decide (([]:Bs)=[]) && ([]:List Nd).isEmpty && decide (-1000000000000000≤n) && decide (n≤1000000000000000))=true
 simp [h1,h2]
theorem intP_min {ts r:List Tk} {x:Nd} (hg:Gt ts) (e:intP ts= .ok (x,r)):okI x=true∧cost w (intTk (numOf x)) + cost w r≤cost w ts∧Gt r:=by
 have h:=intP_mi hw 0 ts hg
 rw [e] at h
 obtain ⟨h1,_,h3,h4⟩:=h
 have hx:∃ n p,x= .mk 44 [] n p []:=by
  unfold intP at e
  split at e
  ·obtain ⟨t,r1,e1,e2⟩:=bd_inv e
   cases e2; exact ⟨_,_,rfl⟩
  ·obtain ⟨t,r1,e1,e2⟩:=bd_inv e
   cases e2; exact ⟨_,_,rfl⟩
 obtain ⟨n,p,rfl⟩:=hx
 have hc:=ok_cases h1
 cases hc with
 | int ht h1 h2=>
   have hlv:lvN (.mk 44 [] n p [])=8:=rfl
   have h3:cost w (tkAt (.mk 44 [] n p []) 8) + cost w r≤cost w ts:=h3
   rw [tkAt_cost,hlv,if_neg (Nat.lt_irrefl _),tkB_int] at h3
   exact ⟨okI_of h1 h2,h3,h4⟩
 | word hw'=>simp [wordK] at hw'
theorem two_min {α:Type} {q:PP Nd} {tkf:Nd→List Tk} {okf:Nd→Prop} (hq:∀ ts r x,Gt ts→q ts= .ok (x,r)→okf x∧cost w (tkf x) + cost w r≤cost w ts∧Gt r) {ts r:List Tk} {m:List Nd} (hg:Gt ts) (e:twoP q ts= .ok (m,r)) :
 ∃ a b,m=[a,b]∧okf a∧okf b∧cost w (opT :: (tkf a ++ sgT [44] :: (tkf b ++ [clT]))) + cost w r≤cost w ts∧Gt r:=by
 unfold twoP at e
 obtain ⟨_,r1,e1,e⟩:=bd_inv e
 obtain ⟨a,r2,e2,e⟩:=bd_inv e
 obtain ⟨_,r3,e3,e⟩:=bd_inv e
 obtain ⟨b,r4,e4,e⟩:=bd_inv e
 obtain ⟨_,r5,e5,e⟩:=bd_inv e
 cases e
 obtain ⟨a1,a2⟩:=cost_exp hw hg e1
 obtain ⟨b1,b2,b3⟩:=hq _ _ _ a2 e2
 obtain ⟨c1,c2⟩:=cost_exp hw b3 e3
 obtain ⟨d1,d2,d3⟩:=hq _ _ _ c2 e4
 obtain ⟨f1,f2⟩:=cost_exp hw d3 e5
 have t1:tokT [40]=opT:=rfl
 have t2:tokT [41]=clT:=rfl
 have t3:tokT [44]=sgT [44]:=rfl
 rw [t1] at a1
 rw [t2] at f1
 rw [t3] at c1
 refine ⟨a,b,rfl,b1,d1,?_,f2⟩
 rw [cost,cost_app,cost,cost_app]
 simp only [cost]; omega
section
variable {k:Nat} (hlo:∀ j,k=j + 1→∀ ts,Gt ts→MrL w j ts (latP (loL j) ts))
include hlo
omit hw in
theorem lat_of {j:Nat} (hj:k=j + 1) {ts r:List Tk} {x:Nd} (hg:Gt ts) (e:latP (loL j) ts= .ok (x,r)):okL x=true∧opL x≤j∧cost w (tkL x) + cost w r≤cost w ts∧Gt r:=by
 have:=hlo j hj ts hg
 rw [e] at this; exact this
theorem mem_min {j:Nat} (hj:k=j + 1) {ts r:List Tk} {x:Nd} (hg:Gt ts) (e:memP (latP (loL j)) ts= .ok (x,r)):okM x=true∧opM x≤j∧cost w (tkM x) + cost w r≤cost w ts∧Gt r:=by
 obtain ⟨t,r1,e1,e⟩:=bd_inv e
 obtain ⟨_,r2,e2,e⟩:=bd_inv e
 obtain ⟨y,r3,e3,e⟩:=bd_inv e
 cases e
 obtain ⟨a1,a2,a3⟩:=take_name hw hg e1
 obtain ⟨b1,b2⟩:=cost_exp hw a3 e2
 obtain ⟨c1,c2,c3,c4⟩:=lat_of hlo hj b2 e3
 have t1:tokT [58]=sgT [58]:=rfl
 rw [t1] at b1
 refine ⟨?_,?_,?_,c4⟩
 ·rw [okM,okLs,okLs,a1,c1]; rfl
 ·rw [opM_eq]; exact c2
 ·rw [tkM_eq]
  simp only [cost]; omega
theorem memF_min {j:Nat} (hj:k=j + 1):∀ (f:Nat) (l:List Nd) (ts r:List Tk) (m:List Nd),ts.length≤f→Gt ts→memF (latP (loL j)) f l ts= .ok (m,r)→∃ a m',m=l ++ a :: m'∧okMs (a :: m')=true∧opMs (a :: m')≤j∧cost w (tkM a ++ tkMs false m') + cost w r≤cost w ts∧Gt r
 | 0,l,ts,r,m,hf,hg,e=>by have:=List.length_pos_iff.2 hg.ne; omega
 | f + 1,l,ts,r,m,hf,hg,e=>by
   simp only [memF] at e
   obtain ⟨a,r1,e1,e⟩:=bd_inv e
   obtain ⟨a1,a2,a3,a4⟩:=mem_min hw hlo hj hg e1
   have l1:=(memP_Lt (latP_dn (loL_dn j))).of e1
   by_cases hc:isB [44] r1=true
   ·rw [if_pos hc] at e
    have hcc:=cost_isB hw a4 hc
    have t1:tokT [44]=sgT [44]:=rfl
    rw [t1] at hcc
    have l2:=tl_lt hc
    obtain ⟨b,m',rfl,b1,b2,b3,b4⟩:=memF_min hj f _ _ r m (by omega) (a4.tl (isB_kind hc)) e
    refine ⟨a,b :: m',by simp,?_,?_,?_,b4⟩
    ·rw [okMs,a1,b1]; rfl
    ·rw [opMs]; omega
    ·have e3:tkMs false (b :: m')=sgT [44] :: (tkM b ++ tkMs false m'):=by rw [tkMs]; simp
     rw [e3,cost_app,cost]; omega
   ·rw [if_neg hc] at e
    cases e
    refine ⟨a,[],rfl,?_,?_,?_,a4⟩
    ·rw [okMs,a1,okMs]; rfl
    ·rw [opMs,opMs]; omega
    ·rw [tkMs,List.append_nil]; exact a3
theorem latP_min (ts:List Tk) (hg:Gt ts):MrL w k ts (latP (loL k) ts):=by
 unfold latP
 have ite:∀ {c:Prop} [Decidable c] {x y:Except Flt (Nd × List Tk)},(c→MrL w k ts x)→(¬ c→MrL w k ts y)→MrL w k ts (if c then x else y):=fun {c _ x y} h1 h2=>by
  by_cases h:c
  ·rw [if_pos h]; exact h1 h
  ·rw [if_neg h]; exact h2 h
 have inv:∀ {s:Bs} {body:PP Nd→PP Nd} {r:List Tk} {a:Nd},entP (loL k) s body ts= .ok (a,r)→∃ j,k=j + 1∧isB s ts=true∧body (latP (loL j)) ts.tail= .ok (a,r):=fun {s body r a} h=>by
  unfold entP at h
  split at h
  ·rename_i e
   cases k with
   | zero=>cases h
   | succ j=>
     rw [levL1] at h
     exact ⟨j,rfl,e,h⟩
  ·cases h
 refine ite (fun _=>?_) fun _=>?_
 ·cases e:namedP 21 ts with
  | error e'=>trivial
  | ok x=>
    obtain ⟨n,r⟩:=x
    obtain ⟨t,r1,e1,e2⟩:=bd_inv e
    cases e2
    obtain ⟨h1,h2,h3⟩:=take_name hw hg e1
    refine ⟨?_,?_,?_,h3⟩
    ·show okL _=true
     rw [okL.eq_def]
     show (nameB t.text && decide ((0:Int)=0) && ([]:List Nd).isEmpty)=true
     rw [h1]; rfl
    ·show opL _≤k
     rw [opL.eq_def]; exact Nat.zero_le _
    ·show cost w (tkL _) + cost w r≤_
     rw [tkL_named]
     simp only [cost]; omega
 refine ite (fun hb=>?_) fun _=>?_
 ·refine ⟨by show okL _=true; rw [okL.eq_def]; rfl,by show opL _≤k; rw [opL.eq_def]; exact Nat.zero_le _,?_,hg.tl (isB_kind hb)⟩
  show cost w (tkL _) + cost w ts.tail≤_
  rw [tkL_flag,cost_isB hw hg hb]
  have t1:tokT [102,108,97,103]=kwT [102,108,97,103]:=rfl
  rw [t1]
  simp only [cost]; omega
 refine ite (fun hb=>?_) fun _=>?_
 ·refine ⟨by show okL _=true; rw [okL.eq_def]; rfl,by show opL _≤k; rw [opL.eq_def]; exact Nat.zero_le _,?_,hg.tl (isB_kind hb)⟩
  show cost w (tkL _) + cost w ts.tail≤_
  rw [tkL_register,cost_isB hw hg hb]
  have t1:tokT [114,101,103,105,115,116,101,114]=kwT [114,101,103,105,115,116,101,114]:=rfl
  rw [t1]
  simp only [cost]; omega
 refine ite (fun hb=>?_) fun _=>?_
 ·cases e:bd allowedP (fun l=>ret (Nd.mk 13 [] 0 (hd ts).at_ l)) ts.tail with
  | error e'=>trivial
  | ok x=>
    obtain ⟨n,r⟩:=x
    obtain ⟨l,r1,e1,e⟩:=bd_inv e
    cases e
    obtain ⟨a1,a2,a3⟩:=allowed_min hw (hg.tl (isB_kind hb)) e1
    obtain ⟨h1,h2⟩:=okL_q (k:=13) (p:=(hd ts).at_) (.inl rfl) a1
    refine ⟨h1,by show opL _≤k; rw [h2]; exact Nat.zero_le _,?_,a3⟩
    show cost w (tkL _) + cost w r≤_
    rw [tkL_set,cost_isB hw hg hb]
    have t1:tokT [115,101,116]=kwT [115,101,116]:=rfl
    rw [t1,cost]; omega
 refine ite (fun hb=>?_) fun _=>?_
 ·cases e:bd allowedP (fun l=>ret (Nd.mk 17 [] 0 (hd ts).at_ l)) ts.tail with
  | error e'=>trivial
  | ok x=>
    obtain ⟨n,r⟩:=x
    obtain ⟨l,r1,e1,e⟩:=bd_inv e
    cases e
    obtain ⟨a1,a2,a3⟩:=allowed_min hw (hg.tl (isB_kind hb)) e1
    obtain ⟨h1,h2⟩:=okL_q (k:=17) (p:=(hd ts).at_) (.inr rfl) a1
    refine ⟨h1,by show opL _≤k; rw [h2]; exact Nat.zero_le _,?_,a3⟩
    show cost w (tkL _) + cost w r≤_
    rw [tkL_flat,cost_isB hw hg hb]
    have t1:tokT [102,108,97,116]=kwT [102,108,97,116]:=rfl
    rw [t1,cost]; omega
 refine ite (fun _=>?_) fun _=>?_
 ·cases e:entP (loL k) [109,97,112] (fun x=>bd allowedP fun l=>bd x fun y=>ret (Nd.mk 14 [] 0 (hd ts).at_ (l ++ [y]))) ts with
  | error e'=>trivial
  | ok x=>
    obtain ⟨n,r⟩:=x
    have e0:=inv e
    clear e
    obtain ⟨j,hj,hb,e⟩:=e0
    obtain ⟨l,r1,e1,e⟩:=bd_inv e
    obtain ⟨y,r2,e2,e⟩:=bd_inv e
    cases e
    obtain ⟨a1,a2,a3⟩:=allowed_min hw (hg.tl (isB_kind hb)) e1
    obtain ⟨b1,b2,b3,b4⟩:=lat_of hlo hj a3 e2
    refine ⟨?_,?_,?_,b4⟩
    ·show okL _=true
     rw [okL.eq_def]
     show (true && true && ((l ++ [y]).dropLast.all okQ && ((okLs (l ++ [y])).getLast?.getD false)))=true
     rw [List.dropLast_concat,okLs_app,a1,List.getLast?_append]
     simp [b1]
    ·show opL _≤k
     rw [opL_map]; omega
    ·show cost w (tkL _) + cost w r≤_
     rw [tkL_map,cost_isB hw hg hb,cost,cost_app]
     have t1:tokT [109,97,112]=kwT [109,97,112]:=rfl
     rw [t1]; omega
 refine ite (fun hb=>?_) fun _=>?_
 ·cases e:bd (twoP intP) (fun l=>ret (Nd.mk 11 [] 0 (hd ts).at_ l)) ts.tail with
  | error e'=>trivial
  | ok x=>
    obtain ⟨n,r⟩:=x
    obtain ⟨l,r1,e1,e⟩:=bd_inv e
    cases e
    obtain ⟨a,b,rfl,a1,a2,a3,a4⟩:=two_min (α:=Nat) hw (tkf:=fun x=>intTk (numOf x)) (okf:=fun x=>okI x=true) (fun ts r x hg e=>intP_min hw hg e) (hg.tl (isB_kind hb)) e1
    refine ⟨?_,by show opL _≤k; rw [opL.eq_def]; exact Nat.zero_le _,?_,a4⟩
    ·show okL _=true
     rw [okL.eq_def]
     show (true && true && (true && [a,b].all okI))=true
     simp [a1,a2]
    ·show cost w (tkL _) + cost w r≤_
     rw [tkL_max,cost_isB hw hg hb,cost]
     have t1:tokT [109,97,120]=kwT [109,97,120]:=rfl
     rw [t1]; omega
 refine ite (fun hb=>?_) fun _=>?_
 ·cases e:bd (twoP intP) (fun l=>ret (Nd.mk 12 [] 0 (hd ts).at_ l)) ts.tail with
  | error e'=>trivial
  | ok x=>
    obtain ⟨n,r⟩:=x
    obtain ⟨l,r1,e1,e⟩:=bd_inv e
    cases e
    obtain ⟨a,b,rfl,a1,a2,a3,a4⟩:=two_min (α:=Nat) hw (tkf:=fun x=>intTk (numOf x)) (okf:=fun x=>okI x=true) (fun ts r x hg e=>intP_min hw hg e) (hg.tl (isB_kind hb)) e1
    refine ⟨?_,by show opL _≤k; rw [opL.eq_def]; exact Nat.zero_le _,?_,a4⟩
    ·show okL _=true
     rw [okL.eq_def]
     show (true && true && (true && [a,b].all okI))=true
     simp [a1,a2]
    ·show cost w (tkL _) + cost w r≤_
     rw [tkL_min,cost_isB hw hg hb,cost]
     have t1:tokT [109,105,110]=kwT [109,105,110]:=rfl
     rw [t1]; omega
 refine ite (fun _=>?_) fun _=>?_
 ·cases e:entP (loL k) [108,101,120] (fun x=>bd (twoP x) fun l=>ret (Nd.mk 16 [] 0 (hd ts).at_ l)) ts with
  | error e'=>trivial
  | ok x=>
    obtain ⟨n,r⟩:=x
    have e0:=inv e
    clear e
    obtain ⟨j,hj,hb,e⟩:=e0
    obtain ⟨l,r1,e1,e⟩:=bd_inv e
    cases e
    obtain ⟨a,b,rfl,a1,a2,a3,a4⟩:=two_min (α:=Nat) hw (tkf:=tkL) (okf:=fun x=>okL x=true∧opL x≤j) (fun ts r x hg e=>by
     obtain ⟨q1,q2,q3,q4⟩:=lat_of hlo hj hg e
     exact ⟨⟨q1,q2⟩,q3,q4⟩) (hg.tl (isB_kind hb)) e1
    refine ⟨?_,?_,?_,a4⟩
    ·show okL _=true
     rw [okL.eq_def]
     show (true && true && (true && (okLs [a,b]).all id))=true
     rw [okLs,okLs,okLs,a1.1,a2.1]; rfl
    ·show opL _≤k
     rw [opL_lex]; omega
    ·show cost w (tkL _) + cost w r≤_
     rw [tkL_lex,cost_isB hw hg hb,cost]
     have t1:tokT [108,101,120]=kwT [108,101,120]:=rfl
     rw [t1]; omega
 refine ite (fun _=>?_) fun _=>?_
 ·cases e:entP (loL k) [123] (fun x=>bd (memsP x) fun l=>ret (Nd.mk 15 [] 0 (hd ts).at_ l)) ts with
  | error e'=>trivial
  | ok x=>
    obtain ⟨n,r⟩:=x
    have e0:=inv e
    clear e
    obtain ⟨j,hj,hb,e⟩:=e0
    obtain ⟨l,r1,e1,e⟩:=bd_inv e
    cases e
    unfold memsP at e1
    obtain ⟨m,r2,e2,e1⟩:=bd_inv e1
    obtain ⟨_,r3,e3,e1⟩:=bd_inv e1
    cases e1
    obtain ⟨a,m',rfl,a1,a2,a3,a4⟩:=memF_min hw hlo hj _ _ _ _ _ (Nat.le_succ _) (hg.tl (isB_kind hb)) e2
    obtain ⟨b1,b2⟩:=cost_exp hw a4 e3
    have t1:tokT [123]=sgT [123]:=rfl
    have t2:tokT [125]=sgT [125]:=rfl
    rw [t2] at b1
    rw [List.nil_append]
    refine ⟨?_,?_,?_,b2⟩
    ·show okL _=true
     rw [okL.eq_def]
     show (true && true && (true && okMs (a :: m')))=true
     rw [a1]; rfl
    ·show opL _≤k
     rw [opL_prod]; omega
    ·show cost w (tkL _) + _≤_
     have e4:tkMs true (a :: m')=tkM a ++ tkMs false m':=by rw [tkMs]; simp
     rw [tkL_prod,cost_isB hw hg hb,t1,cost,e4,cost_app]
     simp only [cost]; omega
 refine ite (fun hb=>?_) fun _=>trivial
 cases e:bd closedP (fun l=>ret (Nd.mk 19 [] 0 (hd ts).at_ l)) ts.tail with
 | error e'=>trivial
 | ok x=>
   obtain ⟨n,r⟩:=x
   obtain ⟨l,r1,e1,e⟩:=bd_inv e
   cases e
   obtain ⟨a1,a2,a3,a4⟩:=closed_min hw (hg.tl (isB_kind hb)) e1
   refine ⟨?_,by show opL _≤k; rw [opL.eq_def]; exact Nat.zero_le _,?_,a4⟩
   ·show okL _=true
    rw [okL.eq_def]
    show (true && true && ((leadQ l).all okQ && (restQ l).all okR))=true
    rw [a1,a2]; rfl
   ·show cost w (tkL _) + cost w r≤_
    rw [tkL_closed,cost_isB hw hg hb,cost]
    have t1:tokT [99,108,111,115,101,100]=kwT [99,108,111,115,101,100]:=rfl
    rw [t1]; omega
end
theorem lat_all:∀ (k:Nat) (ts:List Tk),Gt ts→MrL w k ts (latP (loL k) ts)
 | 0,ts,hg=>latP_min hw (fun j hj=>by omega) ts hg
 | k + 1,ts,hg=>latP_min hw (fun j hj=>by
   obtain rfl:j=k:=by omega
   exact lat_all j) ts hg
theorem lat_min {k:Nat} {ts r:List Tk} {x:Nd} (hg:Gt ts) (e:latP (loL k) ts= .ok (x,r)):okL x=true∧opL x≤k∧cost w (tkL x) + cost w r≤cost w ts∧Gt r:=by
 have:=lat_all hw k ts hg
 rw [e] at this; exact this
end
end Go.Proofs.YtmhdkbmnpekpoaaGreatDoor
end
section
set_option linter.unusedSimpArgs false
set_option linter.unusedVariables false
set_option maxRecDepth 8000
namespace Go.Proofs.YtmhdkbmnpekpoaaGreatDoor
open Gx Go
def partsK (ks:List Nd):Option (List Nd × Nd × Nd):=match ks.reverse with
 | e :: o :: ps=>some (ps.reverse,o,e)
 | _=>none
theorem partsK_app (ps:List Nd) (o e:Nd):partsK (ps ++ [o,e])=some (ps,o,e):=by
 unfold partsK
 simp
theorem partsK_inv {ks ps:List Nd} {o e:Nd} (h:partsK ks=some (ps,o,e)):ks=ps ++ [o,e]:=by
 unfold partsK at h
 split at h
 ·rename_i e' o' ps' hr
  simp only [Option.some.injEq,Prod.mk.injEq] at h
  obtain ⟨rfl,rfl,rfl⟩:=h
  have:=congrArg List.reverse hr
  simpa using this
 ·cases h
def sortS (n:Int):Bs:=if n=1 then [105,110,116] else if n=2 then [98,111,111,108] else if n=3 then [110,97,109,101] else [110,97,109,101,115]
def okS (n:Int):Bool:=decide (1≤n) && decide (n≤4)
def okP (x:Nd):Bool:=decide (kindOf x=6) && nameB (textOf x) && (kidsOf x).isEmpty && okS (numOf x)
def okO (x:Nd):Bool:=decide (kindOf x=48) && nameB (textOf x) && decide (numOf x=0) && (kidsOf x).isEmpty
def tkP1 (x:Nd):List Tk:=[nmT (textOf x),sgT [58],kwT (sortS (numOf x))]
def tkPs:Bool→List Nd→List Tk
 | _,[]=>[]
 | first,x :: r=>(if first then [] else [sgT [44]]) ++ (tkP1 x ++ tkPs false r)
def okD:Nd→Bool
 | .mk k t n _ ks=>nameB t && (
   if k=2∨k=3 then decide (n=0) && (match ks with
    | [y]=>okL y
    | _=>false)
   else if k=4∨k=5 then (match partsK ks with
    | some (ps,o,e)=>ps.all okP && okO o && okB e && (if k=4 then decide (n=0) else okS n)
    | none=>false)
   else false)
theorem okD_eq (k n p:Int) (t:Bs) (ks:List Nd):okD (.mk k t n p ks)=(nameB t && (
 if k=2∨k=3 then decide (n=0) && (match ks with
  | [y]=>okL y
  | _=>false)
 else if k=4∨k=5 then (match partsK ks with
  | some (ps,o,e)=>ps.all okP && okO o && okB e && (if k=4 then decide (n=0) else okS n)
  | none=>false)
 else false)):=rfl
def tkD:Nd→List Tk
 | .mk k t n _ ks=>
   if k=2 then kwT [108,97,116,116,105,99,101] :: nmT t :: sgT [61] :: (ks.map tkL).getD 0 []
   else if k=3 then kwT [111,98,106,101,99,116] :: nmT t :: sgT [58] :: (ks.map tkL).getD 0 []
   else match partsK ks with
    | some (ps,o,e)=>kwT (if k=4 then [117,112,100,97,116,101] else [113,117,101,114,121]) :: nmT t :: opT :: (tkPs true ps ++ clT :: kwT [111,110] :: nmT (textOf o) :: ((if k=5 then [sgT [58],kwT (sortS n)] else []) ++ sgT [61] :: tkB e))
    | none=>[]
def opD:Nd→Nat
 | .mk k _ _ _ ks=>if k=2∨k=3 then (ks.map opL).getD 0 0 else match partsK ks with
   | some (_,_,e)=>opB e
   | none=>0
def tkDs:List Nd→List Tk
 | []=>[]
 | x :: r=>tkD x ++ sgT [59] :: tkDs r
inductive DcC:Nd→Prop
 | lat {p:Int} {t:Bs} {y:Nd} (ht:nameB t=true) (hy:okL y=true):DcC (.mk 2 t 0 p [y])
 | obj {p:Int} {t:Bs} {y:Nd} (ht:nameB t=true) (hy:okL y=true):DcC (.mk 3 t 0 p [y])
 | upd {p:Int} {t:Bs} {ps:List Nd} {o e:Nd} (ht:nameB t=true) (hp:ps.all okP=true) (ho:okO o=true) (he:okB e=true):DcC (.mk 4 t 0 p (ps ++ [o,e]))
 | qry {n p:Int} {t:Bs} {ps:List Nd} {o e:Nd} (ht:nameB t=true) (hp:ps.all okP=true) (ho:okO o=true) (he:okB e=true) (hn:okS n=true):DcC (.mk 5 t n p (ps ++ [o,e]))
theorem dec_cases:∀ {x:Nd},okD x=true→DcC x
 | .mk k t n p ks,h=>by
   rw [okD_eq,Bool.and_eq_true] at h
   obtain ⟨ht,h⟩:=h
   by_cases h1:k=2∨k=3
   ·rw [if_pos h1,Bool.and_eq_true,decide_eq_true_eq] at h
    obtain ⟨rfl,h⟩:=h
    match ks,h with
    | [y],h=>
      rcases h1 with rfl | rfl
      ·exact .lat ht h
      ·exact .obj ht h
   ·rw [if_neg h1] at h
    by_cases h2:k=4∨k=5
    ·rw [if_pos h2] at h
     cases hp:partsK ks with
     | none=>rw [hp] at h; cases h
     | some y=>
       obtain ⟨ps,o,e⟩:=y
       rw [hp] at h
       simp only [Bool.and_eq_true] at h
       obtain ⟨⟨⟨a1,a2⟩,a3⟩,a4⟩:=h
       rw [partsK_inv hp]
       rcases h2 with rfl | rfl
       ·rw [if_pos rfl,decide_eq_true_eq] at a4
        subst a4
        exact .upd ht a1 a2 a3
       ·rw [if_neg (by decide)] at a4
        exact .qry ht a1 a2 a3 a4
    ·rw [if_neg h2] at h; cases h
section
variable {n p:Int} {t:Bs} {ps:List Nd} {o e y:Nd}
theorem tkD_lat:tkD (.mk 2 t n p [y])=kwT [108,97,116,116,105,99,101] :: nmT t :: sgT [61] :: tkL y:=rfl
theorem tkD_obj:tkD (.mk 3 t n p [y])=kwT [111,98,106,101,99,116] :: nmT t :: sgT [58] :: tkL y:=rfl
theorem tkD_upd:tkD (.mk 4 t n p (ps ++ [o,e]))=kwT [117,112,100,97,116,101] :: nmT t :: opT :: (tkPs true ps ++ clT :: kwT [111,110] :: nmT (textOf o) :: sgT [61] :: tkB e):=by
 rw [tkD,if_neg (by decide),if_neg (by decide)]
 simp only [partsK_app]
 rfl
theorem tkD_qry:tkD (.mk 5 t n p (ps ++ [o,e]))=kwT [113,117,101,114,121] :: nmT t :: opT :: (tkPs true ps ++ clT :: kwT [111,110] :: nmT (textOf o) :: sgT [58] :: kwT (sortS n) :: sgT [61] :: tkB e):=by
 rw [tkD,if_neg (by decide),if_neg (by decide)]
 simp only [partsK_app]
 rfl
theorem opD_lat {k:Int} (hk:k=2∨k=3):opD (.mk k t n p [y])=opL y:=by
 rw [opD,if_pos hk]; rfl
theorem opD_fn {k:Int} (hk:k=4∨k=5):opD (.mk k t n p (ps ++ [o,e]))=opB e:=by
 rw [opD,if_neg (by omega)]
 simp only [partsK_app]
theorem okP_inv:∀ {x:Nd},okP x=true→∃ t n p,x= .mk 6 t n p []∧nameB t=true∧okS n=true
 | .mk k t n p ks,h=>by
   unfold okP at h
   simp only [Bool.and_eq_true,decide_eq_true_eq,List.isEmpty_iff] at h
   obtain ⟨⟨⟨h1,h2⟩,h3⟩,h4⟩:=h
   have h1:k=6:=h1
   have h3:ks=[]:=h3
   subst h1 h3
   exact ⟨t,n,p,rfl,h2,h4⟩
theorem okO_inv:∀ {x:Nd},okO x=true→∃ t p,x= .mk 48 t 0 p []∧nameB t=true
 | .mk k t n p ks,h=>by
   unfold okO at h
   simp only [Bool.and_eq_true,decide_eq_true_eq,List.isEmpty_iff] at h
   obtain ⟨⟨⟨h1,h2⟩,h3⟩,h4⟩:=h
   have h1:k=48:=h1
   have h3:n=0:=h3
   have h4:ks=[]:=h4
   subst h1 h3 h4
   exact ⟨t,p,rfl,h2⟩
end
theorem sort_rt {n:Int} (h:okS n=true) (Y:List Tk):sortP (kwT (sortS n) :: Y)= .ok (n,Y):=by
 unfold okS at h
 simp only [Bool.and_eq_true,decide_eq_true_eq] at h
 obtain rfl | rfl | rfl | rfl:n=1∨n=2∨n=3∨n=4:=by omega
 all_goals rfl
theorem param_rt {x:Nd} (h:okP x=true) (Y:List Tk):∃ x',NdE x x'∧paramP (tkP1 x ++ Y)= .ok (x',Y):=by
 obtain ⟨t,n,p,rfl,ht,hn⟩:=okP_inv h
 refine ⟨.mk 6 t n 0 [],ndE rfl rfl rfl LsE.nil,?_⟩
 show bd (takeP 1) _ (nmT t :: sgT [58] :: kwT (sortS n) :: Y)=_
 have t1:takeP 1 (nmT t :: sgT [58] :: kwT (sortS n) :: Y)= .ok (nmT t,sgT [58] :: kwT (sortS n) :: Y):=rfl
 rw [bd_ok t1,bd_ok (expP_sg [58] _),bd_ok (sort_rt hn Y)]; rfl
theorem params_rt {Y:List Tk}:∀ (ps:List Nd) (a:Nd) (f:Nat) (l:List Nd),okP a=true→ps.all okP=true→ps.length < f→∃ m,LsE (a :: ps) m∧listF paramP f l (tkP1 a ++ (tkPs false ps ++ clT :: Y))= .ok (l ++ m,Y)
 | [],a,0,l,_,_,h=>by omega
 | [],a,f + 1,l,h1,h2,h=>by
   obtain ⟨a',e1,e2⟩:=param_rt h1 (clT :: Y)
   refine ⟨[a'],LsE.one e1,?_⟩
   rw [tkPs,List.nil_append]
   simp only [listF]
   rw [bd_ok e2]
   have ec:commaP (clT :: Y)= .ok (false,Y):=rfl
   rw [bd_ok ec]; rfl
 | b :: r,a,0,l,_,_,h=>by omega
 | b :: r,a,f + 1,l,h1,h2,h=>by
   rw [List.all_cons,Bool.and_eq_true] at h2
   have e:tkPs false (b :: r) ++ clT :: Y=sgT [44] :: (tkP1 b ++ (tkPs false r ++ clT :: Y)):=by
    rw [tkPs]; simp
   obtain ⟨a',e1,e2⟩:=param_rt h1 (sgT [44] :: (tkP1 b ++ (tkPs false r ++ clT :: Y)))
   obtain ⟨m,e3,e4⟩:=params_rt (Y:=Y) r b f (l ++ [a']) h2.1 h2.2 (by simpa using h)
   refine ⟨a' :: m,LsE.cons e1 e3,?_⟩
   rw [e]
   simp only [listF]
   rw [bd_ok e2]
   have ec:commaP (sgT [44] :: (tkP1 b ++ (tkPs false r ++ clT :: Y)))= .ok (true,tkP1 b ++ (tkPs false r ++ clT :: Y)):=rfl
   rw [bd_ok ec]
   simp only [if_true]
   rw [e4]
   simp
theorem tkPs_len:∀ (ps:List Nd),ps.length≤(tkPs false ps).length
 | []=>Nat.zero_le _
 | a :: r=>by
   have:=tkPs_len r
   rw [tkPs]
   simp only [List.length_cons,List.length_append,Bool.false_eq_true,if_false]
   simp; omega
theorem plist_rt {ps:List Nd} (h:ps.all okP=true) (Y:List Tk):∃ m,LsE ps m∧listP paramP (tkPs true ps ++ clT :: Y)= .ok (m,Y):=by
 cases ps with
 | nil=>exact ⟨[],LsE.nil,rfl⟩
 | cons a r=>
   rw [List.all_cons,Bool.and_eq_true] at h
   have e2:tkPs true (a :: r) ++ clT :: Y=tkP1 a ++ (tkPs false r ++ clT :: Y):=by
    rw [tkPs]; simp
   rw [e2]
   obtain ⟨m,e3,e4⟩:=params_rt (Y:=Y) r a (tkP1 a ++ (tkPs false r ++ clT :: Y)).length [] h.1 h.2 (by have:=tkPs_len r; simp; omega)
   refine ⟨m,e3,?_⟩
   unfold listP
   have:isB [41] (tkP1 a ++ (tkPs false r ++ clT :: Y))=false:=rfl
   rw [this,if_neg (by decide),e4]; rfl
theorem name_rt {x:Nd} (h:okO x=true) (Y:List Tk):∃ x',NdE x x'∧namedP 48 (nmT (textOf x) :: Y)= .ok (x',Y):=by
 obtain ⟨t,p,rfl,ht⟩:=okO_inv h
 exact ⟨.mk 48 t 0 0 [],ndE rfl rfl rfl LsE.nil,rfl⟩
theorem fol_semi (Y:List Tk):Fol 0 (sgT [59] :: Y):=fol_tok (t:=sgT [59]) (by decide) Y
theorem dec_rt {x:Nd} (ho:okD x=true) (hk:opD x≤64) (Y:List Tk):∃ x',NdE x x'∧declP (tkD x ++ sgT [59] :: Y)= .ok (x',Y):=by
 have hs:=dec_cases ho
 cases hs with
 | @lat p t y ht hy=>
   rw [opD_lat (.inl rfl)] at hk
   rw [tkD_lat]
   obtain ⟨y',y1,y2⟩:=rt_lat hy hk (Y:=sgT [59] :: Y) rfl
   refine ⟨.mk 2 t 0 0 [y'],ndE rfl rfl rfl (LsE.one y1),?_⟩
   have e:declP (kwT [108,97,116,116,105,99,101] :: nmT t :: sgT [61] :: tkL y ++ sgT [59] :: Y)=bd (expP [61]) (fun _=>bd (levL 64) fun x=>bd (expP [59]) fun _=>ret (Nd.mk 2 t 0 0 [x])) (sgT [61] :: (tkL y ++ sgT [59] :: Y)):=rfl
   rw [e,bd_ok (expP_sg [61] _),levL_eq,bd_ok y2,bd_ok (expP_sg [59] _)]; rfl
 | @obj p t y ht hy=>
   rw [opD_lat (.inr rfl)] at hk
   rw [tkD_obj]
   obtain ⟨y',y1,y2⟩:=rt_lat hy hk (Y:=sgT [59] :: Y) rfl
   refine ⟨.mk 3 t 0 0 [y'],ndE rfl rfl rfl (LsE.one y1),?_⟩
   have e:declP (kwT [111,98,106,101,99,116] :: nmT t :: sgT [58] :: tkL y ++ sgT [59] :: Y)=bd (expP [58]) (fun _=>bd (levL 64) fun x=>bd (expP [59]) fun _=>ret (Nd.mk 3 t 0 0 [x])) (sgT [58] :: (tkL y ++ sgT [59] :: Y)):=rfl
   rw [e,bd_ok (expP_sg [58] _),levL_eq,bd_ok y2,bd_ok (expP_sg [59] _)]; rfl
 | @upd p t ps o e ht hp ho' he=>
   rw [opD_fn (.inl rfl)] at hk
   rw [tkD_upd]
   obtain ⟨e',e1,e2⟩:=rt_expr he hk (fol_semi Y)
   obtain ⟨o',o1,o2⟩:=name_rt ho' (sgT [61] :: (tkB e ++ sgT [59] :: Y))
   obtain ⟨m,m1,m2⟩:=plist_rt hp (kwT [111,110] :: nmT (textOf o) :: sgT [61] :: (tkB e ++ sgT [59] :: Y))
   refine ⟨.mk 4 t 0 0 (m ++ [o'] ++ [e']),ndE rfl rfl rfl ?_,?_⟩
   ·have:ps ++ [o,e]=ps ++ [o] ++ [e]:=by simp
    rw [this]
    exact (m1.app (LsE.one o1)).app (LsE.one e1)
   ·have q:kwT [117,112,100,97,116,101] :: nmT t :: opT :: (tkPs true ps ++ clT :: kwT [111,110] :: nmT (textOf o) :: sgT [61] :: tkB e) ++ sgT [59] :: Y=kwT [117,112,100,97,116,101] :: nmT t :: opT :: (tkPs true ps ++ clT :: (kwT [111,110] :: nmT (textOf o) :: sgT [61] :: (tkB e ++ sgT [59] :: Y))):=by simp
    rw [q]
    have ed:∀ Z,declP (kwT [117,112,100,97,116,101] :: nmT t :: Z)=(bd (expP [40]) fun _=>bd (listP paramP) fun ps=>bd (expP [111,110]) fun _=>bd (namedP 48) fun o=>
     bd (ret 0) fun n=>bd (expP [61]) fun _=>bd (exprP (loK 64)) fun e=>bd (expP [59]) fun _=>ret (Nd.mk 4 t n 0 (ps ++ [o] ++ [e]))) Z:=fun Z=>rfl
    have er:(ret 0:PP Int) (sgT [61] :: (tkB e ++ sgT [59] :: Y))= .ok (0,sgT [61] :: (tkB e ++ sgT [59] :: Y)):=rfl
    rw [ed,bd_ok (expP_op _),bd_ok m2,bd_ok (expP_kw _ _),bd_ok o2,bd_ok er]
    rw [bd_ok (expP_sg [61] _),bd_ok e2,bd_ok (expP_sg [59] _)]; rfl
 | @qry n p t ps o e ht hp ho' he hn=>
   rw [opD_fn (.inr rfl)] at hk
   rw [tkD_qry]
   obtain ⟨e',e1,e2⟩:=rt_expr he hk (fol_semi Y)
   obtain ⟨o',o1,o2⟩:=name_rt ho' (sgT [58] :: kwT (sortS n) :: sgT [61] :: (tkB e ++ sgT [59] :: Y))
   obtain ⟨m,m1,m2⟩:=plist_rt hp (kwT [111,110] :: nmT (textOf o) :: sgT [58] :: kwT (sortS n) :: sgT [61] :: (tkB e ++ sgT [59] :: Y))
   refine ⟨.mk 5 t n 0 (m ++ [o'] ++ [e']),ndE rfl rfl rfl ?_,?_⟩
   ·have:ps ++ [o,e]=ps ++ [o] ++ [e]:=by simp
    rw [this]
    exact (m1.app (LsE.one o1)).app (LsE.one e1)
   ·have q:kwT [113,117,101,114,121] :: nmT t :: opT :: (tkPs true ps ++ clT :: kwT [111,110] :: nmT (textOf o) :: sgT [58] :: kwT (sortS n) :: sgT [61] :: tkB e) ++ sgT [59] :: Y=kwT [113,117,101,114,121] :: nmT t :: opT :: (tkPs true ps ++ clT :: (kwT [111,110] :: nmT (textOf o) :: sgT [58] :: kwT (sortS n) :: sgT [61] :: (tkB e ++ sgT [59] :: Y))):=by simp
    rw [q]
    have ed:∀ Z,declP (kwT [113,117,101,114,121] :: nmT t :: Z)=(bd (expP [40]) fun _=>bd (listP paramP) fun ps=>bd (expP [111,110]) fun _=>bd (namedP 48) fun o=>
     bd (bd (expP [58]) fun _=>sortP) fun n=>bd (expP [61]) fun _=>bd (exprP (loK 64)) fun e=>bd (expP [59]) fun _=>ret (Nd.mk 5 t n 0 (ps ++ [o] ++ [e]))) Z:=fun Z=>rfl
    have es:(bd (expP [58]) fun _=>sortP) (sgT [58] :: kwT (sortS n) :: sgT [61] :: (tkB e ++ sgT [59] :: Y))= .ok (n,sgT [61] :: (tkB e ++ sgT [59] :: Y)):=by
     rw [bd_ok (expP_sg [58] _),sort_rt hn]
    rw [ed,bd_ok (expP_op _),bd_ok m2,bd_ok (expP_kw _ _),bd_ok o2,bd_ok es,bd_ok (expP_sg [61] _),bd_ok e2,bd_ok (expP_sg [59] _)]; rfl
theorem tkD_first {x:Nd} (ho:okD x=true) (Y:List Tk):(hd (tkD x ++ Y)).kind≠6:=by
 have hs:=dec_cases ho
 cases hs with
 | lat=>rw [tkD_lat]; show (2:Int)≠6; decide
 | obj=>rw [tkD_obj]; show (2:Int)≠6; decide
 | upd=>rw [tkD_upd]; show (2:Int)≠6; decide
 | qry=>rw [tkD_qry]; show (2:Int)≠6; decide
section
variable {w:Tk→Nat} (hw:Wo w)
include hw
theorem sort_min {ts r:List Tk} {n:Int} (hg:Gt ts) (e:sortP ts= .ok (n,r)):okS n=true∧cost w ts=w (kwT (sortS n)) + cost w r∧Gt r:=by
 have one:∀ {s:Bs} {c:Int},isB s ts=true→tokT s=kwT (sortS c)→okS c=true→okS c=true∧cost w ts=w (kwT (sortS c)) + cost w ts.tail∧Gt ts.tail:=fun {s c} hb ht hc=>⟨hc,by rw [cost_isB hw hg hb,ht],hg.tl (isB_kind hb)⟩
 unfold sortP at e
 split at e
 ·rename_i hb; cases e; exact one hb rfl rfl
 split at e
 ·rename_i hb; cases e; exact one hb rfl rfl
 split at e
 ·rename_i hb; cases e; exact one hb rfl rfl
 split at e
 ·rename_i hb; cases e; exact one hb rfl rfl
 ·cases e
theorem param_min {ts r:List Tk} {x:Nd} (hg:Gt ts) (e:paramP ts= .ok (x,r)):okP x=true∧cost w (tkP1 x) + cost w r≤cost w ts∧Gt r:=by
 obtain ⟨t,r1,e1,e⟩:=bd_inv e
 obtain ⟨_,r2,e2,e⟩:=bd_inv e
 obtain ⟨n,r3,e3,e⟩:=bd_inv e
 cases e
 obtain ⟨a1,a2,a3⟩:=take_name hw hg e1
 obtain ⟨b1,b2⟩:=cost_exp hw a3 e2
 obtain ⟨c1,c2,c3⟩:=sort_min hw b2 e3
 have t1:tokT [58]=sgT [58]:=rfl
 rw [t1] at b1
 refine ⟨?_,?_,c3⟩
 ·show (decide ((6:Int)=6) && nameB t.text && ([]:List Nd).isEmpty && okS n)=true
  rw [a1,c1]; rfl
 ·show cost w [nmT t.text,sgT [58],kwT (sortS n)] + cost w r≤_
  simp only [cost]; omega
theorem params_min:∀ (f:Nat) (l:List Nd) (ts r:List Tk) (m:List Nd),ts.length≤f→Gt ts→listF paramP f l ts= .ok (m,r)→∃ a m',m=l ++ a :: m'∧(a :: m').all okP=true∧cost w (tkP1 a ++ tkPs false m') + w clT + cost w r≤cost w ts∧Gt r
 | 0,l,ts,r,m,hf,hg,_=>by have:=List.length_pos_iff.2 hg.ne; omega
 | f + 1,l,ts,r,m,hf,hg,e=>by
   simp only [listF] at e
   obtain ⟨a,r1,e1,e⟩:=bd_inv e
   obtain ⟨c,r2,e2,e⟩:=bd_inv e
   obtain ⟨a1,a2,a3⟩:=param_min hw hg e1
   have l1:=paramP_Lt.of e1
   have l2:=comma_lt' e2
   unfold commaP at e2
   by_cases hc:isB [44] r1=true
   ·rw [if_pos hc] at e2
    cases e2
    have hcc:=cost_isB hw a3 hc
    simp only [if_true] at e
    obtain ⟨b,m',rfl,b1,b2,b3⟩:=params_min f _ _ r m (by omega) (a3.tl (isB_kind hc)) e
    have ht:tokT [44]=sgT [44]:=rfl
    rw [ht] at hcc
    refine ⟨a,b :: m',by simp,by rw [List.all_cons,a1,b1]; rfl,?_,b3⟩
    have e3:tkPs false (b :: m')=sgT [44] :: (tkP1 b ++ tkPs false m'):=by rw [tkPs]; simp
    rw [e3,cost_app,cost]; omega
   ·rw [if_neg hc] at e2
    obtain ⟨c',r3,e3,e4⟩:=bd_inv e2
    cases e4
    obtain ⟨b1,b2⟩:=cost_exp hw a3 e3
    simp only [Bool.false_eq_true,if_false] at e
    cases e
    have ht:tokT [41]=clT:=rfl
    rw [ht] at b1
    refine ⟨a,[],rfl,by rw [List.all_cons,a1]; rfl,?_,b2⟩
    rw [tkPs,List.append_nil]; omega
theorem plist_min {ts r:List Tk} {m:List Nd} (hg:Gt ts) (e:listP paramP ts= .ok (m,r)):m.all okP=true∧cost w (tkPs true m) + w clT + cost w r≤cost w ts∧Gt r:=by
 unfold listP at e
 by_cases hc:isB [41] ts=true
 ·rw [if_pos hc] at e
  cases e
  have hcc:=cost_isB hw hg hc
  have ht:tokT [41]=clT:=rfl
  rw [ht] at hcc
  exact ⟨rfl,by rw [tkPs,cost]; omega,hg.tl (isB_kind hc)⟩
 ·rw [if_neg hc] at e
  obtain ⟨a,m',rfl,b1,b2,b3⟩:=params_min hw _ [] ts r m (Nat.le_refl _) hg e
  have e3:tkPs true (a :: m')=tkP1 a ++ tkPs false m':=by rw [tkPs]; simp
  exact ⟨b1,by rw [List.nil_append,e3]; exact b2,b3⟩
theorem named_min {ts r:List Tk} {x:Nd} (hg:Gt ts) (e:namedP 48 ts= .ok (x,r)):okO x=true∧cost w ts=w (nmT (textOf x)) + cost w r∧Gt r:=by
 obtain ⟨t,r1,e1,e⟩:=bd_inv e
 cases e
 obtain ⟨a1,a2,a3⟩:=take_name hw hg e1
 refine ⟨?_,a2,a3⟩
 show (decide ((48:Int)=48) && nameB t.text && decide ((0:Int)=0) && ([]:List Nd).isEmpty)=true
 rw [a1]; rfl
theorem latD_min {a k:Int} {s:Bs} {c:Tk} (hs:tokT s=c) {ts r:List Tk} {x:Nd} (hg:Gt ts) (e:latD a k s ts= .ok (x,r)) :
 ∃ t y,x= .mk k t 0 a [y]∧nameB t=true∧okL y=true∧opL y≤64∧cost w (nmT t :: c :: tkL y) + w (sgT [59]) + cost w r≤cost w ts∧Gt r:=by
 obtain ⟨t,r1,e1,e⟩:=bd_inv e
 obtain ⟨_,r2,e2,e⟩:=bd_inv e
 obtain ⟨y,r3,e3,e⟩:=bd_inv e
 obtain ⟨_,r4,e4,e⟩:=bd_inv e
 cases e
 rw [levL_eq] at e3
 obtain ⟨a1,a2,a3⟩:=take_name hw hg e1
 obtain ⟨b1,b2⟩:=cost_exp hw a3 e2
 obtain ⟨c1,c2,c3,c4⟩:=lat_min hw b2 e3
 obtain ⟨d1,d2⟩:=cost_exp hw c4 e4
 have t1:tokT [59]=sgT [59]:=rfl
 rw [t1] at d1
 rw [hs] at b1
 refine ⟨t.text,y,rfl,a1,c1,c2,?_,d2⟩
 simp only [cost]; omega
theorem funcP_min {a k:Int} {ts r:List Tk} {x:Nd} (hg:Gt ts) (e:funcP a k ts= .ok (x,r)) :
 ∃ t n ps o b,x= .mk k t n a (ps ++ [o,b])∧nameB t=true∧ps.all okP=true∧okO o=true∧okB b=true∧opB b≤64∧(if k=5 then okS n=true else n=0)∧
   cost w (nmT t :: opT :: (tkPs true ps ++ clT :: kwT [111,110] :: nmT (textOf o) :: ((if k=5 then [sgT [58],kwT (sortS n)] else []) ++ sgT [61] :: tkB b))) + w (sgT [59]) + cost w r≤cost w ts∧Gt r:=by
 obtain ⟨t,r1,e1,e⟩:=bd_inv e
 obtain ⟨_,r2,e2,e⟩:=bd_inv e
 obtain ⟨ps,r3,e3,e⟩:=bd_inv e
 obtain ⟨_,r4,e4,e⟩:=bd_inv e
 obtain ⟨o,r5,e5,e⟩:=bd_inv e
 obtain ⟨n,r6,e6,e⟩:=bd_inv e
 obtain ⟨_,r7,e7,e⟩:=bd_inv e
 obtain ⟨b,r8,e8,e⟩:=bd_inv e
 obtain ⟨_,r9,e9,e⟩:=bd_inv e
 cases e
 obtain ⟨a1,a2,a3⟩:=take_name hw hg e1
 obtain ⟨b1,b2⟩:=cost_exp hw a3 e2
 obtain ⟨c1,c2,c3⟩:=plist_min hw b2 e3
 obtain ⟨d1,d2⟩:=cost_exp hw c3 e4
 obtain ⟨f1,f2,f3⟩:=named_min hw d2 e5
 have h6:(if k=5 then okS n=true else n=0)∧cost w r5=cost w (if k=5 then [sgT [58],kwT (sortS n)] else []) + cost w r6∧Gt r6:=by
  by_cases hk:k=5
  ·rw [if_pos hk] at e6
   rw [if_pos hk,if_pos hk]
   obtain ⟨_,q,g1,g2⟩:=bd_inv e6
   obtain ⟨i1,i2⟩:=cost_exp hw f3 g1
   obtain ⟨j1,j2,j3⟩:=sort_min hw i2 g2
   have t1:tokT [58]=sgT [58]:=rfl
   rw [t1] at i1
   exact ⟨j1,by simp only [cost]; omega,j3⟩
  ·rw [if_neg hk] at e6
   rw [if_neg hk,if_neg hk]
   cases e6
   exact ⟨rfl,by simp only [cost]; omega,f3⟩
 obtain ⟨k1,k2,k3⟩:=h6
 obtain ⟨l1,l2⟩:=cost_exp hw k3 e7
 obtain ⟨m1,m2,m3,m4⟩:=expr_min hw l2 e8
 obtain ⟨n1,n2⟩:=cost_exp hw m4 e9
 have t1:tokT [40]=opT:=rfl
 have t2:tokT [111,110]=kwT [111,110]:=rfl
 have t3:tokT [61]=sgT [61]:=rfl
 have t4:tokT [59]=sgT [59]:=rfl
 rw [t1] at b1
 rw [t2] at d1
 rw [t3] at l1
 rw [t4] at n1
 refine ⟨t.text,n,ps,o,b,by simp,a1,c1,f1,m1,m2,k1,?_,n2⟩
 simp only [cost,cost_app]; omega
theorem dec_min {ts r:List Tk} {x:Nd} (hg:Gt ts) (e:declP ts= .ok (x,r)):okD x=true∧opD x≤64∧cost w (tkD x) + w (sgT [59]) + cost w r≤cost w ts∧Gt r:=by
 unfold declP at e
 split at e
 ·rename_i hb
  have hc:=cost_isB hw hg hb
  obtain ⟨t,y,rfl,a1,a2,a3,a4,a5⟩:=latD_min hw (c:=sgT [61]) rfl (hg.tl (isB_kind hb)) e
  have t1:tokT [108,97,116,116,105,99,101]=kwT [108,97,116,116,105,99,101]:=rfl
  rw [t1] at hc
  refine ⟨by show (nameB t && (true && okL y))=true; rw [a1,a2]; rfl,a3,?_,a5⟩
  rw [tkD_lat,cost]; omega
 split at e
 ·rename_i hb
  have hc:=cost_isB hw hg hb
  obtain ⟨t,y,rfl,a1,a2,a3,a4,a5⟩:=latD_min hw (c:=sgT [58]) rfl (hg.tl (isB_kind hb)) e
  have t1:tokT [111,98,106,101,99,116]=kwT [111,98,106,101,99,116]:=rfl
  rw [t1] at hc
  refine ⟨by show (nameB t && (true && okL y))=true; rw [a1,a2]; rfl,a3,?_,a5⟩
  rw [tkD_obj,cost]; omega
 split at e
 ·rename_i hb
  have hc:=cost_isB hw hg hb
  obtain ⟨t,n,ps,o,b,rfl,a1,a2,a3,a4,a5,a6,a7,a8⟩:=funcP_min hw (hg.tl (isB_kind hb)) e
  have t1:tokT [117,112,100,97,116,101]=kwT [117,112,100,97,116,101]:=rfl
  rw [t1] at hc
  rw [if_neg (by decide)] at a6 a7
  refine ⟨?_,by rw [opD_fn (.inl rfl)]; exact a5,?_,a8⟩
  ·rw [okD_eq,if_neg (by decide),if_pos (.inl rfl)]
   simp only [partsK_app]
   show (nameB t && (ps.all okP && okO o && okB b && decide (n=0)))=true
   rw [a1,a2,a3,a4,a6]; rfl
  ·rw [tkD_upd,cost]
   rw [List.nil_append] at a7
   omega
 split at e
 ·rename_i hb
  have hc:=cost_isB hw hg hb
  obtain ⟨t,n,ps,o,b,rfl,a1,a2,a3,a4,a5,a6,a7,a8⟩:=funcP_min hw (hg.tl (isB_kind hb)) e
  have t1:tokT [113,117,101,114,121]=kwT [113,117,101,114,121]:=rfl
  rw [t1] at hc
  rw [if_pos rfl] at a6 a7
  refine ⟨?_,by rw [opD_fn (.inr rfl)]; exact a5,?_,a8⟩
  ·rw [okD_eq,if_neg (by decide),if_pos (.inr rfl)]
   simp only [partsK_app]
   show (nameB t && (ps.all okP && okO o && okB b && okS n))=true
   rw [a1,a2,a3,a4,a6]; rfl
  ·rw [tkD_qry,cost]
   have e5:([sgT [58],kwT (sortS n)]:List Tk) ++ sgT [61] :: tkB b=sgT [58] :: kwT (sortS n) :: sgT [61] :: tkB b:=rfl
   rw [e5] at a7
   omega
 ·cases e
theorem prog_min:∀ (f:Nat) (l:List Nd) (ts r:List Tk) (m:List Nd),Gt ts→progF f l ts= .ok (m,r)→∃ ds,m=l ++ ds∧(∀ x ∈ ds,okD x=true∧opD x≤64)∧cost w (tkDs ds) + cost w r≤cost w ts∧Gt r
 | 0,l,ts,r,m,hg,e=>by
   cases e
   exact ⟨[],by simp,by simp,by rw [tkDs,cost]; omega,hg⟩
 | f + 1,l,ts,r,m,hg,e=>by
   simp only [progF] at e
   by_cases hk:(hd ts).kind=6
   ·rw [if_pos hk] at e
    cases e
    exact ⟨[],by simp,by simp,by rw [tkDs,cost]; omega,hg⟩
   ·rw [if_neg hk] at e
    obtain ⟨x,r1,e1,e⟩:=bd_inv e
    obtain ⟨a1,a2,a3,a4⟩:=dec_min hw hg e1
    obtain ⟨ds,rfl,b1,b2,b3⟩:=prog_min f _ r1 r m a4 e
    refine ⟨x :: ds,by simp,?_,?_,b3⟩
    ·intro y hy
     rcases List.mem_cons.1 hy with rfl | hy
     ·exact ⟨a1,a2⟩
     ·exact b1 y hy
    ·rw [tkDs,cost_app,cost]; omega
end
end Go.Proofs.YtmhdkbmnpekpoaaGreatDoor
end
section
set_option linter.unusedSimpArgs false
set_option linter.unusedVariables false
set_option maxRecDepth 8000
namespace Go.Proofs.YtmhdkbmnpekpoaaGreatDoor
open Gx Go
def Hs (z:Bs):Prop:=z=[]∨partB (z.getD 0 0)=false
def Sep (t:Tk) (s:Bs):Prop:=(t.kind=4∨t.kind=5∨Hs s)∧(t.kind=5→t.text.length=2∨s=[]∨signB [t.text.getD 0 0,s.getD 0 0]=false)
theorem takeWhile_stop {p:UInt8→Bool} {w s:Bs} (hw:w.all p=true) (hs:s=[]∨p (s.getD 0 0)=false):(w ++ s).takeWhile p=w:=by
 rw [List.takeWhile_append_of_pos (List.all_eq_true.1 hw)]
 have:s.takeWhile p=[]:=by
  cases s with
  | nil=>rfl
  | cons c r=>
    rcases hs with h | h
    ·cases h
    ·rw [List.takeWhile_cons]
     have h:p c=false:=h
     rw [h]; rfl
 rw [this,List.append_nil]
theorem dig_part {c:UInt8} (h:partB c=false):digB c=false:=by
 unfold partB at h
 simp only [Bool.or_eq_false_iff] at h
 exact h.2.1
theorem tok_sep {t:Tk} (h:poB t=true) (h6:t.kind≠6) {s:Bs} (hs:Sep t s):tokS (spT t ++ s)= .ok t.kind t.text t.n (spT t).length:=by
 have hkw:∀ g ∈ kwList,validN g=true:=by decide
 have word:∀ w:Bs,validN w=true→Hs s→tokS (w ++ s)= .ok (if kwB w then 2 else 1) w 0 w.length:=by
  intro w hv hh
  unfold validN at hv
  simp only [Bool.and_eq_true,decide_eq_true_eq] at hv
  obtain ⟨v1,v2,v3,v4⟩:=hv
  cases w with
  | nil=>simp at v1
  | cons c r=>
    have hc:letB c=true:=v3
    have e:=takeWhile_stop v4 hh
    rw [List.cons_append] at e ⊢
    simp only [tokS,hc,if_true]
    rw [e]
    unfold tokW
    rw [if_neg (by omega)]
 obtain ⟨k,tx,n,a⟩:=t
 have hp:=h
 unfold poB at hp
 simp only [Bool.and_eq_true,Bool.or_eq_true,decide_eq_true_eq] at hp h6
 obtain ⟨hn,hp⟩:=hp
 obtain ⟨hs1,hs2⟩:=hs
 simp only at hs1 hs2
 by_cases k1:k=1
 ·subst k1
  simp only [if_true,Bool.and_eq_true,Bool.not_eq_true'] at hp
  have hn0:n=0:=by omega
  subst hn0
  show tokS (tx ++ s)=_
  rw [word tx hp.1 (by rcases hs1 with q | q | q; omega; omega; exact q),hp.2]; rfl
 rw [if_neg k1] at hp
 by_cases k2:k=2
 ·subst k2
  rw [if_pos rfl] at hp
  have hn0:n=0:=by omega
  subst hn0
  show tokS (tx ++ s)=_
  have hv:=hkw tx (by unfold kwB at hp; simpa using hp)
  rw [word tx hv (by rcases hs1 with q | q | q; omega; omega; exact q),hp]; rfl
 rw [if_neg k2] at hp
 by_cases k3:k=3
 ·subst k3
  simp only [if_true,Bool.and_eq_true,decide_eq_true_eq] at hp
  obtain ⟨rfl,h0,h1⟩:=hp
  obtain ⟨u,rfl⟩:∃ u:Nat,n=u:=⟨n.toNat,by omega⟩
  have hsp:spT ⟨3,[],(u:Int),a⟩=Lib.decDigits u:=by
   rw [spT_int,itoa_nat]
  rw [hsp]
  obtain ⟨d1,d2,d3,d4⟩:=dd_dig u
  show tokS (Lib.decDigits u ++ s)= .ok 3 [] (u:Int) _
  have hh:s=[]∨digB (s.getD 0 0)=false:=by
   rcases hs1 with q | q | q
   ·omega
   ·omega
   ·exact q.imp id dig_part
  generalize Lib.decDigits u=w at *
  cases w with
  | nil=>exact absurd rfl d3
  | cons c r=>
    have hc:digB c=true:=by rw [List.all_cons,Bool.and_eq_true] at d1; exact d1.1
    have hl:letB c=false:=by
     rw [digB_iff] at hc
     simp [letB]; omega
    have e:=takeWhile_stop d1 hh
    rw [List.cons_append] at e ⊢
    simp only [tokS,hl,hc,Bool.false_eq_true,if_false,if_true]
    rw [e]
    unfold tokD
    rw [if_neg (fun q=>d4 q.1 q.2),if_neg (by rw [d2]; omega),d2]
 rw [if_neg k3] at hp
 have hn0:n=0:=by omega
 subst hn0
 by_cases k4:k=4
 ·subst k4
  rw [if_pos rfl] at hp
  show tokS (39 :: (tx ++ [39]) ++ s)= .ok 4 tx 0 (39 :: (tx ++ [39])).length
  have hv:=hp
  unfold validN at hv
  simp only [Bool.and_eq_true,decide_eq_true_eq] at hv
  have hall:∀ x ∈ tx,partB x=true:=List.all_eq_true.1 hv.2.2.2
  have a1:letB 39=false:=by decide
  have a2:digB 39=false:=by decide
  have a3:((UInt8.toNat 39:Nat):Int)=39:=by decide
  have e0:39 :: (tx ++ [39]) ++ s=39 :: (tx ++ 39 :: s):=by simp
  rw [e0]
  simp only [tokS,a1,a2,a3,Bool.false_eq_true,if_false,if_true]
  have e1:(tx ++ 39 :: s).takeWhile partB=tx:=takeWhile_stop (List.all_eq_true.2 hall) (.inr (by show partB 39=false; decide))
  have e2:(tx ++ 39 :: s).dropWhile partB=39 :: s:=by
   rw [List.dropWhile_append_of_pos hall,List.dropWhile_cons,if_neg (by decide)]
  rw [e1,e2]
  unfold tokQ
  rw [if_neg (by simp),if_pos hp]
  simp
 rw [if_neg k4] at hp
 by_cases k5:k=5
 ·subst k5
  rw [if_pos rfl] at hp
  show tokS (tx ++ s)= .ok 5 tx 0 tx.length
  have hs2:=hs2 rfl
  have hmem:tx ∈ signList:=by unfold signB at hp; simpa using hp
  have key:∀ g ∈ signList,(g.length=1∨g.length=2)∧letB (g.getD 0 0)=false∧digB (g.getD 0 0)=false∧¬ ((g.getD 0 0).toNat:Int)=39:=by decide
  obtain ⟨g1,g2,g3,g4⟩:=key tx hmem
  match tx,g1,g2,g3,g4,hp,hs2 with
  | [c],_,g2,g3,g4,hp,hs2=>
    have g2:letB c=false:=g2
    have g3:digB c=false:=g3
    have g4:¬ (c.toNat:Int)=39:=g4
    rw [List.cons_append,List.nil_append]
    simp only [tokS,g2,g3,g4,Bool.false_eq_true,if_false]
    unfold tokG
    have n2:¬ (2≤(c :: s).length∧signB ((c :: s).take 2)=true):=by
     rintro ⟨q1,q2⟩
     cases s with
     | nil=>simp at q1
     | cons d r=>
       rcases hs2 with q | q | q
       ·simp at q
       ·cases q
       ·have q:signB [c,d]=false:=q
        have:(c :: d :: r).take 2=[c,d]:=by simp
        rw [this,q] at q2; cases q2
    rw [if_neg n2,if_pos (by show signB ([c])=true; exact hp)]
    rfl
  | [c,d],_,g2,g3,g4,hp,hs2=>
    have g2:letB c=false:=g2
    have g3:digB c=false:=g3
    have g4:¬ (c.toNat:Int)=39:=g4
    rw [List.cons_append]
    simp only [tokS,g2,g3,g4,Bool.false_eq_true,if_false]
    unfold tokG
    have:(c :: ([d] ++ s)).take 2=[c,d]:=by simp
    rw [if_pos ⟨by simp,by rw [this]; exact hp⟩,this]
    rfl
 ·rw [if_neg k5,if_neg h6] at hp
  cases hp
theorem Lx.tk {t:Tk} (h:poB t=true) (h6:t.kind≠6) {s:Bs} {T:List Tk} (hs:Lx s T) (hq:Sep t s):Lx (spT t ++ s) (t :: T):=fun o=>by
 obtain ⟨hne,hsk⟩:=spT_head h h6 s
 have hpos:=List.length_pos_iff.2 hne
 obtain ⟨T',h1,h2⟩:=hs.at (f:=(spT t ++ s).length) (by simp; omega) (o + (spT t).length)
 rw [lexF_step,hsk,List.drop_zero,tok_sep h h6 hq]
 simp only
 rw [if_neg h6,Nat.zero_add,List.drop_left,Nat.add_zero,h1]
 exact ⟨_,rfl,sameT_cons ⟨rfl,rfl,rfl⟩ h2⟩
section
variable {s:Bs} {T:List Tk}
theorem Lx.kw {w:Bs} (h:kwB w=true) (hs:Lx s T) (hh:Hs s):Lx (w ++ s) (kwT w :: T):=by
 have hp:poB (kwT w)=true:=by
  show (_ && kwB w)=true
  rw [h]; rfl
 exact Lx.tk (t:=kwT w) hp (by show (2:Int)≠6; decide) hs ⟨.inr (.inr hh),fun q=>absurd (show (2:Int)=5 from q) (by decide)⟩
theorem Lx.nm {w:Bs} (h:nameB w=true) (hs:Lx s T) (hh:Hs s):Lx (w ++ s) (nmT w :: T):=by
 have hp:poB (nmT w)=true:=by
  show (_ && nameB w)=true
  rw [h]; rfl
 exact Lx.tk (t:=nmT w) hp (by show (1:Int)≠6; decide) hs ⟨.inr (.inr hh),fun q=>absurd (show (1:Int)=5 from q) (by decide)⟩
theorem Lx.qt {w:Bs} (h:validN w=true) (hs:Lx s T):Lx (39 :: (w ++ 39 :: s)) (qtT w :: T):=by
 have hp:poB (qtT w)=true:=by
  show (_ && validN w)=true
  rw [h]; rfl
 have:=Lx.tk (t:=qtT w) hp (by show (4:Int)≠6; decide) hs ⟨.inl rfl,fun q=>absurd (show (4:Int)=5 from q) (by decide)⟩
 have e:spT (qtT w) ++ s=39 :: (w ++ 39 :: s):=by
  show 39 :: (w ++ [39]) ++ s=_
  simp
 rw [e] at this; exact this
theorem Lx.num {n:Int} (h0:0≤n) (h1:n≤1000000000000000) (hs:Lx s T) (hh:Hs s):Lx (Lib.itoa n ++ s) (itT n :: T):=by
 have hp:poB (itT n)=true:=by
  show (_ && (decide (([]:Bs)=[]) && (decide (0≤n) && decide (n≤1000000000000000))))=true
  simp [h0,h1,itT]
 exact Lx.tk (t:=itT n) hp (by show (3:Int)≠6; decide) hs ⟨.inr (.inr hh),fun q=>absurd (show (3:Int)=5 from q) (by decide)⟩
def lone:Bs:=[40,41,44,46,91,93,58,59,43,45,123,125]
theorem Lx.sg {c:UInt8} (h:c ∈ lone) (hs:Lx s T):Lx (c :: s) (sgT [c] :: T):=by
 have hp:∀ c ∈ lone,poB (sgT [c])=true:=by decide
 have hn:∀ c ∈ lone,∀ d,signB [c,d]=false:=by
  intro c hc d
  unfold signB
  simp only [lone,List.mem_cons,List.not_mem_nil,or_false] at hc
  rcases hc with rfl | rfl | rfl | rfl | rfl | rfl | rfl | rfl | rfl | rfl | rfl | rfl <;> simp [signList]
 exact Lx.tk (t:=sgT [c]) (hp c h) (by show (5:Int)≠6; decide) hs ⟨.inr (.inl rfl),fun _=>.inr (.inr (hn c h _))⟩
theorem Lx.sg2 {w:Bs} (h:signB w=true) (h2:w.length=2) (hs:Lx s T):Lx (w ++ s) (sgT w :: T):=by
 have hp:poB (sgT w)=true:=by
  show (_ && signB w)=true
  rw [h]; rfl
 exact Lx.tk (t:=sgT w) hp (by show (5:Int)≠6; decide) hs ⟨.inr (.inl rfl),fun _=>.inl h2⟩
theorem Lx.bl (hs:Lx s T):Lx (32 :: s) T:=Lx.blank (by decide) hs
theorem hs_bl:Hs (32 :: s):=.inr (by show partB 32=false; decide)
theorem hs_lone {c:UInt8} (h:c ∈ lone) (hc:c≠45):Hs (c :: s):=by
 have:∀ c ∈ lone,c≠45→partB c=false:=by decide
 exact .inr (this c h hc)
end
theorem Lx.op {k:Int} {o:Tk} {lv l r:Nat} (hb:binK k=some (o,lv,l,r)) {s:Bs} {T:List Tk} (hs:Lx s T):Lx (32 :: (spT o ++ 32 :: s)) (o :: T):=by
 have hf:=(binK_f hb).po
 exact Lx.bl (Lx.tok hf.1 hf.2 (Lx.bl hs))
end Go.Proofs.YtmhdkbmnpekpoaaGreatDoor
end
section
set_option linter.unusedSimpArgs false
set_option linter.unusedVariables false
set_option maxRecDepth 8000
namespace Go.Proofs.YtmhdkbmnpekpoaaGreatDoor
open Gx Go
def wrapS (b:Bool) (s:Bs):Bs:=if b then 40 :: (s ++ [41]) else s
mutual
def sB:Nd→Bs
 | .mk k t n _ ks=>match binK k with
   | some (o,_,l,r)=>(match ks with
     | [a,b]=>wrapS (decide (lvN a < l)) (sB a) ++ 32 :: (spT o ++ 32 :: wrapS (decide (lvN b < r)) (sB b))
     | _=>[])
   | none=>
     if k=30 then (match ks with
      | [a,b,c]=>[105,102] ++ 32 :: (sB a ++ 32 :: ([116,104,101,110] ++ 32 :: (sB b ++ 32 :: ([101,108,115,101] ++ 32 :: sB c))))
      | _=>[])
     else if k=33 then (match ks with
      | [a]=>[110,111,116] ++ 32 :: wrapS (decide (lvN a < 3)) (sB a)
      | _=>[])
     else if k=42 then (match ks with
      | [a]=>wrapS (decide (lvN a < 7)) (sB a) ++ 46 :: t
      | _=>[])
     else if k=43 then (match ks with
      | [a,b]=>wrapS (decide (lvN a < 7)) (sB a) ++ 91 :: (sB b ++ [93])
      | _=>[])
     else if k=44 then Lib.itoa n
     else if k=47 then 39 :: (t ++ [39])
     else if k=48 then t
     else if k=51 then t ++ 40 :: (sA t true ks ++ [41])
     else match wordK k with
      | some w=>w
      | none=>[]
def sA (fn:Bs):Bool→List Nd→Bs
 | _,[]=>[]
 | first,a :: r=>(if first then [] else [44,32]) ++ (sG fn a ++ sA fn false r)
def sG (fn:Bs):Nd→Bs
 | .mk k t n p ks=>if fn=[114,101,99] then (match ks with
  | [x]=>t ++ 58 :: 32 :: sB x
  | _=>[])
  else if fn=[109,97,112] then (match ks with
   | [x,y]=>sB x ++ 58 :: 32 :: sB y
   | _=>[])
  else sB (.mk k t n p ks)
end
def sAt (n:Nd) (req:Nat):Bs:=wrapS (decide (lvN n < req)) (sB n)
theorem sAt_zero (x:Nd):sAt x 0=sB x:=by simp [sAt,wrapS]
section
variable {k n p:Int} {t:Bs} {a b c:Nd} {ks:List Nd} {o:Tk} {lv l r:Nat}
theorem sB_bin (h:binK k=some (o,lv,l,r)):sB (.mk k t n p [a,b])=sAt a l ++ 32 :: (spT o ++ 32 :: sAt b r):=by
 rw [sB.eq_def]; simp only [h]; rfl
theorem sB_if:sB (.mk 30 t n p [a,b,c])=[105,102] ++ 32 :: (sB a ++ 32 :: ([116,104,101,110] ++ 32 :: (sB b ++ 32 :: ([101,108,115,101] ++ 32 :: sB c)))):=by
 rw [sB.eq_def]; rfl
theorem sB_not:sB (.mk 33 t n p [a])=[110,111,116] ++ 32 :: sAt a 3:=by
 rw [sB.eq_def]; rfl
theorem sB_field:sB (.mk 42 t n p [a])=sAt a 7 ++ 46 :: t:=by
 rw [sB.eq_def]; rfl
theorem sB_index:sB (.mk 43 t n p [a,b])=sAt a 7 ++ 91 :: (sB b ++ [93]):=by
 rw [sB.eq_def]; rfl
theorem sB_int:sB (.mk 44 t n p ks)=Lib.itoa n:=by
 rw [sB.eq_def]; rfl
theorem sB_quote:sB (.mk 47 t n p ks)=39 :: (t ++ [39]):=by
 rw [sB.eq_def]; rfl
theorem sB_name:sB (.mk 48 t n p ks)=t:=by
 rw [sB.eq_def]; rfl
theorem sB_call:sB (.mk 51 t n p ks)=t ++ 40 :: (sA t true ks ++ [41]):=by
 rw [sB.eq_def]; rfl
theorem sB_word {w:Bs} (h:wordK k=some w):sB (.mk k t n p ks)=w:=by
 have hk:k=45∨k=46∨k=49∨k=50:=by
  unfold wordK at h
  repeat' split at h
  all_goals first
   | (cases h; done)
   | omega
 rcases hk with rfl | rfl | rfl | rfl <;> (rw [sB.eq_def]; cases h; rfl)
end
theorem sG_other {fn:Bs} (h1:fn≠[114,101,99]) (h2:fn≠[109,97,112]) (a:Nd):sG fn a=sB a:=by
 obtain ⟨k,t,n,p,ks⟩:=a
 rw [sG.eq_def]; simp only [h1,h2,if_false]
theorem sG_rec {k n p:Int} {t:Bs} {x:Nd}:sG [114,101,99] (.mk k t n p [x])=t ++ 58 :: 32 :: sB x:=by rw [sG.eq_def]; rfl
theorem sG_map {k n p:Int} {t:Bs} {x y:Nd}:sG [109,97,112] (.mk k t n p [x,y])=sB x ++ 58 :: 32 :: sB y:=by rw [sG.eq_def]; rfl
theorem okJ_cases {fn:Bs}:∀ {a:Nd},okJ fn a=true→(fn=[114,101,99]∧∃ t p x,a= .mk 52 t 0 p [x]∧nameB t=true∧okB x=true)∨(fn=[109,97,112]∧∃ p x y,a= .mk 52 [] 0 p [x,y]∧okB x=true∧okB y=true)∨(fn≠[114,101,99]∧fn≠[109,97,112]∧okB a=true)
 | .mk k t n p ks,h=>by
   rw [okJ.eq_def] at h
   simp only at h
   by_cases h1:fn=[114,101,99]
   ·rw [if_pos h1] at h
    match ks,h with
    | [x],h=>
      simp only [Bool.and_eq_true,decide_eq_true_eq] at h
      obtain ⟨⟨⟨rfl,a2⟩,rfl⟩,a4⟩:=h
      exact .inl ⟨h1,t,p,x,rfl,a2,a4⟩
   rw [if_neg h1] at h
   by_cases h2:fn=[109,97,112]
   ·rw [if_pos h2] at h
    match ks,h with
    | [x,y],h=>
      simp only [Bool.and_eq_true,decide_eq_true_eq] at h
      obtain ⟨⟨⟨⟨rfl,rfl⟩,rfl⟩,a3⟩,a4⟩:=h
      exact .inr (.inl ⟨h2,p,x,y,rfl,a3,a4⟩)
   rw [if_neg h2] at h
   exact .inr (.inr ⟨h1,h2,h⟩)
theorem lx_int {n:Int} (h1:-1000000000000000≤n) (h2:n≤1000000000000000) {s:Bs} {T:List Tk} (hs:Lx s T) (hh:Hs s):Lx (Lib.itoa n ++ s) (intTk n ++ T):=by
 unfold intTk
 by_cases hneg:n < 0
 ·rw [if_pos hneg]
  have e:Lib.itoa n=45 :: Lib.itoa (-n):=by
   unfold Lib.itoa
   rw [if_pos hneg,if_neg (by omega)]
   congr 2; omega
  rw [e]
  exact Lx.sg (c:=45) (by decide) (Lx.num (by omega) (by omega) hs hh)
 ·rw [if_neg hneg]
  exact Lx.num (by omega) h2 hs hh
def LxOf (s:Bs) (T:List Tk):Prop:=∀ z Z,Hs z→Lx z Z→Lx (s ++ z) (T ++ Z)
theorem LxOf.wrap {s:Bs} {T:List Tk} (b:Bool) (h:LxOf s T):LxOf (wrapS b s) (wrapP b T):=by
 cases b
 ·exact h
 ·intro z Z hz hZ
  show Lx (40 :: (s ++ [41]) ++ z) (opT :: (T ++ [clT]) ++ Z)
  have e1:40 :: (s ++ [41]) ++ z=40 :: (s ++ 41 :: z):=by simp
  have e2:opT :: (T ++ [clT]) ++ Z=opT :: (T ++ clT :: Z):=by simp
  rw [e1,e2]
  exact Lx.open (h _ _ (hs_lone (by decide) (by decide)) (Lx.close hZ))
theorem lxB_all:∀ (N:Nat) (x:Nd),sizeN x≤N→okB x=true→LxOf (sB x) (tkB x)
 | 0,x,h,_=>by cases x; simp only [sizeN] at h; omega
 | N + 1,x,h,ho=>by
   have ih:=lxB_all N
   have at_:∀ (a:Nd) (q:Nat),sizeN a≤N→okB a=true→LxOf (sAt a q) (tkAt a q):=fun a q ha ho=>(ih a ha ho).wrap _
   have hs:=ok_cases ho
   cases hs with
   | @bin kk n p t a b o lv l r hb ht hn ha hb'=>
     simp only [sizeN,sizeL] at h
     rw [sB_bin hb,tkB_bin hb]
     intro z Z hz hZ
     have e1:sAt a l ++ 32 :: (spT o ++ 32 :: sAt b r) ++ z=sAt a l ++ 32 :: (spT o ++ 32 :: (sAt b r ++ z)):=by simp
     have e2:tkAt a l ++ o :: tkAt b r ++ Z=tkAt a l ++ o :: (tkAt b r ++ Z):=by simp
     rw [e1,e2]
     exact at_ a l (by omega) ha _ _ hs_bl (Lx.op hb (at_ b r (by omega) hb' z Z hz hZ))
   | @cond n p t a b c ht hn ha hb hc=>
     simp only [sizeN,sizeL] at h
     rw [sB_if,tkB_if]
     intro z Z hz hZ
     have e1:[105,102] ++ 32 :: (sB a ++ 32 :: ([116,104,101,110] ++ 32 :: (sB b ++ 32 :: ([101,108,115,101] ++ 32 :: sB c)))) ++ z=[105,102] ++ 32 :: (sB a ++ 32 :: ([116,104,101,110] ++ 32 :: (sB b ++ 32 :: ([101,108,115,101] ++ 32 :: (sB c ++ z))))):=by simp
     have e2:kwT [105,102] :: (tkB a ++ kwT [116,104,101,110] :: (tkB b ++ kwT [101,108,115,101] :: tkB c)) ++ Z=kwT [105,102] :: (tkB a ++ kwT [116,104,101,110] :: (tkB b ++ kwT [101,108,115,101] :: (tkB c ++ Z))):=by simp
     rw [e1,e2]
     exact Lx.kw rfl (Lx.bl (ih a (by omega) ha _ _ hs_bl (Lx.bl (Lx.kw rfl (Lx.bl (ih b (by omega) hb _ _ hs_bl (Lx.bl (Lx.kw rfl (Lx.bl (ih c (by omega) hc z Z hz hZ)) hs_bl)))) hs_bl)))) hs_bl
   | @not n p t a ht hn ha=>
     simp only [sizeN,sizeL] at h
     rw [sB_not,tkB_not]
     intro z Z hz hZ
     have e1:[110,111,116] ++ 32 :: sAt a 3 ++ z=[110,111,116] ++ 32 :: (sAt a 3 ++ z):=by simp
     rw [e1]
     exact Lx.kw rfl (Lx.bl (at_ a 3 (by omega) ha z Z hz hZ)) hs_bl
   | @field n p t a ht hn ha=>
     simp only [sizeN,sizeL] at h
     rw [sB_field,tkB_field]
     intro z Z hz hZ
     have e2:tkAt a 7 ++ [sgT [46],nmT t] ++ Z=tkAt a 7 ++ sgT [46] :: nmT t :: Z:=by simp
     rw [List.append_assoc,List.cons_append,e2]
     exact at_ a 7 (by omega) ha _ _ (hs_lone (by decide) (by decide)) (Lx.sg (by decide) (Lx.nm ht hZ hz))
   | @index n p t a b ht hn ha hb=>
     simp only [sizeN,sizeL] at h
     rw [sB_index,tkB_index]
     intro z Z hz hZ
     have e1:sAt a 7 ++ 91 :: (sB b ++ [93]) ++ z=sAt a 7 ++ 91 :: (sB b ++ 93 :: z):=by simp
     have e2:tkAt a 7 ++ sgT [91] :: (tkB b ++ [sgT [93]]) ++ Z=tkAt a 7 ++ sgT [91] :: (tkB b ++ sgT [93] :: Z):=by simp
     rw [e1,e2]
     exact at_ a 7 (by omega) ha _ _ (hs_lone (by decide) (by decide)) (Lx.sg (by decide) (ih b (by omega) hb _ _ (hs_lone (by decide) (by decide)) (Lx.sg (by decide) hZ)))
   | @int n p t ht h1 h2=>
     rw [sB_int,tkB_int]
     exact fun z Z hz hZ=>lx_int h1 h2 hZ hz
   | @quote n p t ht hn=>
     rw [sB_quote,tkB_quote]
     intro z Z hz hZ
     have e1:39 :: (t ++ [39]) ++ z=39 :: (t ++ 39 :: z):=by simp
     rw [e1]
     exact Lx.qt ht hZ
   | @name n p t ht hn=>
     rw [sB_name,tkB_name]
     exact fun z Z hz hZ=>Lx.nm ht hZ hz
   | @call n p t ks ht hn hk=>
     rw [sB_call,tkB_call]
     simp only [sizeN] at h
     intro z Z hz hZ
     have e1:t ++ 40 :: (sA t true ks ++ [41]) ++ z=t ++ 40 :: (sA t true ks ++ 41 :: z):=by simp
     have e2:kwT t :: opT :: (tkA t true ks ++ [clT]) ++ Z=kwT t :: opT :: (tkA t true ks ++ clT :: Z):=by simp
     rw [e1,e2]
     have hkw:∀ f ∈ fnList,kwB f=true:=by decide
     have arg:∀ a:Nd,sizeN a≤N→okJ t a=true→LxOf (sG t a) (tkG t a):=fun a hsa hoa=>by
      rcases okJ_cases hoa with ⟨rfl,tt,pp,y,rfl,q1,q2⟩ | ⟨rfl,pp,y,u,rfl,q1,q2⟩ | ⟨q1,q2,q3⟩
      ·simp only [sizeN,sizeL] at hsa
       rw [sG_rec,tkG_rec.1]
       intro z Z hz hZ
       rw [List.append_assoc,List.cons_append,List.cons_append,List.cons_append,List.cons_append]
       exact Lx.nm q1 (Lx.sg (by decide) (Lx.bl (ih y (by omega) q2 z Z hz hZ))) (hs_lone (by decide) (by decide))
      ·simp only [sizeN,sizeL] at hsa
       rw [sG_map,tkG_map.1]
       intro z Z hz hZ
       rw [List.append_assoc,List.cons_append,List.cons_append,List.append_assoc,List.cons_append]
       exact ih y (by omega) q1 _ _ (hs_lone (by decide) (by decide)) (Lx.sg (by decide) (Lx.bl (ih u (by omega) q2 z Z hz hZ)))
      ·rw [sG_other q1 q2,(okJ_other q1 q2 a).2.2]
       exact ih a hsa q3
     have args:∀ (ks:List Nd) (z:Bs) (Z:List Tk),sizeL ks≤N→okA t ks=true→Hs z→Lx z Z→Hs (sA t false ks ++ z)∧Lx (sA t false ks ++ z) (tkA t false ks ++ Z):=by
      intro ks
      induction ks with
      | nil=>
        intro z Z _ _ hz hZ
        rw [sA,tkA]; exact ⟨hz,hZ⟩
      | cons a r ih2=>
        intro z Z hsz ho hz hZ
        simp only [sizeL] at hsz
        rw [okA,Bool.and_eq_true] at ho
        obtain ⟨i1,i2⟩:=ih2 z Z (by omega) ho.2 hz hZ
        have e1:sA t false (a :: r) ++ z=44 :: 32 :: (sG t a ++ (sA t false r ++ z)):=by rw [sA]; simp
        have e2:tkA t false (a :: r) ++ Z=sgT [44] :: (tkG t a ++ (tkA t false r ++ Z)):=by rw [tkA]; simp
        rw [e1,e2]
        exact ⟨hs_lone (by decide) (by decide),Lx.sg (by decide) (Lx.bl (arg a (by omega) ho.1 _ _ i1 i2))⟩
     refine Lx.kw (hkw t ht) (Lx.open ?_) (hs_lone (by decide) (by decide))
     cases ks with
     | nil=>rw [sA,tkA]; exact Lx.close hZ
     | cons a r=>
       simp only [sizeL] at h
       rw [okA,Bool.and_eq_true] at hk
       obtain ⟨i1,i2⟩:=args r (41 :: z) (clT :: Z) (by omega) hk.2 (hs_lone (by decide) (by decide)) (Lx.close hZ)
       have e1:sA t true (a :: r) ++ 41 :: z=sG t a ++ (sA t false r ++ 41 :: z):=by rw [sA]; simp
       have e2:tkA t true (a :: r) ++ clT :: Z=tkG t a ++ (tkA t false r ++ clT :: Z):=by rw [tkA]; simp
       rw [e1,e2]
       exact arg a (by omega) hk.1 _ _ i1 i2
   | @word kk n p t w hw hb ht hn=>
     rw [sB_word hw,tkB_word hw]
     have hk:kwB w=true:=by
      unfold wordK at hw
      repeat' split at hw
      all_goals first
       | (cases hw; done)
       | (cases hw; rfl)
     exact fun z Z hz hZ=>Lx.kw hk hZ hz
theorem lxB {x:Nd} (ho:okB x=true):LxOf (sB x) (tkB x):=lxB_all _ x (Nat.le_refl _) ho
theorem lx_expr {x:Nd} (ho:okB x=true):Lx (sB x) (tkB x ++ [eT]):=by
 have:=lxB ho [] [eT] (.inl rfl) Lx.nil
 rw [List.append_nil] at this; exact this
def sQs:Bool→List Nd→Bs
 | _,[]=>[]
 | first,a :: r=>(if first then [] else [44,32]) ++ 39 :: (textOf a ++ 39 :: sQs false r)
def sAll (ks:List Nd):Bs:=if ks.isEmpty then [] else 40 :: (sQs true ks ++ [41])
def sR (x:Nd):Bs:=59 :: 32 :: (sQs true (kidsOf x).dropLast ++ ((if (kidsOf x).dropLast.isEmpty then [] else [32]) ++ 61 :: 62 :: 32 :: 39 :: (((kidsOf x).getLast?.map textOf).getD [] ++ [39])))
def sRs:List Nd→Bs
 | []=>[]
 | x :: r=>sR x ++ sRs r
mutual
def sL:Nd→Bs
 | .mk k t n p ks=>
   if k=21 then t
   else if k=10 then [102,108,97,103]
   else if k=18 then [114,101,103,105,115,116,101,114]
   else if k=13 then [115,101,116] ++ sAll ks
   else if k=17 then [102,108,97,116] ++ sAll ks
   else if k=14 then [109,97,112] ++ (sAll ks.dropLast ++ 32 :: ((sLs ks).getLast?.getD []))
   else if k=11 then [109,97,120] ++ 40 :: (Lib.itoa ((ks.map numOf).getD 0 0) ++ 44 :: 32 :: (Lib.itoa ((ks.map numOf).getD 1 0) ++ [41]))
   else if k=12 then [109,105,110] ++ 40 :: (Lib.itoa ((ks.map numOf).getD 0 0) ++ 44 :: 32 :: (Lib.itoa ((ks.map numOf).getD 1 0) ++ [41]))
   else if k=16 then [108,101,120] ++ 40 :: ((sLs ks).getD 0 [] ++ 44 :: 32 :: ((sLs ks).getD 1 [] ++ [41]))
   else if k=15 then 123 :: (sMs true ks ++ [125])
   else if k=19 then [99,108,111,115,101,100] ++ 40 :: (sQs true (leadQ ks) ++ (sRs (restQ ks) ++ [41]))
   else []
def sLs:List Nd→List Bs
 | []=>[]
 | x :: r=>sL x :: sLs r
def sMs:Bool→List Nd→Bs
 | _,[]=>[]
 | first,x :: r=>(if first then [] else [44,32]) ++ (sM x ++ sMs false r)
def sM:Nd→Bs
 | .mk k t n p ks=>t ++ 58 :: 32 :: ((sLs ks).getD 0 [])
end
theorem sLs_app:∀ (l:List Nd) (x:Nd),sLs (l ++ [x])=sLs l ++ [sL x]
 | [],x=>by rw [List.nil_append,sLs,sLs]; rfl
 | y :: l,x=>by rw [List.cons_append,sLs,sLs,sLs_app l x]; rfl
section
variable {n p:Int} {t:Bs} {a b x:Nd} {ks:List Nd}
theorem sL_named:sL (.mk 21 t n p ks)=t:=by rw [sL.eq_def]; rfl
theorem sL_flag:sL (.mk 10 t n p ks)=[102,108,97,103]:=by rw [sL.eq_def]; rfl
theorem sL_register:sL (.mk 18 t n p ks)=[114,101,103,105,115,116,101,114]:=by rw [sL.eq_def]; rfl
theorem sL_set:sL (.mk 13 t n p ks)=[115,101,116] ++ sAll ks:=by rw [sL.eq_def]; rfl
theorem sL_flat:sL (.mk 17 t n p ks)=[102,108,97,116] ++ sAll ks:=by rw [sL.eq_def]; rfl
theorem sL_map:sL (.mk 14 t n p (ks ++ [x]))=[109,97,112] ++ (sAll ks ++ 32 :: sL x):=by
 have e:sL (.mk 14 t n p (ks ++ [x]))=[109,97,112] ++ (sAll (ks ++ [x]).dropLast ++ 32 :: ((sLs (ks ++ [x])).getLast?.getD [])):=by rw [sL.eq_def]; rfl
 rw [e,List.dropLast_concat,sLs_app,List.getLast?_append]; rfl
theorem sL_max:sL (.mk 11 t n p [a,b])=[109,97,120] ++ 40 :: (Lib.itoa (numOf a) ++ 44 :: 32 :: (Lib.itoa (numOf b) ++ [41])):=by rw [sL.eq_def]; rfl
theorem sL_min:sL (.mk 12 t n p [a,b])=[109,105,110] ++ 40 :: (Lib.itoa (numOf a) ++ 44 :: 32 :: (Lib.itoa (numOf b) ++ [41])):=by rw [sL.eq_def]; rfl
theorem sL_lex:sL (.mk 16 t n p [a,b])=[108,101,120] ++ 40 :: (sL a ++ 44 :: 32 :: (sL b ++ [41])):=by
 have e:sL (.mk 16 t n p [a,b])=[108,101,120] ++ 40 :: ((sLs [a,b]).getD 0 [] ++ 44 :: 32 :: ((sLs [a,b]).getD 1 [] ++ [41])):=by rw [sL.eq_def]; rfl
 rw [e,sLs,sLs,sLs]; rfl
theorem sL_prod:sL (.mk 15 t n p ks)=123 :: (sMs true ks ++ [125]):=by rw [sL.eq_def]; rfl
theorem sL_closed:sL (.mk 19 t n p ks)=[99,108,111,115,101,100] ++ 40 :: (sQs true (leadQ ks) ++ (sRs (restQ ks) ++ [41])):=by rw [sL.eq_def]; rfl
theorem sM_eq {k:Int}:sM (.mk k t n p [x])=t ++ 58 :: 32 :: sL x:=by rw [sM,sLs]; rfl
end
theorem lx_quotes:∀ (qs:List Nd) (z:Bs) (Z:List Tk),qs.all okQ=true→Hs z→Lx z Z→Hs (sQs false qs ++ z)∧Lx (sQs false qs ++ z) (tkQs false qs ++ Z)
 | [],z,Z,_,hz,hZ=>⟨hz,hZ⟩
 | q :: qs,z,Z,ho,hz,hZ=>by
   rw [List.all_cons,Bool.and_eq_true] at ho
   obtain ⟨t,p,rfl,ht⟩:=okQ_inv ho.1
   obtain ⟨i1,i2⟩:=lx_quotes qs z Z ho.2 hz hZ
   have e1:sQs false (.mk 47 t 0 p [] :: qs) ++ z=44 :: 32 :: 39 :: (t ++ 39 :: (sQs false qs ++ z)):=by rw [sQs]; simp [textOf]
   have e2:tkQs false (.mk 47 t 0 p [] :: qs) ++ Z=sgT [44] :: qtT t :: (tkQs false qs ++ Z):=by rw [tkQs]; rfl
   rw [e1,e2]
   exact ⟨hs_lone (by decide) (by decide),Lx.sg (by decide) (Lx.bl (Lx.qt ht i2))⟩
theorem lx_quotes1 {q:Nd} {qs:List Nd} {z:Bs} {Z:List Tk} (ho:(q :: qs).all okQ=true) (hz:Hs z) (hZ:Lx z Z):Lx (sQs true (q :: qs) ++ z) (tkQs true (q :: qs) ++ Z):=by
 rw [List.all_cons,Bool.and_eq_true] at ho
 obtain ⟨t,p,rfl,ht⟩:=okQ_inv ho.1
 obtain ⟨i1,i2⟩:=lx_quotes qs z Z ho.2 hz hZ
 have e1:sQs true (.mk 47 t 0 p [] :: qs) ++ z=39 :: (t ++ 39 :: (sQs false qs ++ z)):=by rw [sQs]; simp [textOf]
 have e2:tkQs true (.mk 47 t 0 p [] :: qs) ++ Z=qtT t :: (tkQs false qs ++ Z):=by rw [tkQs]; rfl
 rw [e1,e2]
 exact Lx.qt ht i2
theorem lx_all {qs:List Nd} {z:Bs} {Z:List Tk} (ho:qs.all okQ=true) (hz:Hs z) (hZ:Lx z Z):Hs (sAll qs ++ z)∧Lx (sAll qs ++ z) (tkAll qs ++ Z):=by
 cases qs with
 | nil=>exact ⟨hz,hZ⟩
 | cons q qs=>
   have e1:sAll (q :: qs) ++ z=40 :: (sQs true (q :: qs) ++ 41 :: z):=by
    show 40 :: (sQs true (q :: qs) ++ [41]) ++ z=_
    simp
   have e2:tkAll (q :: qs) ++ Z=opT :: (tkQs true (q :: qs) ++ clT :: Z):=by
    show opT :: (tkQs true (q :: qs) ++ [clT]) ++ Z=_
    simp
   rw [e1,e2]
   exact ⟨hs_lone (by decide) (by decide),Lx.open (lx_quotes1 ho (hs_lone (by decide) (by decide)) (Lx.close hZ))⟩
theorem lx_rule {x:Nd} {z:Bs} {Z:List Tk} (h:okR x=true) (hz:Hs z) (hZ:Lx z Z):Lx (sR x ++ z) (tkR x ++ Z):=by
 obtain ⟨k,t,n,p,ks⟩:=x
 unfold okR plainN at h
 simp only [Bool.and_eq_true,decide_eq_true_eq] at h
 obtain ⟨⟨_,h4⟩,h5⟩:=h
 have hne:ks≠[]:=by
  intro q
  subst q
  simp [kidsOf] at h4
 have ek:=(List.dropLast_concat_getLast hne).symm
 generalize hqs:ks.dropLast=qs at *
 generalize ks.getLast hne=c at *
 subst ek
 have h5:(qs ++ [c]).all okQ=true:=h5
 rw [List.all_append,Bool.and_eq_true] at h5
 obtain ⟨h6,h7⟩:=h5
 have h7:okQ c=true:=by simpa using h7
 obtain ⟨tc,pc,rfl,htc⟩:=okQ_inv h7
 have e2:tkR (.mk k t n p (qs ++ [.mk 47 tc 0 pc []])) ++ Z=sgT [59] :: (tkQs true qs ++ sgT [61,62] :: qtT tc :: Z):=by
  unfold tkR kidsOf
  simp [textOf]
 have e1:sR (.mk k t n p (qs ++ [.mk 47 tc 0 pc []])) ++ z=59 :: 32 :: (sQs true qs ++ ((if qs.isEmpty then [] else [32]) ++ ([61,62] ++ 32 :: 39 :: (tc ++ 39 :: z)))):=by
  unfold sR kidsOf
  simp [textOf]
 rw [e1,e2]
 have hb:Lx ([61,62] ++ 32 :: 39 :: (tc ++ 39 :: z)) (sgT [61,62] :: qtT tc :: Z):=Lx.sg2 (by decide) rfl (Lx.bl (Lx.qt htc hZ))
 refine Lx.sg (by decide) (Lx.bl ?_)
 cases qs with
 | nil=>exact hb
 | cons q r=>exact lx_quotes1 h6 hs_bl (Lx.bl hb)
theorem lx_rules:∀ (rs:List Nd) (z:Bs) (Z:List Tk),rs.all okR=true→Hs z→Lx z Z→Hs (sRs rs ++ z)∧Lx (sRs rs ++ z) (tkRs rs ++ Z)
 | [],z,Z,_,hz,hZ=>⟨hz,hZ⟩
 | x :: rs,z,Z,ho,hz,hZ=>by
   rw [List.all_cons,Bool.and_eq_true] at ho
   obtain ⟨i1,i2⟩:=lx_rules rs z Z ho.2 hz hZ
   rw [sRs,tkRs,List.append_assoc,List.append_assoc]
   exact ⟨.inr rfl,lx_rule ho.1 i1 i2⟩
theorem lxL_all:∀ (N:Nat) (x:Nd),sizeN x≤N→okL x=true→LxOf (sL x) (tkL x)
 | 0,x,h,_=>by cases x; simp only [sizeN] at h; omega
 | N + 1,x,h,ho=>by
   have ih:=lxL_all N
   have hs:=lat_cases ho
   cases hs with
   | @named n p t ht hn=>rw [sL_named,tkL_named]; exact fun z Z hz hZ=>Lx.nm ht hZ hz
   | @flag n p t ht hn=>rw [sL_flag,tkL_flag]; exact fun z Z hz hZ=>Lx.kw rfl hZ hz
   | @register n p t ht hn=>rw [sL_register,tkL_register]; exact fun z Z hz hZ=>Lx.kw rfl hZ hz
   | @set n p t ks ht hn hk=>
     rw [sL_set,tkL_set]
     intro z Z hz hZ
     obtain ⟨i1,i2⟩:=lx_all hk hz hZ
     have e1:[115,101,116] ++ sAll ks ++ z=[115,101,116] ++ (sAll ks ++ z):=List.append_assoc ..
     have e2:kwT [115,101,116] :: tkAll ks ++ Z=kwT [115,101,116] :: (tkAll ks ++ Z):=rfl
     rw [e1,e2]
     exact Lx.kw rfl i2 i1
   | @flat n p t ks ht hn hk=>
     rw [sL_flat,tkL_flat]
     intro z Z hz hZ
     obtain ⟨i1,i2⟩:=lx_all hk hz hZ
     have e1:[102,108,97,116] ++ sAll ks ++ z=[102,108,97,116] ++ (sAll ks ++ z):=List.append_assoc ..
     have e2:kwT [102,108,97,116] :: tkAll ks ++ Z=kwT [102,108,97,116] :: (tkAll ks ++ Z):=rfl
     rw [e1,e2]
     exact Lx.kw rfl i2 i1
   | @map n p t ks x ht hn hk hx=>
     have hsz:sizeN x≤N:=by
      simp only [sizeN] at h
      have hsl:∀ l:List Nd,sizeL (l ++ [x])=sizeL l + sizeN x:=by
       intro l
       induction l with
       | nil=>simp [sizeL]
       | cons y l ih2=>rw [List.cons_append,sizeL,sizeL,ih2]; omega
      rw [hsl] at h
      omega
     rw [sL_map,tkL_map]
     intro z Z hz hZ
     obtain ⟨i1,i2⟩:=lx_all hk hs_bl (Lx.bl (ih x hsz hx z Z hz hZ))
     have e1:[109,97,112] ++ (sAll ks ++ 32 :: sL x) ++ z=[109,97,112] ++ (sAll ks ++ 32 :: (sL x ++ z)):=by simp
     have e2:kwT [109,97,112] :: (tkAll ks ++ tkL x) ++ Z=kwT [109,97,112] :: (tkAll ks ++ (tkL x ++ Z)):=by simp
     rw [e1,e2]
     exact Lx.kw rfl i2 i1
   | @max n p t a b ht hn ha hb=>
     obtain ⟨na,pa,rfl,a1,a2⟩:=okI_inv ha
     obtain ⟨nb,pb,rfl,b1,b2⟩:=okI_inv hb
     rw [sL_max,tkL_max]
     intro z Z hz hZ
     have en:∀ (q z:Int),numOf (.mk 44 [] q z [])=q:=fun _ _=>rfl
     rw [en,en]
     have e1:[109,97,120] ++ 40 :: (Lib.itoa na ++ 44 :: 32 :: (Lib.itoa nb ++ [41])) ++ z=[109,97,120] ++ 40 :: (Lib.itoa na ++ 44 :: 32 :: (Lib.itoa nb ++ 41 :: z)):=by simp
     have e2:kwT [109,97,120] :: opT :: (intTk na ++ sgT [44] :: (intTk nb ++ [clT])) ++ Z=kwT [109,97,120] :: opT :: (intTk na ++ sgT [44] :: (intTk nb ++ clT :: Z)):=by simp
     rw [e1,e2]
     exact Lx.kw rfl (Lx.open (lx_int a1 a2 (Lx.sg (by decide) (Lx.bl (lx_int b1 b2 (Lx.close hZ) (hs_lone (by decide) (by decide))))) (hs_lone (by decide) (by decide)))) (hs_lone (by decide) (by decide))
   | @min n p t a b ht hn ha hb=>
     obtain ⟨na,pa,rfl,a1,a2⟩:=okI_inv ha
     obtain ⟨nb,pb,rfl,b1,b2⟩:=okI_inv hb
     rw [sL_min,tkL_min]
     intro z Z hz hZ
     have en:∀ (q z:Int),numOf (.mk 44 [] q z [])=q:=fun _ _=>rfl
     rw [en,en]
     have e1:[109,105,110] ++ 40 :: (Lib.itoa na ++ 44 :: 32 :: (Lib.itoa nb ++ [41])) ++ z=[109,105,110] ++ 40 :: (Lib.itoa na ++ 44 :: 32 :: (Lib.itoa nb ++ 41 :: z)):=by simp
     have e2:kwT [109,105,110] :: opT :: (intTk na ++ sgT [44] :: (intTk nb ++ [clT])) ++ Z=kwT [109,105,110] :: opT :: (intTk na ++ sgT [44] :: (intTk nb ++ clT :: Z)):=by simp
     rw [e1,e2]
     exact Lx.kw rfl (Lx.open (lx_int a1 a2 (Lx.sg (by decide) (Lx.bl (lx_int b1 b2 (Lx.close hZ) (hs_lone (by decide) (by decide))))) (hs_lone (by decide) (by decide)))) (hs_lone (by decide) (by decide))
   | @lex n p t a b ht hn ha hb=>
     simp only [sizeN,sizeL] at h
     rw [sL_lex,tkL_lex]
     intro z Z hz hZ
     have e1:[108,101,120] ++ 40 :: (sL a ++ 44 :: 32 :: (sL b ++ [41])) ++ z=[108,101,120] ++ 40 :: (sL a ++ 44 :: 32 :: (sL b ++ 41 :: z)):=by simp
     have e2:kwT [108,101,120] :: opT :: (tkL a ++ sgT [44] :: (tkL b ++ [clT])) ++ Z=kwT [108,101,120] :: opT :: (tkL a ++ sgT [44] :: (tkL b ++ clT :: Z)):=by simp
     rw [e1,e2]
     exact Lx.kw rfl (Lx.open (ih a (by omega) ha _ _ (hs_lone (by decide) (by decide)) (Lx.sg (by decide) (Lx.bl (ih b (by omega) hb _ _ (hs_lone (by decide) (by decide)) (Lx.close hZ)))))) (hs_lone (by decide) (by decide))
   | @prod n p t a ks ht hn ha hk=>
     simp only [sizeN,sizeL] at h
     rw [sL_prod,tkL_prod]
     intro z Z hz hZ
     have mem:∀ m:Nd,sizeN m≤N→okM m=true→LxOf (sM m) (tkM m):=fun m hsm hom=>by
      obtain ⟨tt,pp,y,rfl,q1,q2⟩:=okM_inv hom
      simp only [sizeN,sizeL] at hsm
      rw [sM_eq,tkM_eq]
      intro z Z hz hZ
      rw [List.append_assoc,List.cons_append,List.cons_append,List.cons_append,List.cons_append]
      exact Lx.nm q1 (Lx.sg (by decide) (Lx.bl (ih y (by omega) q2 z Z hz hZ))) (hs_lone (by decide) (by decide))
     have mems:∀ (ks:List Nd) (z:Bs) (Z:List Tk),sizeL ks≤N→okMs ks=true→Hs z→Lx z Z→Hs (sMs false ks ++ z)∧Lx (sMs false ks ++ z) (tkMs false ks ++ Z):=by
      intro ks
      induction ks with
      | nil=>
        intro z Z _ _ hz hZ
        rw [sMs,tkMs]; exact ⟨hz,hZ⟩
      | cons a r ih2=>
        intro z Z hsz ho hz hZ
        simp only [sizeL] at hsz
        rw [okMs,Bool.and_eq_true] at ho
        obtain ⟨i1,i2⟩:=ih2 z Z (by omega) ho.2 hz hZ
        have e1:sMs false (a :: r) ++ z=44 :: 32 :: (sM a ++ (sMs false r ++ z)):=by rw [sMs]; simp
        have e2:tkMs false (a :: r) ++ Z=sgT [44] :: (tkM a ++ (tkMs false r ++ Z)):=by rw [tkMs]; simp
        rw [e1,e2]
        exact ⟨hs_lone (by decide) (by decide),Lx.sg (by decide) (Lx.bl (mem a (by omega) ho.1 _ _ i1 i2))⟩
     obtain ⟨i1,i2⟩:=mems ks (125 :: z) (sgT [125] :: Z) (by omega) hk (hs_lone (by decide) (by decide)) (Lx.sg (by decide) hZ)
     have e1:123 :: (sMs true (a :: ks) ++ [125]) ++ z=123 :: (sM a ++ (sMs false ks ++ 125 :: z)):=by rw [sMs]; simp
     have e2:sgT [123] :: (tkMs true (a :: ks) ++ [sgT [125]]) ++ Z=sgT [123] :: (tkM a ++ (tkMs false ks ++ sgT [125] :: Z)):=by rw [tkMs]; simp
     rw [e1,e2]
     exact Lx.sg (by decide) (mem a (by omega) ha _ _ i1 i2)
   | @closed n p t ks ht hn h1 h2=>
     rw [sL_closed,tkL_closed]
     intro z Z hz hZ
     have e1:[99,108,111,115,101,100] ++ 40 :: (sQs true (leadQ ks) ++ (sRs (restQ ks) ++ [41])) ++ z=[99,108,111,115,101,100] ++ 40 :: (sQs true (leadQ ks) ++ (sRs (restQ ks) ++ 41 :: z)):=by simp
     have e2:kwT [99,108,111,115,101,100] :: opT :: (tkQs true (leadQ ks) ++ (tkRs (restQ ks) ++ [clT])) ++ Z=kwT [99,108,111,115,101,100] :: opT :: (tkQs true (leadQ ks) ++ (tkRs (restQ ks) ++ clT :: Z)):=by simp
     rw [e1,e2]
     obtain ⟨i1,i2⟩:=lx_rules (restQ ks) (41 :: z) (clT :: Z) h2 (hs_lone (by decide) (by decide)) (Lx.close hZ)
     refine Lx.kw rfl (Lx.open ?_) (hs_lone (by decide) (by decide))
     cases hl:leadQ ks with
     | nil=>exact i2
     | cons q r=>
       rw [hl] at h1
       exact lx_quotes1 h1 i1 i2
theorem lxL {x:Nd} (ho:okL x=true):LxOf (sL x) (tkL x):=lxL_all _ x (Nat.le_refl _) ho
def sP1 (x:Nd):Bs:=textOf x ++ 58 :: 32 :: sortS (numOf x)
def sPs:Bool→List Nd→Bs
 | _,[]=>[]
 | first,x :: r=>(if first then [] else [44,32]) ++ (sP1 x ++ sPs false r)
def sD:Nd→Bs
 | .mk k t n _ ks=>
   if k=2 then [108,97,116,116,105,99,101] ++ 32 :: (t ++ 32 :: 61 :: 32 :: (ks.map sL).getD 0 [])
   else if k=3 then [111,98,106,101,99,116] ++ 32 :: (t ++ 58 :: 32 :: (ks.map sL).getD 0 [])
   else match partsK ks with
    | some (ps,o,e)=>(if k=4 then [117,112,100,97,116,101] else [113,117,101,114,121]) ++ 32 :: (t ++ 40 :: (sPs true ps ++ 41 :: 32 :: ([111,110] ++ 32 :: (textOf o ++ ((if k=5 then 58 :: 32 :: sortS n else []) ++ 32 :: 61 :: 32 :: sB e)))))
    | none=>[]
def sDs:List Nd→Bs
 | []=>[]
 | x :: r=>sD x ++ 59 :: 10 :: sDs r
section
variable {n p:Int} {t:Bs} {ps:List Nd} {o e y:Nd}
theorem sD_lat:sD (.mk 2 t n p [y])=[108,97,116,116,105,99,101] ++ 32 :: (t ++ 32 :: 61 :: 32 :: sL y):=rfl
theorem sD_obj:sD (.mk 3 t n p [y])=[111,98,106,101,99,116] ++ 32 :: (t ++ 58 :: 32 :: sL y):=rfl
theorem sD_upd:sD (.mk 4 t n p (ps ++ [o,e]))=[117,112,100,97,116,101] ++ 32 :: (t ++ 40 :: (sPs true ps ++ 41 :: 32 :: ([111,110] ++ 32 :: (textOf o ++ 32 :: 61 :: 32 :: sB e)))):=by
 rw [sD,if_neg (by decide),if_neg (by decide)]
 simp only [partsK_app]
 rfl
theorem sD_qry:sD (.mk 5 t n p (ps ++ [o,e]))=[113,117,101,114,121] ++ 32 :: (t ++ 40 :: (sPs true ps ++ 41 :: 32 :: ([111,110] ++ 32 :: (textOf o ++ 58 :: 32 :: (sortS n ++ 32 :: 61 :: 32 :: sB e))))):=by
 rw [sD,if_neg (by decide),if_neg (by decide)]
 simp only [partsK_app]
 rfl
end
theorem lx_sort {n:Int} {s:Bs} {T:List Tk} (h:okS n=true) (hs:Lx s T) (hh:Hs s):Lx (sortS n ++ s) (kwT (sortS n) :: T):=by
 unfold okS at h
 simp only [Bool.and_eq_true,decide_eq_true_eq] at h
 refine Lx.kw ?_ hs hh
 obtain rfl | rfl | rfl | rfl:n=1∨n=2∨n=3∨n=4:=by omega
 all_goals rfl
theorem lx_param {x:Nd} (h:okP x=true):LxOf (sP1 x) (tkP1 x):=by
 obtain ⟨t,n,p,rfl,ht,hn⟩:=okP_inv h
 intro z Z hz hZ
 show Lx (t ++ 58 :: 32 :: sortS n ++ z) (nmT t :: sgT [58] :: kwT (sortS n) :: Z)
 rw [List.append_assoc,List.cons_append,List.cons_append]
 exact Lx.nm ht (Lx.sg (by decide) (Lx.bl (lx_sort hn hZ hz))) (hs_lone (by decide) (by decide))
theorem lx_params:∀ (ps:List Nd) (z:Bs) (Z:List Tk),ps.all okP=true→Hs z→Lx z Z→Hs (sPs false ps ++ z)∧Lx (sPs false ps ++ z) (tkPs false ps ++ Z)
 | [],z,Z,_,hz,hZ=>⟨hz,hZ⟩
 | x :: ps,z,Z,ho,hz,hZ=>by
   rw [List.all_cons,Bool.and_eq_true] at ho
   obtain ⟨i1,i2⟩:=lx_params ps z Z ho.2 hz hZ
   have e1:sPs false (x :: ps) ++ z=44 :: 32 :: (sP1 x ++ (sPs false ps ++ z)):=by rw [sPs]; simp
   have e2:tkPs false (x :: ps) ++ Z=sgT [44] :: (tkP1 x ++ (tkPs false ps ++ Z)):=by rw [tkPs]; simp
   rw [e1,e2]
   exact ⟨hs_lone (by decide) (by decide),Lx.sg (by decide) (Lx.bl (lx_param ho.1 _ _ i1 i2))⟩
theorem lx_plist {ps:List Nd} {z:Bs} {Z:List Tk} (ho:ps.all okP=true) (hz:Hs z) (hZ:Lx z Z):Lx (sPs true ps ++ z) (tkPs true ps ++ Z):=by
 cases ps with
 | nil=>exact hZ
 | cons x r=>
   rw [List.all_cons,Bool.and_eq_true] at ho
   obtain ⟨i1,i2⟩:=lx_params r z Z ho.2 hz hZ
   have e1:sPs true (x :: r) ++ z=sP1 x ++ (sPs false r ++ z):=by rw [sPs]; simp
   have e2:tkPs true (x :: r) ++ Z=tkP1 x ++ (tkPs false r ++ Z):=by rw [tkPs]; simp
   rw [e1,e2]
   exact lx_param ho.1 _ _ i1 i2
theorem lx_eq {s:Bs} {T:List Tk} (hs:Lx s T):Lx (61 :: 32 :: s) (sgT [61] :: T):=Lx.tok (t:=sgT [61]) (by decide) (by decide) (Lx.bl hs)
theorem lxD {x:Nd} (ho:okD x=true):LxOf (sD x) (tkD x):=by
 have hs:=dec_cases ho
 cases hs with
 | @lat p t y ht hy=>
   rw [sD_lat,tkD_lat]
   intro z Z hz hZ
   have e1:[108,97,116,116,105,99,101] ++ 32 :: (t ++ 32 :: 61 :: 32 :: sL y) ++ z=[108,97,116,116,105,99,101] ++ 32 :: (t ++ 32 :: 61 :: 32 :: (sL y ++ z)):=by simp
   rw [e1]
   exact Lx.kw rfl (Lx.bl (Lx.nm ht (Lx.bl (lx_eq (lxL hy z Z hz hZ))) hs_bl)) hs_bl
 | @obj p t y ht hy=>
   rw [sD_obj,tkD_obj]
   intro z Z hz hZ
   have e1:[111,98,106,101,99,116] ++ 32 :: (t ++ 58 :: 32 :: sL y) ++ z=[111,98,106,101,99,116] ++ 32 :: (t ++ 58 :: 32 :: (sL y ++ z)):=by simp
   rw [e1]
   exact Lx.kw rfl (Lx.bl (Lx.nm ht (Lx.sg (by decide) (Lx.bl (lxL hy z Z hz hZ))) (hs_lone (by decide) (by decide)))) hs_bl
 | @upd p t ps o e ht hp ho' he=>
   obtain ⟨to,po,rfl,hto⟩:=okO_inv ho'
   rw [sD_upd,tkD_upd]
   intro z Z hz hZ
   have e1:[117,112,100,97,116,101] ++ 32 :: (t ++ 40 :: (sPs true ps ++ 41 :: 32 :: ([111,110] ++ 32 :: (textOf (.mk 48 to 0 po []) ++ 32 :: 61 :: 32 :: sB e)))) ++ z=[117,112,100,97,116,101] ++ 32 :: (t ++ 40 :: (sPs true ps ++ 41 :: 32 :: ([111,110] ++ 32 :: (to ++ 32 :: 61 :: 32 :: (sB e ++ z))))):=by simp [textOf]
   have e2:kwT [117,112,100,97,116,101] :: nmT t :: opT :: (tkPs true ps ++ clT :: kwT [111,110] :: nmT (textOf (.mk 48 to 0 po [])) :: sgT [61] :: tkB e) ++ Z=kwT [117,112,100,97,116,101] :: nmT t :: opT :: (tkPs true ps ++ clT :: kwT [111,110] :: nmT to :: sgT [61] :: (tkB e ++ Z)):=by simp [textOf]
   rw [e1,e2]
   exact Lx.kw rfl (Lx.bl (Lx.nm ht (Lx.open (lx_plist hp (hs_lone (by decide) (by decide)) (Lx.close (Lx.bl (Lx.kw rfl (Lx.bl (Lx.nm hto (Lx.bl (lx_eq (lxB he z Z hz hZ))) hs_bl)) hs_bl))))) (hs_lone (by decide) (by decide)))) hs_bl
 | @qry n p t ps o e ht hp ho' he hn=>
   obtain ⟨to,po,rfl,hto⟩:=okO_inv ho'
   rw [sD_qry,tkD_qry]
   intro z Z hz hZ
   have e1:[113,117,101,114,121] ++ 32 :: (t ++ 40 :: (sPs true ps ++ 41 :: 32 :: ([111,110] ++ 32 :: (textOf (.mk 48 to 0 po []) ++ 58 :: 32 :: (sortS n ++ 32 :: 61 :: 32 :: sB e))))) ++ z=[113,117,101,114,121] ++ 32 :: (t ++ 40 :: (sPs true ps ++ 41 :: 32 :: ([111,110] ++ 32 :: (to ++ 58 :: 32 :: (sortS n ++ 32 :: 61 :: 32 :: (sB e ++ z)))))):=by simp [textOf]
   have e2:kwT [113,117,101,114,121] :: nmT t :: opT :: (tkPs true ps ++ clT :: kwT [111,110] :: nmT (textOf (.mk 48 to 0 po [])) :: sgT [58] :: kwT (sortS n) :: sgT [61] :: tkB e) ++ Z=kwT [113,117,101,114,121] :: nmT t :: opT :: (tkPs true ps ++ clT :: kwT [111,110] :: nmT to :: sgT [58] :: kwT (sortS n) :: sgT [61] :: (tkB e ++ Z)):=by simp [textOf]
   rw [e1,e2]
   exact Lx.kw rfl (Lx.bl (Lx.nm ht (Lx.open (lx_plist hp (hs_lone (by decide) (by decide)) (Lx.close (Lx.bl (Lx.kw rfl (Lx.bl (Lx.nm hto (Lx.sg (by decide) (Lx.bl (lx_sort hn (Lx.bl (lx_eq (lxB he z Z hz hZ))) hs_bl))) (hs_lone (by decide) (by decide)))) hs_bl))))) (hs_lone (by decide) (by decide)))) hs_bl
theorem lx_prog:∀ {ds:List Nd},(∀ x ∈ ds,okD x=true)→Lx (sDs ds) (tkDs ds ++ [eT])
 | [],_=>Lx.nil
 | x :: ds,h=>by
   have ih:=lx_prog (ds:=ds) fun y hy=>h y (by simp [hy])
   have e2:tkDs (x :: ds) ++ [eT]=tkD x ++ sgT [59] :: (tkDs ds ++ [eT]):=by rw [tkDs]; simp
   rw [sDs,e2]
   exact lxD (h x (by simp)) _ _ (hs_lone (by decide) (by decide)) (Lx.sg (by decide) (Lx.blank (by decide) ih))
end Go.Proofs.YtmhdkbmnpekpoaaGreatDoor
end
section
set_option linter.unusedSimpArgs false
set_option linter.unusedVariables false
set_option maxRecDepth 8000
namespace Go.Proofs.YtmhdkbmnpekpoaaGreatDoor
open Gx Go
theorem NdE.inv {k k' n n' p p':Int} {t t':Bs} {ks ks':List Nd} (h:NdE (.mk k t n p ks) (.mk k' t' n' p' ks')):k=k'∧t=t'∧n=n'∧LsE ks ks':=by
 unfold NdE at h
 rw [sameN] at h
 simp only [Bool.and_eq_true,decide_eq_true_eq] at h
 exact ⟨h.1.1.1.1,h.1.1.1.2,h.1.1.2,h.1.2,h.2⟩
theorem LsE.nilI {l:List Nd} (h:LsE [] l):l=[]:=by
 cases l with
 | nil=>rfl
 | cons a r=>have:=h.1; simp at this
theorem LsE.consI {a:Nd} {r l:List Nd} (h:LsE (a :: r) l):∃ b s,l=b :: s∧NdE a b∧LsE r s:=by
 cases l with
 | nil=>have:=h.1; simp at this
 | cons b s=>
   have h2:=h.2
   rw [sameL] at h2
   simp only [Bool.and_eq_true] at h2
   exact ⟨b,s,rfl,h2.1,by have:=h.1; simpa using this,h2.2⟩
theorem LsE.appI:∀ {a b l:List Nd},LsE (a ++ b) l→∃ a' b',l=a' ++ b'∧LsE a a'∧LsE b b'
 | [],b,l,h=>⟨[],l,rfl,LsE.nil,h⟩
 | x :: a,b,l,h=>by
   obtain ⟨y,s,rfl,h1,h2⟩:=LsE.consI (r:=a ++ b) h
   obtain ⟨a',b',rfl,h3,h4⟩:=LsE.appI h2
   exact ⟨y :: a',b',rfl,LsE.cons h1 h3,h4⟩
theorem NdE.lv {x y:Nd} (h:NdE x y):lvN x=lvN y:=by
 obtain ⟨k,t,n,p,ks⟩:=x
 obtain ⟨k',t',n',p',ks'⟩:=y
 obtain ⟨rfl,_⟩:=h.inv
 rfl
structure SmE (x y:Nd):Prop where
 tk:tkB x=tkB y
 op:opB x=opB y
 s:sB x=sB y
 lv:lvN x=lvN y
theorem SmE.tkAt {x y:Nd} (h:SmE x y) (l:Nat):tkAt x l=Go.Proofs.YtmhdkbmnpekpoaaGreatDoor.tkAt y l:=by
 unfold Go.Proofs.YtmhdkbmnpekpoaaGreatDoor.tkAt; rw [h.tk,h.lv]
theorem SmE.opAt {x y:Nd} (h:SmE x y) (l:Nat):opAtN x l=opAtN y l:=by
 unfold opAtN; rw [h.op,h.lv]
theorem SmE.sAt {x y:Nd} (h:SmE x y) (l:Nat):sAt x l=Go.Proofs.YtmhdkbmnpekpoaaGreatDoor.sAt y l:=by
 unfold Go.Proofs.YtmhdkbmnpekpoaaGreatDoor.sAt; rw [h.s,h.lv]
theorem opB_zero {k n p:Int} {t:Bs} (hk:k=44∨k=47∨k=48):opB (.mk k t n p [])=0:=by
 rcases hk with rfl | rfl | rfl <;> (rw [opB.eq_def]; rfl)
theorem opB_word {k n p:Int} {t w:Bs} (h:wordK k=some w):opB (.mk k t n p [])=0:=by
 unfold wordK at h
 repeat' split at h
 all_goals first
  | (cases h; done)
  | (rename_i hk; subst hk; rw [opB.eq_def]; rfl)
theorem tkA_cons (fn:Bs) (f:Bool) (a:Nd) (r:List Nd):tkA fn f (a :: r)=(if f then [] else [sgT [44]]) ++ (tkG fn a ++ tkA fn false r):=by rw [tkA]
theorem sA_cons (fn:Bs) (f:Bool) (a:Nd) (r:List Nd):sA fn f (a :: r)=(if f then [] else [44,32]) ++ (sG fn a ++ sA fn false r):=by rw [sA]
section
variable {N:Nat} (ih:∀ x,sizeN x≤N→okB x=true→∀ y,NdE x y→SmE x y)
include ih
theorem same_arg {fn:Bs} {x:Nd} (hs:sizeN x≤N) (ho:okJ fn x=true) {y:Nd} (h:NdE x y):tkG fn x=tkG fn y∧opG fn x=opG fn y∧sG fn x=sG fn y:=by
 rcases okJ_cases ho with ⟨rfl,t,p,z,rfl,ht,hz⟩ | ⟨rfl,p,z,z',rfl,hz,hz'⟩ | ⟨h1,h2,h3⟩
 ·obtain ⟨k',t',n',p',ks'⟩:=y
  obtain ⟨rfl,rfl,rfl,hl⟩:=h.inv
  obtain ⟨b,s,rfl,h1,h2⟩:=hl.consI
  obtain rfl:=h2.nilI
  simp only [sizeN,sizeL] at hs
  have e:=ih z (by omega) hz b h1
  obtain ⟨a1,a2,_⟩:=tkG_rec (k:=52) (n:=0) (p:=p) (t:=t) (x:=z)
  obtain ⟨b1,b2,_⟩:=tkG_rec (k:=52) (n:=0) (p:=p') (t:=t) (x:=b)
  exact ⟨by rw [a1,b1,e.tk],by rw [a2,b2,e.op],by rw [sG_rec,sG_rec,e.s]⟩
 ·obtain ⟨k',t',n',p',ks'⟩:=y
  obtain ⟨rfl,rfl,rfl,hl⟩:=h.inv
  obtain ⟨b,s,rfl,h1,h2⟩:=hl.consI
  obtain ⟨b',s,rfl,h3,h4⟩:=h2.consI
  obtain rfl:=h4.nilI
  simp only [sizeN,sizeL] at hs
  have e:=ih z (by omega) hz b h1
  have e':=ih z' (by omega) hz' b' h3
  obtain ⟨a1,a2,_⟩:=tkG_map (k:=52) (n:=0) (p:=p) (t:=[]) (x:=z) (y:=z')
  obtain ⟨b1,b2,_⟩:=tkG_map (k:=52) (n:=0) (p:=p') (t:=[]) (x:=b) (y:=b')
  exact ⟨by rw [a1,b1,e.tk,e'.tk],by rw [a2,b2,e.op,e'.op],by rw [sG_map,sG_map,e.s,e'.s]⟩
 ·have e:=ih x hs h3 y h
  obtain ⟨_,a2,a1⟩:=okJ_other h1 h2 x
  obtain ⟨_,b2,b1⟩:=okJ_other h1 h2 y
  exact ⟨by rw [a1,b1,e.tk],by rw [a2,b2,e.op],by rw [sG_other h1 h2,sG_other h1 h2,e.s]⟩
theorem same_args {fn:Bs}:∀ {ks ls:List Nd},sizeL ks≤N→okA fn ks=true→LsE ks ls→∀ f,tkA fn f ks=tkA fn f ls∧opA fn ks=opA fn ls∧sA fn f ks=sA fn f ls
 | [],ls,hs,ho,h,f=>by
   obtain rfl:=h.nilI
   exact ⟨rfl,rfl,rfl⟩
 | x :: r,ls,hs,ho,h,f=>by
   obtain ⟨y,s,rfl,h1,h2⟩:=h.consI
   simp only [sizeL] at hs
   rw [okA,Bool.and_eq_true] at ho
   obtain ⟨a1,a2,a3⟩:=same_arg ih (by omega) ho.1 h1
   obtain ⟨b1,b2,b3⟩:=same_args (ks:=r) (by omega) ho.2 h2 false
   exact ⟨by rw [tkA_cons,tkA_cons,a1,b1],by rw [opA,opA,a2,b2],by rw [sA_cons,sA_cons,a3,b3]⟩
end
theorem same_all:∀ (N:Nat) (x:Nd),sizeN x≤N→okB x=true→∀ y,NdE x y→SmE x y
 | 0,x,h,_,_,_=>by cases x; simp only [sizeN] at h; omega
 | N + 1,x,hs,ho,y,h=>by
   have ih:=same_all N
   have hlv:=h.lv
   obtain ⟨k',t',n',p',ks'⟩:=y
   cases ok_cases ho with
   | @bin k n p t a b o lv l r hb ht hn ha hb'=>
     obtain ⟨rfl,rfl,rfl,hl⟩:=h.inv
     obtain ⟨a',s,rfl,h1,h2⟩:=hl.consI
     obtain ⟨b',s,rfl,h3,h4⟩:=h2.consI
     obtain rfl:=h4.nilI
     simp only [sizeN,sizeL] at hs
     have e:=ih a (by omega) ha a' h1
     have e':=ih b (by omega) hb' b' h3
     exact ⟨by rw [tkB_bin hb,tkB_bin hb,e.tkAt,e'.tkAt],by rw [opB_bin hb,opB_bin hb,e.opAt,e'.opAt],by rw [sB_bin hb,sB_bin hb,e.sAt,e'.sAt],hlv⟩
   | @cond n p t a b c ht hn ha hb hc=>
     obtain ⟨rfl,rfl,rfl,hl⟩:=h.inv
     obtain ⟨a',s,rfl,h1,h2⟩:=hl.consI
     obtain ⟨b',s,rfl,h3,h4⟩:=h2.consI
     obtain ⟨c',s,rfl,h5,h6⟩:=h4.consI
     obtain rfl:=h6.nilI
     simp only [sizeN,sizeL] at hs
     have e1:=ih a (by omega) ha a' h1
     have e2:=ih b (by omega) hb b' h3
     have e3:=ih c (by omega) hc c' h5
     exact ⟨by rw [tkB_if,tkB_if,e1.tk,e2.tk,e3.tk],by rw [opB_if,opB_if,e1.op,e2.op,e3.op],by rw [sB_if,sB_if,e1.s,e2.s,e3.s],hlv⟩
   | @not n p t a ht hn ha=>
     obtain ⟨rfl,rfl,rfl,hl⟩:=h.inv
     obtain ⟨a',s,rfl,h1,h2⟩:=hl.consI
     obtain rfl:=h2.nilI
     simp only [sizeN,sizeL] at hs
     have e:=ih a (by omega) ha a' h1
     exact ⟨by rw [tkB_not,tkB_not,e.tkAt],by rw [opB_not,opB_not,e.opAt],by rw [sB_not,sB_not,e.sAt],hlv⟩
   | @field n p t a ht hn ha=>
     obtain ⟨rfl,rfl,rfl,hl⟩:=h.inv
     obtain ⟨a',s,rfl,h1,h2⟩:=hl.consI
     obtain rfl:=h2.nilI
     simp only [sizeN,sizeL] at hs
     have e:=ih a (by omega) ha a' h1
     exact ⟨by rw [tkB_field,tkB_field,e.tkAt],by rw [opB_field,opB_field,e.opAt],by rw [sB_field,sB_field,e.sAt],hlv⟩
   | @index n p t a b ht hn ha hb=>
     obtain ⟨rfl,rfl,rfl,hl⟩:=h.inv
     obtain ⟨a',s,rfl,h1,h2⟩:=hl.consI
     obtain ⟨b',s,rfl,h3,h4⟩:=h2.consI
     obtain rfl:=h4.nilI
     simp only [sizeN,sizeL] at hs
     have e:=ih a (by omega) ha a' h1
     have e':=ih b (by omega) hb b' h3
     exact ⟨by rw [tkB_index,tkB_index,e.tkAt,e'.tk],by rw [opB_index,opB_index,e.opAt,e'.op],by rw [sB_index,sB_index,e.sAt,e'.s],hlv⟩
   | int ht h1 h2=>
     obtain ⟨rfl,rfl,rfl,hl⟩:=h.inv
     obtain rfl:=hl.nilI
     exact ⟨by rw [tkB_int,tkB_int],by rw [opB_zero (.inl rfl),opB_zero (.inl rfl)],by rw [sB_int,sB_int],hlv⟩
   | quote ht hn=>
     obtain ⟨rfl,rfl,rfl,hl⟩:=h.inv
     obtain rfl:=hl.nilI
     exact ⟨by rw [tkB_quote,tkB_quote],by rw [opB_zero (.inr (.inl rfl)),opB_zero (.inr (.inl rfl))],by rw [sB_quote,sB_quote],hlv⟩
   | name ht hn=>
     obtain ⟨rfl,rfl,rfl,hl⟩:=h.inv
     obtain rfl:=hl.nilI
     exact ⟨by rw [tkB_name,tkB_name],by rw [opB_zero (.inr (.inr rfl)),opB_zero (.inr (.inr rfl))],by rw [sB_name,sB_name],hlv⟩
   | @call n p t ks ht hn hk=>
     obtain ⟨rfl,rfl,rfl,hl⟩:=h.inv
     simp only [sizeN] at hs
     obtain ⟨a1,a2,a3⟩:=same_args ih (by omega) hk hl true
     exact ⟨by rw [tkB_call,tkB_call,a1],by rw [opB_call,opB_call,a2],by rw [sB_call,sB_call,a3],hlv⟩
   | @word k n p t w hw hb ht hn=>
     obtain ⟨rfl,rfl,rfl,hl⟩:=h.inv
     obtain rfl:=hl.nilI
     exact ⟨by rw [tkB_word hw,tkB_word hw],by rw [opB_word hw,opB_word hw],by rw [sB_word hw,sB_word hw],hlv⟩
theorem NdE.sm {x y:Nd} (h:NdE x y) (ho:okB x=true):SmE x y:=same_all _ x (Nat.le_refl _) ho y h
end Go.Proofs.YtmhdkbmnpekpoaaGreatDoor
end
section
set_option linter.unusedSimpArgs false
set_option linter.unusedVariables false
set_option maxRecDepth 8000
namespace Go.Proofs.YtmhdkbmnpekpoaaGreatDoor
open Gx Go
theorem NdE.text {x y:Nd} (h:NdE x y):textOf x=textOf y∧numOf x=numOf y∧kindOf x=kindOf y∧LsE (kidsOf x) (kidsOf y):=by
 obtain ⟨k,t,n,p,ks⟩:=x
 obtain ⟨k',t',n',p',ks'⟩:=y
 obtain ⟨rfl,rfl,rfl,hl⟩:=h.inv
 exact ⟨rfl,rfl,rfl,hl⟩
theorem same_qs:∀ {ks ls:List Nd},LsE ks ls→∀ f,sQs f ks=sQs f ls
 | [],ls,h,f=>by rw [h.nilI]
 | x :: r,ls,h,f=>by
   obtain ⟨y,s,rfl,h1,h2⟩:=h.consI
   rw [sQs,sQs,h1.text.1,same_qs h2 false]
theorem same_emp {ks ls:List Nd} (h:LsE ks ls):ks.isEmpty=ls.isEmpty:=by
 cases ks with
 | nil=>rw [h.nilI]
 | cons x r=>
   obtain ⟨y,s,rfl,h1,h2⟩:=h.consI
   rfl
theorem same_sAll {ks ls:List Nd} (h:LsE ks ls):sAll ks=sAll ls:=by
 unfold sAll
 rw [same_emp h,same_qs h true]
theorem same_lead:∀ {ks ls:List Nd},LsE ks ls→LsE (leadQ ks) (leadQ ls)∧LsE (restQ ks) (restQ ls)
 | [],ls,h=>by rw [h.nilI]; exact ⟨LsE.nil,LsE.nil⟩
 | x :: r,ls,h=>by
   obtain ⟨y,s,rfl,h1,h2⟩:=h.consI
   have e:=h1.text.2.2.1
   obtain ⟨i1,i2⟩:=same_lead h2
   unfold leadQ restQ at *
   rw [List.takeWhile_cons,List.takeWhile_cons,List.dropWhile_cons,List.dropWhile_cons,e]
   by_cases hk:kindOf y=47
   ·rw [if_pos (by simpa using hk),if_pos (by simpa using hk),if_pos (by simpa using hk),if_pos (by simpa using hk)]
    exact ⟨LsE.cons h1 i1,i2⟩
   ·rw [if_neg (by simpa using hk),if_neg (by simpa using hk),if_neg (by simpa using hk),if_neg (by simpa using hk)]
    exact ⟨LsE.nil,h⟩
theorem sR_app {k n p:Int} {t:Bs} (ps:List Nd) (q:Nd):sR (.mk k t n p (ps ++ [q]))=59 :: 32 :: (sQs true ps ++ ((if ps.isEmpty then [] else [32]) ++ 61 :: 62 :: 32 :: 39 :: (textOf q ++ [39]))):=by
 unfold sR
 have e1:(kidsOf (.mk k t n p (ps ++ [q]))).dropLast=ps:=by show (ps ++ [q]).dropLast=ps; rw [List.dropLast_concat]
 have e2:((kidsOf (.mk k t n p (ps ++ [q]))).getLast?.map textOf).getD []=textOf q:=by
  show (((ps ++ [q]).getLast?).map textOf).getD []=_
  rw [List.getLast?_append]; rfl
 rw [e1,e2]
theorem okR_inv {x:Nd} (h:okR x=true):∃ p ps q,x= .mk 20 [] 0 p (ps ++ [q])∧ps.all okQ=true∧okQ q=true:=by
 obtain ⟨k,t,n,p,ks⟩:=x
 unfold okR plainN at h
 simp only [Bool.and_eq_true,decide_eq_true_eq,Bool.not_eq_true'] at h
 obtain ⟨⟨⟨a1,a2,a3⟩,h1⟩,h2⟩:=h
 obtain rfl:k=20:=a1
 obtain rfl:t=[]:=a2
 obtain rfl:n=0:=a3
 change ks.isEmpty=false at h1
 change ks.all okQ=true at h2
 have hn:ks≠[]:=by intro e; subst e; cases h1
 have e:=(List.dropLast_concat_getLast hn).symm
 rw [e,List.all_append,Bool.and_eq_true] at h2
 refine ⟨p,ks.dropLast,ks.getLast hn,by rw [← e],h2.1,?_⟩
 have:=h2.2
 rw [List.all_cons,Bool.and_eq_true] at this
 exact this.1
theorem same_rule {x y:Nd} (ho:okR x=true) (h:NdE x y):sR x=sR y:=by
 obtain ⟨p,ps,q,rfl,_,_⟩:=okR_inv ho
 obtain ⟨k',t',n',p',ks'⟩:=y
 obtain ⟨rfl,rfl,rfl,hl⟩:=h.inv
 obtain ⟨a,b,rfl,h1,h2⟩:=hl.appI
 obtain ⟨q',s,rfl,h3,h4⟩:=h2.consI
 obtain rfl:=h4.nilI
 rw [sR_app,sR_app,same_qs h1 true,same_emp h1,h3.text.1]
theorem same_rules:∀ {ks ls:List Nd},ks.all okR=true→LsE ks ls→sRs ks=sRs ls
 | [],ls,_,h=>by rw [h.nilI]
 | x :: r,ls,ho,h=>by
   obtain ⟨y,s,rfl,h1,h2⟩:=h.consI
   rw [List.all_cons,Bool.and_eq_true] at ho
   rw [sRs,sRs,same_rule ho.1 h1,same_rules ho.2 h2]
theorem sizeL_in {x:Nd}:∀ {ks:List Nd},x ∈ ks→sizeN x≤sizeL ks
 | y :: r,h=>by
   rcases List.mem_cons.1 h with rfl | h
   ·simp only [sizeL]; omega
   ·have:=sizeL_in h
    simp only [sizeL]; omega
structure SmL (x y:Nd):Prop where
 op:opL x=opL y
 s:sL x=sL y
theorem opL_zero {k n p:Int} {t:Bs} {ks:List Nd} (hk:k≠14∧k≠15∧k≠16):opL (.mk k t n p ks)=0:=by
 rw [opL.eq_def]; simp only [hk.1,hk.2.1,hk.2.2,if_false]
theorem sMs_cons (f:Bool) (a:Nd) (r:List Nd):sMs f (a :: r)=(if f then [] else [44,32]) ++ (sM a ++ sMs false r):=by rw [sMs]
section
variable {N:Nat} (ih:∀ x,sizeN x≤N→okL x=true→∀ y,NdE x y→SmL x y)
include ih
theorem same_mem {x y:Nd} (hs:sizeN x≤N) (ho:okM x=true) (h:NdE x y):opM x=opM y∧sM x=sM y:=by
 obtain ⟨t,p,z,rfl,h1,h2⟩:=okM_inv ho
 obtain ⟨k',t',n',p',ks'⟩:=y
 obtain ⟨rfl,rfl,rfl,hl⟩:=h.inv
 obtain ⟨b,s,rfl,h3,h4⟩:=hl.consI
 obtain rfl:=h4.nilI
 simp only [sizeN,sizeL] at hs
 have e:=ih z (by omega) h2 b h3
 exact ⟨by rw [opM_eq,opM_eq,e.op],by rw [sM_eq,sM_eq,e.s]⟩
theorem same_mems:∀ {ks ls:List Nd},sizeL ks≤N→okMs ks=true→LsE ks ls→∀ f,opMs ks=opMs ls∧sMs f ks=sMs f ls
 | [],ls,hs,ho,h,f=>by
   obtain rfl:=h.nilI
   exact ⟨rfl,rfl⟩
 | x :: r,ls,hs,ho,h,f=>by
   obtain ⟨y,s,rfl,h1,h2⟩:=h.consI
   simp only [sizeL] at hs
   rw [okMs,Bool.and_eq_true] at ho
   obtain ⟨a1,a2⟩:=same_mem ih (by omega) ho.1 h1
   obtain ⟨b1,b2⟩:=same_mems (ks:=r) (by omega) ho.2 h2 false
   exact ⟨by rw [opMs,opMs,a1,b1],by rw [sMs_cons,sMs_cons,a2,b2]⟩
end
theorem same_allL:∀ (N:Nat) (x:Nd),sizeN x≤N→okL x=true→∀ y,NdE x y→SmL x y
 | 0,x,h,_,_,_=>by cases x; simp only [sizeN] at h; omega
 | N + 1,x,hs,ho,y,h=>by
   have ih:=same_allL N
   obtain ⟨k',t',n',p',ks'⟩:=y
   cases lat_cases ho with
   | named ht hn=>
     obtain ⟨rfl,rfl,rfl,hl⟩:=h.inv
     exact ⟨by rw [opL_zero (by decide),opL_zero (by decide)],by rw [sL_named,sL_named]⟩
   | flag ht hn=>
     obtain ⟨rfl,rfl,rfl,hl⟩:=h.inv
     exact ⟨by rw [opL_zero (by decide),opL_zero (by decide)],by rw [sL_flag,sL_flag]⟩
   | register ht hn=>
     obtain ⟨rfl,rfl,rfl,hl⟩:=h.inv
     exact ⟨by rw [opL_zero (by decide),opL_zero (by decide)],by rw [sL_register,sL_register]⟩
   | set ht hn hk=>
     obtain ⟨rfl,rfl,rfl,hl⟩:=h.inv
     exact ⟨by rw [opL_zero (by decide),opL_zero (by decide)],by rw [sL_set,sL_set,same_sAll hl]⟩
   | flat ht hn hk=>
     obtain ⟨rfl,rfl,rfl,hl⟩:=h.inv
     exact ⟨by rw [opL_zero (by decide),opL_zero (by decide)],by rw [sL_flat,sL_flat,same_sAll hl]⟩
   | @map n p t ks x ht hn hk hx=>
     obtain ⟨rfl,rfl,rfl,hl⟩:=h.inv
     obtain ⟨a,b,rfl,h1,h2⟩:=hl.appI
     obtain ⟨q',s,rfl,h3,h4⟩:=h2.consI
     obtain rfl:=h4.nilI
     have hsx:sizeN x≤N:=by
      have:=sizeL_in (x:=x) (ks:=ks ++ [x]) (by simp)
      simp only [sizeN] at hs
      omega
     have e:=ih x hsx hx q' h3
     exact ⟨by rw [opL_map,opL_map,e.op],by rw [sL_map,sL_map,same_sAll h1,e.s]⟩
   | @max n p t a b ht hn ha hb=>
     obtain ⟨rfl,rfl,rfl,hl⟩:=h.inv
     obtain ⟨a',s,rfl,h1,h2⟩:=hl.consI
     obtain ⟨b',s,rfl,h3,h4⟩:=h2.consI
     obtain rfl:=h4.nilI
     exact ⟨by rw [opL_zero (by decide),opL_zero (by decide)],by rw [sL_max,sL_max,h1.text.2.1,h3.text.2.1]⟩
   | @min n p t a b ht hn ha hb=>
     obtain ⟨rfl,rfl,rfl,hl⟩:=h.inv
     obtain ⟨a',s,rfl,h1,h2⟩:=hl.consI
     obtain ⟨b',s,rfl,h3,h4⟩:=h2.consI
     obtain rfl:=h4.nilI
     exact ⟨by rw [opL_zero (by decide),opL_zero (by decide)],by rw [sL_min,sL_min,h1.text.2.1,h3.text.2.1]⟩
   | @lex n p t a b ht hn ha hb=>
     obtain ⟨rfl,rfl,rfl,hl⟩:=h.inv
     obtain ⟨a',s,rfl,h1,h2⟩:=hl.consI
     obtain ⟨b',s,rfl,h3,h4⟩:=h2.consI
     obtain rfl:=h4.nilI
     simp only [sizeN,sizeL] at hs
     have e:=ih a (by omega) ha a' h1
     have e':=ih b (by omega) hb b' h3
     exact ⟨by rw [opL_lex,opL_lex,e.op,e'.op],by rw [sL_lex,sL_lex,e.s,e'.s]⟩
   | @prod n p t a ks ht hn ha hk=>
     obtain ⟨rfl,rfl,rfl,hl⟩:=h.inv
     simp only [sizeN] at hs
     have hm:okMs (a :: ks)=true:=by rw [okMs,ha,hk]; rfl
     obtain ⟨a1,a2⟩:=same_mems ih (by omega) hm hl true
     exact ⟨by rw [opL_prod,opL_prod,a1],by rw [sL_prod,sL_prod,a2]⟩
   | @closed n p t ks ht hn h1 h2=>
     obtain ⟨rfl,rfl,rfl,hl⟩:=h.inv
     obtain ⟨q1,q2⟩:=same_lead hl
     exact ⟨by rw [opL_zero (by decide),opL_zero (by decide)],by rw [sL_closed,sL_closed,same_qs q1 true,same_rules h2 q2]⟩
theorem NdE.smL {x y:Nd} (h:NdE x y) (ho:okL x=true):SmL x y:=same_allL _ x (Nat.le_refl _) ho y h
theorem sPs_cons (f:Bool) (a:Nd) (r:List Nd):sPs f (a :: r)=(if f then [] else [44,32]) ++ (sP1 a ++ sPs false r):=by rw [sPs]
end Go.Proofs.YtmhdkbmnpekpoaaGreatDoor
end
section
set_option linter.unusedSimpArgs false
set_option linter.unusedVariables false
set_option maxRecDepth 8000
namespace Go.Proofs.YtmhdkbmnpekpoaaGreatDoor
open Gx Go
def wtS (f:UInt8→Nat):Bs→Nat
 | []=>0
 | c :: r=>f c + wtS f r
theorem wtS_nil (f:UInt8→Nat):wtS f []=0:=rfl
theorem wtS_cons (f:UInt8→Nat) (c:UInt8) (r:Bs):wtS f (c :: r)=f c + wtS f r:=rfl
theorem wtS_app (f:UInt8→Nat):∀ a b:Bs,wtS f (a ++ b)=wtS f a + wtS f b
 | [],b=>by simp [wtS]
 | c :: r,b=>by
   rw [List.cons_append,wtS_cons,wtS_cons,wtS_app f r b]; omega
theorem wtS_len:∀ s:Bs,wtS (fun _=>1) s=s.length
 | []=>rfl
 | c :: r=>by rw [wtS_cons,wtS_len r,List.length_cons]; omega
theorem wtS_drop (f:UInt8→Nat) (s:Bs) (q:Nat):wtS f s=wtS f (s.take q) + wtS f (s.drop q):=by
 rw [← wtS_app,List.take_append_drop]
theorem chain_wt (f:UInt8→Nat) (w:Tk→Nat) (c:Nat) (h:∀ t,poB t=true→t.kind≠6→w t≤c * wtS f (spT t)) (h6:∀ t:Tk,t.kind=6→w t=0) {e:Nat}:∀ (T:List Tk) (s:Bs) (o:Nat),chainT e s o T→cost w T≤c * wtS f s
 | [],s,o,hc=>by rw [chainT] at hc; exact hc.elim
 | t :: r,s,o,hc=>by
   rw [chainT] at hc
   rcases hc with ⟨rfl,h1,_⟩ | ⟨h1,h2,q,h3,_,_,h4,h5⟩
   ·rw [cost,cost,h6 t (by rw [h1])]; omega
   ·have i:=chain_wt f w c h h6 r _ _ h5
    have j:=h t h1 h2
    have e1:=wtS_drop f s q
    have e2:=wtS_drop f (s.drop q) (spT t).length
    rw [h4,List.drop_drop] at e2
    rw [cost]
    have e3:c * wtS f s=c * wtS f (s.take q) + (c * wtS f (spT t) + c * wtS f (s.drop (q + (spT t).length))):=by
     rw [e1,e2,Nat.mul_add,Nat.mul_add]
    omega
theorem src_wt (f:UInt8→Nat) (w:Tk→Nat) (c:Nat) (h:∀ t,poB t=true→t.kind≠6→w t≤c * wtS f (spT t)) (h6:∀ t:Tk,t.kind=6→w t=0) {s:Bs} {T:List Tk} (hl:lexT s= .ok T):cost w T≤c * wtS f s:=by
 unfold lexT at hl
 split at hl
 ·cases hl
 ·unfold lexA at hl
  rw [List.drop_zero] at hl
  exact chain_wt f w c h h6 T s 0 (lexF_chain _ _ _ _ (Nat.lt_succ_self _) hl)
def Wgt (f:UInt8→Nat) (w:Tk→Nat):Prop:=∀ t,poB t=true→t.kind≠6→wtS f (spT t) + 2 * f 32≤w t
section
variable {f:UInt8→Nat} {w:Tk→Nat} (hw:Wgt f w)
include hw
theorem wt_kw {s:Bs} (h:kwB s=true):wtS f s + 2 * f 32≤w (kwT s):=hw (kwT s) h (show (2:Int)≠6 by decide)
theorem wt_nm {s:Bs} (h:nameB s=true):wtS f s + 2 * f 32≤w (nmT s):=hw (nmT s) h (show (1:Int)≠6 by decide)
theorem wt_qt {s:Bs} (h:validN s=true):f 39 + (wtS f s + f 39) + 2 * f 32≤w (qtT s):=by
 have e:=hw (qtT s) h (show (4:Int)≠6 by decide)
 have e1:spT (qtT s)=39 :: (s ++ [39]):=rfl
 rw [e1,wtS_cons,wtS_app,wtS_cons,wtS_nil] at e
 omega
theorem wt_sg {s:Bs} (h:signB s=true):wtS f s + 2 * f 32≤w (sgT s):=hw (sgT s) h (show (5:Int)≠6 by decide)
theorem wt_sg1 {c:UInt8} (h:signB [c]=true):f c + 2 * f 32≤w (sgT [c]):=by
 have:=wt_sg hw h
 rw [wtS_cons,wtS_nil] at this
 omega
theorem wt_op:f 40 + 2 * f 32≤w opT:=wt_sg1 hw (by decide)
theorem wt_cl:f 41 + 2 * f 32≤w clT:=wt_sg1 hw (by decide)
theorem wt_it {n:Int} (h0:0≤n) (h1:n≤1000000000000000):wtS f (Lib.itoa n) + 2 * f 32≤w (itT n):=by
 refine hw (itT n) ?_ (show (3:Int)≠6 by decide)
 show ((decide ((3:Int)=3) || decide (n=0)) && (decide (([]:Bs)=[]) && (decide (0≤n) && decide (n≤1000000000000000))))=true
 simp [h0,h1]
theorem wt_int {n:Int} (h0:-1000000000000000≤n) (h1:n≤1000000000000000):wtS f (Lib.itoa n) + 2 * f 32≤cost w (intTk n):=by
 unfold intTk
 by_cases hn:n < 0
 ·rw [if_pos hn,cost,cost,cost]
  have e1:Lib.itoa n=45 :: Lib.itoa (-n):=by
   unfold Lib.itoa
   rw [if_pos hn,if_neg (by omega)]
   congr 2; omega
  rw [e1,wtS_cons]
  have:=wt_it hw (n:=-n) (by omega) (by omega)
  have:=wt_sg1 hw (c:=45) (by decide)
  omega
 ·rw [if_neg hn,cost,cost]
  have:=wt_it hw (n:=n) (by omega) h1
  omega
theorem wt_fn {t:Bs} (h:t ∈ fnList):wtS f t + 2 * f 32≤w (kwT t):=by
 have:∀ g ∈ fnList,kwB g=true:=by decide
 exact wt_kw hw (this t h)
theorem wt_bin {k:Int} {o:Tk} {lv l r:Nat} (h:binK k=some (o,lv,l,r)):wtS f (spT o) + 2 * f 32≤w o:=hw o (binK_f h).po.1 (binK_f h).po.2
theorem wt_wrap {b:Bool} {s:Bs} {T:List Tk} (h:wtS f s≤cost w T):wtS f (wrapS b s)≤cost w (wrapP b T):=by
 cases b with
 | false=>exact h
 | true=>
   show wtS f (40 :: (s ++ [41]))≤cost w (opT :: (T ++ [clT]))
   rw [wtS_cons,wtS_app,wtS_cons,wtS_nil,cost,cost_app,cost,cost]
   have:=wt_op hw
   have:=wt_cl hw
   omega
section
variable {N:Nat} (ih:∀ x,sizeN x≤N→okB x=true→wtS f (sB x)≤cost w (tkB x))
include ih
theorem wt_arg {fn:Bs} {x:Nd} (hs:sizeN x≤N) (ho:okJ fn x=true):wtS f (sG fn x)≤cost w (tkG fn x):=by
 have hc:=wt_sg1 hw (c:=58) (by decide)
 rcases okJ_cases ho with ⟨rfl,t,p,z,rfl,ht,hz⟩ | ⟨rfl,p,z,z',rfl,hz,hz'⟩ | ⟨h1,h2,h3⟩
 ·simp only [sizeN,sizeL] at hs
  have e:=ih z (by omega) hz
  have hn:=wt_nm hw ht
  rw [tkG_rec.1,sG_rec,wtS_app,wtS_cons,wtS_cons,cost,cost]
  omega
 ·simp only [sizeN,sizeL] at hs
  have e:=ih z (by omega) hz
  have e':=ih z' (by omega) hz'
  rw [tkG_map.1,sG_map,wtS_app,wtS_cons,wtS_cons,cost_app,cost]
  omega
 ·have e:=ih x hs h3
  rw [(okJ_other h1 h2 x).2.2,sG_other h1 h2]
  exact e
theorem wt_args {fn:Bs}:∀ {ks:List Nd},sizeL ks≤N→okA fn ks=true→∀ b,wtS f (sA fn b ks)≤cost w (tkA fn b ks)
 | [],hs,ho,b=>by rw [sA,wtS_nil]; exact Nat.zero_le _
 | x :: r,hs,ho,b=>by
   simp only [sizeL] at hs
   rw [okA,Bool.and_eq_true] at ho
   have a:=wt_arg hw ih (by omega) ho.1
   have i:=wt_args (ks:=r) (by omega) ho.2 false
   have hc:=wt_sg1 hw (c:=44) (by decide)
   rw [sA_cons,tkA_cons,wtS_app,wtS_app,cost_app,cost_app]
   cases b with
   | true=>simp only [if_true,wtS_nil,cost]; omega
   | false=>
     simp only [Bool.false_eq_true,if_false,wtS_cons,wtS_nil,cost]; omega
end
theorem wt_all:∀ (N:Nat) (x:Nd),sizeN x≤N→okB x=true→wtS f (sB x)≤cost w (tkB x)
 | 0,x,h,_=>by cases x; simp only [sizeN] at h; omega
 | N + 1,x,hs,ho=>by
   have ih:=wt_all N
   have at_:∀ a,sizeN a≤N→okB a=true→∀ q,wtS f (sAt a q)≤cost w (tkAt a q):=fun a h1 h2 q=>wt_wrap hw (ih a h1 h2)
   cases ok_cases ho with
   | @bin k n p t a b o lv l r hb ht hn ha hb'=>
     simp only [sizeN,sizeL] at hs
     have e:=at_ a (by omega) ha l
     have e':=at_ b (by omega) hb' r
     have eo:=wt_bin hw hb
     rw [tkB_bin hb,sB_bin hb,wtS_app,wtS_cons,wtS_app,wtS_cons,cost_app,cost]
     omega
   | @cond n p t a b c ht hn ha hb hc=>
     simp only [sizeN,sizeL] at hs
     have e1:=ih a (by omega) ha
     have e2:=ih b (by omega) hb
     have e3:=ih c (by omega) hc
     have k1:=wt_kw hw (s:=[105,102]) (by decide)
     have k2:=wt_kw hw (s:=[116,104,101,110]) (by decide)
     have k3:=wt_kw hw (s:=[101,108,115,101]) (by decide)
     rw [tkB_if,sB_if]
     simp only [wtS_app,wtS_cons,cost_app,cost,wtS_nil] at k1 k2 k3 ⊢
     omega
   | @not n p t a ht hn ha=>
     simp only [sizeN,sizeL] at hs
     have e:=at_ a (by omega) ha 3
     have k1:=wt_kw hw (s:=[110,111,116]) (by decide)
     rw [tkB_not,sB_not]
     simp only [wtS_app,wtS_cons,cost_app,cost,wtS_nil] at k1 ⊢
     omega
   | @field n p t a ht hn ha=>
     simp only [sizeN,sizeL] at hs
     have e:=at_ a (by omega) ha 7
     have k1:=wt_sg1 hw (c:=46) (by decide)
     have k2:=wt_nm hw ht
     rw [tkB_field,sB_field]
     simp only [wtS_app,wtS_cons,cost_app,cost,wtS_nil] at k1 ⊢
     omega
   | @index n p t a b ht hn ha hb=>
     simp only [sizeN,sizeL] at hs
     have e:=at_ a (by omega) ha 7
     have e':=ih b (by omega) hb
     have k1:=wt_sg1 hw (c:=91) (by decide)
     have k2:=wt_sg1 hw (c:=93) (by decide)
     rw [tkB_index,sB_index]
     simp only [wtS_app,wtS_cons,cost_app,cost,wtS_nil] at k1 ⊢
     omega
   | int ht h1 h2=>
     have:=wt_int hw h1 h2
     rw [tkB_int,sB_int]
     omega
   | quote ht hn=>
     have:=wt_qt hw ht
     rw [tkB_quote,sB_quote]
     simp only [wtS_app,wtS_cons,cost_app,cost,wtS_nil]
     omega
   | name ht hn=>
     have:=wt_nm hw ht
     rw [tkB_name,sB_name,cost,cost]
     omega
   | @call n p t ks ht hn hk=>
     simp only [sizeN] at hs
     have e:=wt_args hw ih (by omega) hk true
     have k1:=wt_fn hw ht
     have k2:=wt_op hw
     have k3:=wt_cl hw
     rw [tkB_call,sB_call]
     simp only [wtS_app,wtS_cons,cost_app,cost,wtS_nil]
     omega
   | @word k n p t s hs' hb ht hn=>
     have hk:kwB s=true:=by
      unfold wordK at hs'
      repeat' split at hs'
      all_goals first
       | (cases hs'; done)
       | (cases hs'; decide)
     have:=wt_kw hw hk
     rw [tkB_word hs',sB_word hs',cost,cost]
     omega
theorem wt_expr {x:Nd} (ho:okB x=true):wtS f (sB x)≤cost w (tkB x):=wt_all hw _ x (Nat.le_refl _) ho
theorem wt_qs:∀ {qs:List Nd} (b:Bool),qs.all okQ=true→wtS f (sQs b qs)≤cost w (tkQs b qs)
 | [],b,_=>by rw [sQs,wtS_nil]; exact Nat.zero_le _
 | q :: r,b,ho=>by
   rw [List.all_cons,Bool.and_eq_true] at ho
   obtain ⟨t,p,rfl,ht⟩:=okQ_inv ho.1
   have i:=wt_qs (qs:=r) false ho.2
   have h1:=wt_qt hw ht
   have hc:=wt_sg1 hw (c:=44) (by decide)
   rw [sQs,tkQs]
   have e:textOf (.mk 47 t 0 p [])=t:=rfl
   rw [e]
   cases b with
   | true=>simp only [if_true,wtS_app,wtS_cons,wtS_nil,cost,cost_app]; omega
   | false=>simp only [Bool.false_eq_true,if_false,wtS_app,wtS_cons,wtS_nil,cost,cost_app]; omega
theorem wt_allow {qs:List Nd} (ho:qs.all okQ=true):wtS f (sAll qs)≤cost w (tkAll qs):=by
 unfold sAll tkAll
 split
 ·exact Nat.zero_le _
 ·have i:=wt_qs hw true ho
  have k2:=wt_op hw
  have k3:=wt_cl hw
  simp only [wtS_app,wtS_cons,wtS_nil,cost,cost_app]; omega
theorem wt_rule {x:Nd} (ho:okR x=true):wtS f (sR x)≤cost w (tkR x):=by
 obtain ⟨p,ps,q,rfl,h1,h2⟩:=okR_inv ho
 obtain ⟨t,p',rfl,ht⟩:=okQ_inv h2
 have i:=wt_qs hw true h1
 have hq:=wt_qt hw ht
 have k1:=wt_sg1 hw (c:=59) (by decide)
 have k2:=wt_sg hw (s:=[61,62]) (by decide)
 have e:tkR (.mk 20 [] 0 p (ps ++ [.mk 47 t 0 p' []]))=sgT [59] :: (tkQs true ps ++ [sgT [61,62],qtT t]):=by
  unfold tkR
  have e1:(kidsOf (.mk 20 [] 0 p (ps ++ [.mk 47 t 0 p' []]))).dropLast=ps:=by show (ps ++ [_]).dropLast=ps; rw [List.dropLast_concat]
  have e2:((kidsOf (.mk 20 [] 0 p (ps ++ [.mk 47 t 0 p' []]))).getLast?.map textOf).getD []=t:=by
   show (((ps ++ [_]).getLast?).map textOf).getD []=_
   rw [List.getLast?_append]; rfl
  rw [e1,e2]
 rw [sR_app,e]
 have e3:textOf (.mk 47 t 0 p' [])=t:=rfl
 rw [e3]
 have e4:wtS f (if ps.isEmpty then [] else [32])≤f 32:=by
  split
  ·exact Nat.zero_le _
  ·rw [wtS_cons,wtS_nil]; omega
 simp only [wtS_app,wtS_cons,wtS_nil,cost,cost_app] at k2 ⊢; omega
theorem wt_rules:∀ {rs:List Nd},rs.all okR=true→wtS f (sRs rs)≤cost w (tkRs rs)
 | [],_=>Nat.zero_le _
 | x :: r,ho=>by
   rw [List.all_cons,Bool.and_eq_true] at ho
   have h1:=wt_rule hw ho.1
   have h2:=wt_rules (rs:=r) ho.2
   rw [sRs,tkRs,wtS_app,cost_app]; omega
section
variable {N:Nat} (ih:∀ x,sizeN x≤N→okL x=true→wtS f (sL x)≤cost w (tkL x))
include ih
theorem wt_mem {x:Nd} (hs:sizeN x≤N) (ho:okM x=true):wtS f (sM x)≤cost w (tkM x):=by
 obtain ⟨t,p,z,rfl,h1,h2⟩:=okM_inv ho
 simp only [sizeN,sizeL] at hs
 have e:=ih z (by omega) h2
 have k1:=wt_sg1 hw (c:=58) (by decide)
 have k2:=wt_nm hw h1
 rw [sM_eq,tkM_eq]
 simp only [wtS_app,wtS_cons,wtS_nil,cost,cost_app]; omega
theorem wt_mems:∀ {ks:List Nd},sizeL ks≤N→okMs ks=true→∀ b,wtS f (sMs b ks)≤cost w (tkMs b ks)
 | [],hs,ho,b=>by rw [sMs,wtS_nil]; exact Nat.zero_le _
 | x :: r,hs,ho,b=>by
   simp only [sizeL] at hs
   rw [okMs,Bool.and_eq_true] at ho
   have a:=wt_mem hw ih (by omega) ho.1
   have i:=wt_mems (ks:=r) (by omega) ho.2 false
   have hc:=wt_sg1 hw (c:=44) (by decide)
   rw [sMs_cons,tkMs,wtS_app,wtS_app,cost_app,cost_app]
   cases b with
   | true=>simp only [if_true,wtS_nil,cost]; omega
   | false=>
     simp only [Bool.false_eq_true,if_false,wtS_cons,wtS_nil,cost]; omega
end
theorem wt_allL:∀ (N:Nat) (x:Nd),sizeN x≤N→okL x=true→wtS f (sL x)≤cost w (tkL x)
 | 0,x,h,_=>by cases x; simp only [sizeN] at h; omega
 | N + 1,x,hs,ho=>by
   have ih:=wt_allL N
   have k2:=wt_op hw
   have k3:=wt_cl hw
   have k4:=wt_sg1 hw (c:=44) (by decide)
   cases lat_cases ho with
   | named ht hn=>
     have:=wt_nm hw ht
     rw [tkL_named,sL_named,cost,cost]; omega
   | flag ht hn=>
     have:=wt_kw hw (s:=[102,108,97,103]) (by decide)
     rw [tkL_flag,sL_flag,cost,cost]; omega
   | register ht hn=>
     have:=wt_kw hw (s:=[114,101,103,105,115,116,101,114]) (by decide)
     rw [tkL_register,sL_register,cost,cost]; omega
   | set ht hn hk=>
     have:=wt_kw hw (s:=[115,101,116]) (by decide)
     have i:=wt_allow hw hk
     rw [tkL_set,sL_set,cost,wtS_app]; omega
   | flat ht hn hk=>
     have:=wt_kw hw (s:=[102,108,97,116]) (by decide)
     have i:=wt_allow hw hk
     rw [tkL_flat,sL_flat,cost,wtS_app]; omega
   | @map n p t ks x ht hn hk hx=>
     have:=wt_kw hw (s:=[109,97,112]) (by decide)
     have i:=wt_allow hw hk
     have hsx:sizeN x≤N:=by
      have:=sizeL_in (x:=x) (ks:=ks ++ [x]) (by simp)
      simp only [sizeN] at hs
      omega
     have e:=ih x hsx hx
     rw [tkL_map,sL_map]
     simp only [wtS_app,wtS_cons,wtS_nil,cost,cost_app] at this ⊢; omega
   | @max n p t a b ht hn ha hb=>
     have:=wt_kw hw (s:=[109,97,120]) (by decide)
     obtain ⟨n1,p1,rfl,a1,a2⟩:=okI_inv ha
     obtain ⟨n2,p2,rfl,b1,b2⟩:=okI_inv hb
     have i1:=wt_int hw a1 a2
     have i2:=wt_int hw b1 b2
     have e1:numOf (.mk 44 [] n1 p1 [])=n1:=rfl
     have e2:numOf (.mk 44 [] n2 p2 [])=n2:=rfl
     rw [tkL_max,sL_max,e1,e2]
     simp only [wtS_app,wtS_cons,wtS_nil,cost,cost_app] at this ⊢; omega
   | @min n p t a b ht hn ha hb=>
     have:=wt_kw hw (s:=[109,105,110]) (by decide)
     obtain ⟨n1,p1,rfl,a1,a2⟩:=okI_inv ha
     obtain ⟨n2,p2,rfl,b1,b2⟩:=okI_inv hb
     have i1:=wt_int hw a1 a2
     have i2:=wt_int hw b1 b2
     have e1:numOf (.mk 44 [] n1 p1 [])=n1:=rfl
     have e2:numOf (.mk 44 [] n2 p2 [])=n2:=rfl
     rw [tkL_min,sL_min,e1,e2]
     simp only [wtS_app,wtS_cons,wtS_nil,cost,cost_app] at this ⊢; omega
   | @lex n p t a b ht hn ha hb=>
     have:=wt_kw hw (s:=[108,101,120]) (by decide)
     simp only [sizeN,sizeL] at hs
     have e:=ih a (by omega) ha
     have e':=ih b (by omega) hb
     rw [tkL_lex,sL_lex]
     simp only [wtS_app,wtS_cons,wtS_nil,cost,cost_app] at this ⊢; omega
   | @prod n p t a ks ht hn ha hk=>
     simp only [sizeN] at hs
     have hm:okMs (a :: ks)=true:=by rw [okMs,ha,hk]; rfl
     have i:=wt_mems hw ih (by omega) hm true
     have k5:=wt_sg1 hw (c:=123) (by decide)
     have k6:=wt_sg1 hw (c:=125) (by decide)
     rw [tkL_prod,sL_prod]
     have e:([123]:Bs)=[123]:=rfl
     rw [wtS_cons,wtS_app,wtS_cons,wtS_nil,cost,cost_app,cost,cost]; omega
   | @closed n p t ks ht hn h1 h2=>
     have:=wt_kw hw (s:=[99,108,111,115,101,100]) (by decide)
     have i1:=wt_qs hw true h1
     have i2:=wt_rules hw h2
     rw [tkL_closed,sL_closed]
     simp only [wtS_app,wtS_cons,wtS_nil,cost,cost_app] at this ⊢; omega
theorem wt_lat {x:Nd} (ho:okL x=true):wtS f (sL x)≤cost w (tkL x):=wt_allL hw _ x (Nat.le_refl _) ho
theorem wt_sort {n:Int} (h:okS n=true):wtS f (sortS n) + 2 * f 32≤w (kwT (sortS n)):=by
 refine wt_kw hw ?_
 unfold sortS
 split
 ·decide
 split
 ·decide
 split
 ·decide
 ·decide
theorem wt_ps:∀ {ps:List Nd} (b:Bool),ps.all okP=true→wtS f (sPs b ps)≤cost w (tkPs b ps)
 | [],b,_=>by rw [sPs,wtS_nil]; exact Nat.zero_le _
 | q :: r,b,ho=>by
   rw [List.all_cons,Bool.and_eq_true] at ho
   obtain ⟨t,n,p,rfl,ht,hn⟩:=okP_inv ho.1
   have i:=wt_ps (ps:=r) false ho.2
   have h1:=wt_nm hw ht
   have h2:=wt_sort hw hn
   have h3:=wt_sg1 hw (c:=58) (by decide)
   have hc:=wt_sg1 hw (c:=44) (by decide)
   rw [sPs_cons,tkPs]
   have e1:sP1 (.mk 6 t n p [])=t ++ 58 :: 32 :: sortS n:=rfl
   have e2:tkP1 (.mk 6 t n p [])=[nmT t,sgT [58],kwT (sortS n)]:=rfl
   rw [e1,e2]
   cases b with
   | true=>simp only [if_true,wtS_app,wtS_cons,wtS_nil,cost,cost_app]; omega
   | false=>simp only [Bool.false_eq_true,if_false,wtS_app,wtS_cons,wtS_nil,cost,cost_app]; omega
set_option maxHeartbeats 1000000 in
theorem wt_dec {x:Nd} (ho:okD x=true):wtS f (sD x)≤cost w (tkD x):=by
 have k2:=wt_op hw
 have k3:=wt_cl hw
 have k4:=wt_sg1 hw (c:=58) (by decide)
 have k5:=wt_sg1 hw (c:=61) (by decide)
 have k6:=wt_kw hw (s:=[111,110]) (by decide)
 cases dec_cases ho with
 | lat ht hy=>
   have h1:=wt_nm hw ht
   have h2:=wt_lat hw hy
   have:=wt_kw hw (s:=[108,97,116,116,105,99,101]) (by decide)
   rw [tkD_lat,sD_lat]
   simp only [wtS_app,wtS_cons,wtS_nil,cost,cost_app] at this ⊢; omega
 | obj ht hy=>
   have h1:=wt_nm hw ht
   have h2:=wt_lat hw hy
   have:=wt_kw hw (s:=[111,98,106,101,99,116]) (by decide)
   rw [tkD_obj,sD_obj]
   simp only [wtS_app,wtS_cons,wtS_nil,cost,cost_app] at this ⊢; omega
 | upd ht hp ho' he=>
   have h1:=wt_nm hw ht
   obtain ⟨t2,p2,rfl,ht2⟩:=okO_inv ho'
   have h2:=wt_nm hw ht2
   have h3:=wt_ps hw true hp
   have h4:=wt_expr hw he
   have:=wt_kw hw (s:=[117,112,100,97,116,101]) (by decide)
   have e:textOf (.mk 48 t2 0 p2 [])=t2:=rfl
   rw [tkD_upd,sD_upd,e]
   simp only [wtS_app,wtS_cons,wtS_nil,cost,cost_app] at this k6 ⊢; omega
 | qry ht hp ho' he hn=>
   have h1:=wt_nm hw ht
   obtain ⟨t2,p2,rfl,ht2⟩:=okO_inv ho'
   have h2:=wt_nm hw ht2
   have h3:=wt_ps hw true hp
   have h4:=wt_expr hw he
   have h5:=wt_sort hw hn
   have:=wt_kw hw (s:=[113,117,101,114,121]) (by decide)
   have e:textOf (.mk 48 t2 0 p2 [])=t2:=rfl
   rw [tkD_qry,sD_qry,e]
   generalize kwT [113,117,101,114,121]=qk at *
   generalize kwT [111,110]=ok' at *
   simp only [wtS_app,wtS_cons,wtS_nil,cost,cost_app] at this k6 ⊢; omega
theorem wt_prog (h10:f 10≤2 * f 32):∀ {ds:List Nd},(∀ x ∈ ds,okD x=true)→wtS f (sDs ds)≤cost w (tkDs ds)
 | [],_=>Nat.zero_le _
 | x :: r,ho=>by
   have h1:=wt_dec hw (ho x (by simp))
   have h2:=wt_prog h10 (ds:=r) fun y hy=>ho y (by simp [hy])
   have k:=wt_sg1 hw (c:=59) (by decide)
   rw [sDs,tkDs]
   simp only [wtS_app,wtS_cons,wtS_nil,cost,cost_app]; omega
end
def lenT (t:Tk):Nat:=if t.kind=6 then 0 else (spT t).length + 2
theorem spT_same {a b:Tk} (h:tkE a b):spT a=spT b:=by
 obtain ⟨h1,h2,h3⟩:=h
 unfold spT
 rw [h1,h2,h3]
theorem lenT_wo:Wo lenT:=fun a b h=>by
 unfold lenT
 rw [spT_same h,h.1]
theorem lenT_wt:Wgt (fun _=>1) lenT:=fun t _ h6=>by
 unfold lenT
 rw [if_neg h6,wtS_len]
 show (spT t).length + 2 * 1≤_
 omega
theorem lenT_src {s:Bs} {T:List Tk} (h:lexT s= .ok T):cost lenT T≤3 * s.length:=by
 have:=src_wt (fun _=>1) lenT 3 (fun t ht h6=>by
  have:=spT_head ht h6 []
  have hp:=List.length_pos_iff.2 this.1
  unfold lenT
  rw [if_neg h6,wtS_len]
  omega) (fun t h6=>by unfold lenT; rw [if_pos h6]) h
 rw [wtS_len] at this
 exact this
end Go.Proofs.YtmhdkbmnpekpoaaGreatDoor
end
section
set_option linter.unusedSimpArgs false
set_option linter.unusedVariables false
set_option maxRecDepth 8000
namespace Go.Proofs.YtmhdkbmnpekpoaaGreatDoor
open Gx Go
def Po (l:List Tk):Prop:=∀ t ∈ l,poB t=true∧t.kind≠6
theorem Gt.app {A B:List Tk} (hA:Po A) (hB:Gt B):Gt (A ++ B):=by
 obtain ⟨h1,t,h2,h3⟩:=hB
 refine ⟨fun u hu hk=>?_,t,List.mem_append.2 (.inr h2),h3⟩
 rcases List.mem_append.1 hu with q | q
 ·exact (hA u q).1
 ·exact h1 u q hk
theorem gt_end:Gt [eT]:=⟨fun t ht hk=>by
 obtain rfl:=List.mem_singleton.1 ht
 exact absurd rfl hk,eT,List.mem_singleton.2 rfl,rfl⟩
theorem poB_same {a b:Tk} (h:tkE a b):poB a=poB b:=by
 obtain ⟨h1,h2,h3⟩:=h
 unfold poB
 rw [h1,h2,h3]
theorem tk_mem:∀ {a b:List Tk},sameT false a b=true→∀ t ∈ b,∃ u ∈ a,tkE u t
 | [],[],_,t,ht=>by simp at ht
 | x :: a,y :: b,h,t,ht=>by
   simp only [sameT,Bool.and_eq_true] at h
   rcases List.mem_cons.1 ht with rfl | ht
   ·exact ⟨x,by simp,tkEq_iff.1 h.1⟩
   ·obtain ⟨u,h1,h2⟩:=tk_mem h.2 t ht
    exact ⟨u,by simp [h1],h2⟩
 | [],_ :: _,h,_,_=>by simp [sameT] at h
 | _ :: _,[],h,_,_=>by simp [sameT] at h
theorem same_snoc:∀ {a b:List Tk} {x y:Tk},sameT false (a ++ [x]) (b ++ [y])=true→sameT false a b=true
 | [],[],_,_,_=>rfl
 | u :: a,v :: b,x,y,h=>by
   rw [List.cons_append,List.cons_append] at h
   simp only [sameT,Bool.and_eq_true] at h ⊢
   exact ⟨h.1,same_snoc h.2⟩
 | [],v :: b,x,y,h=>by
   have:=sameT_len h
   simp at this
 | u :: a,[],x,y,h=>by
   have:=sameT_len h
   simp at this
theorem can_lex {s:Bs} {A:List Tk} (h:Lx s (A ++ [eT])) (hl:s.length≤65536):∃ T,lexT s= .ok T∧sameT false T (A ++ [eT])=true∧Po A:=by
 obtain ⟨T,h1,h2⟩:=h.lexT hl
 obtain ⟨I,rfl,hI⟩:=lex_parts h1
 refine ⟨_,h1,h2,fun t ht=>?_⟩
 obtain ⟨u,q1,q2⟩:=tk_mem (same_snoc h2) t ht
 obtain ⟨p1,p2⟩:=hI u q1
 exact ⟨by rw [← poB_same q2]; exact p1,by rw [← q2.1]; exact p2⟩
theorem lex_gt {s:Bs} {T:List Tk} (h:lexT s= .ok T):Gt T:=by
 obtain ⟨I,e,hI⟩:=lex_parts h
 refine ⟨fun t ht hk=>?_,lex_end h⟩
 rw [e] at ht
 rcases List.mem_append.1 ht with q | q
 ·exact (hI t q).1
 ·obtain rfl:=List.mem_singleton.1 q
  exact absurd rfl hk
theorem fol_end:Fol 0 [eT]:=⟨fun j _ hj=>by
 unfold opAt
 have:isB (hd [eT]).text [eT]=false:=rfl
 rw [this,Bool.and_false],fun _=>⟨rfl,rfl⟩⟩
theorem src_of {p:PP Nd} {s:Bs} {T:List Tk} (h:lexT s= .ok T):srcP p s=topP p T:=by unfold srcP; rw [h]
theorem lat_down {k:Nat} {ts:List Tk} (he:Hend ts):(∀ m r,latP (loL (k + 1)) ts= .ok (m,r)→(∃ o,latP (loL k) ts= .error (6,o))∨∃ m',latP (loL k) ts= .ok (m',r)∧NdE m m')∧
 (∀ c o,latP (loL (k + 1)) ts= .error (c,o)→∃ o',latP (loL k) ts= .error (6,o')∨latP (loL k) ts= .error (c,o')):=by
 have hM:Md.Ok ⟨ts,ts,fun _=>True,True,False,False⟩:=⟨fun i _=>.inl (tkE.refl _),fun _ _ _=>.inl trivial,fun i _ hn=>⟨he.ne hn,he.ne hn⟩⟩
 have ho:=lat_less hM trivial k _ _ ⟨0,trivial,Nk.zero _,rfl,rfl⟩
 change Ou _ NdE (latP (loL (k + 1)) ts) (latP (loL k) ts) at ho
 refine ⟨fun m r h=>?_,fun c o h=>?_⟩
 ·rw [h] at ho
  rcases ho with ⟨_,q⟩ | ⟨q,_⟩ | ⟨m',r',h1,h2,j,h3,h4,h5,h7⟩
  ·exact .inl q
  ·exact q.elim
  ·have h5:r=ts.drop j:=h5
   have h7:r'=ts.drop j:=h7
   exact .inr ⟨m',by rw [h1,h7,h5],h2⟩
 ·rw [h] at ho
  rcases ho with ⟨_,o',q⟩ | ⟨q,_⟩ | ⟨q | ⟨us,us',h1,h2,h3⟩⟩
  ·exact ⟨o',.inl q⟩
  ·exact q.elim
  ·exact q.elim
  ·exact ⟨_,.inr h3⟩
theorem lat_lev {ts:List Tk} (he:Hend ts) {k:Nat} {m:Nd} {r:List Tk} (h:latP (loL k) ts= .ok (m,r)):∀ j,j≤k→(∃ o,latP (loL j) ts= .error (6,o))∨∃ m',latP (loL j) ts= .ok (m',r)∧NdE m m':=by
 have key:∀ d j,j + d=k→(∃ o,latP (loL j) ts= .error (6,o))∨∃ m',latP (loL j) ts= .ok (m',r)∧NdE m m':=by
  intro d
  induction d with
  | zero=>intro j hj; obtain rfl:j=k:=hj; exact .inr ⟨m,h,NdE.refl m⟩
  | succ d ih=>
    intro j hj
    rcases ih (j + 1) (by omega) with ⟨o,q⟩ | ⟨m',q,hm⟩
    ·obtain ⟨o',q | q⟩:=(lat_down he).2 _ _ q
     ·exact .inl ⟨o',q⟩
     ·exact .inl ⟨o',q⟩
    ·rcases (lat_down he).1 _ _ q with q | ⟨m2,q,hm2⟩
     ·exact .inl q
     ·exact .inr ⟨m2,q,hm.trans hm2⟩
 exact fun j hj=>key (k - j) j (by omega)
theorem expr_core {x:Nd} (ho:okB x=true) {Y:List Tk} (hg:Gt (tkB x ++ Y)) (hY:Fol 0 Y) :
 (opB x≤64∧∃ x',NdE x x'∧exprP (loK 64) (tkB x ++ Y)= .ok (x',Y))∨(64 < opB x∧∃ o,exprP (loK 64) (tkB x ++ Y)= .error (6,o)):=by
 rcases Nat.lt_or_ge 64 (opB x) with h | h
 ·obtain ⟨x',e1,e2⟩:=rt_expr ho (Nat.le_refl _) hY
  rcases expr_lev hg.2 e2 64 (by omega) with q | ⟨m,q1,q2⟩
  ·exact .inr ⟨h,q⟩
  ·obtain ⟨_,h2,_,_⟩:=expr_min lenT_wo hg q1
   have:=((e1.trans q2).sm ho).op
   omega
 ·exact .inl ⟨h,rt_expr ho h hY⟩
theorem lat_core {x:Nd} (ho:okL x=true) {Y:List Tk} (hg:Gt (tkL x ++ Y)) (hY:isB [40] Y=false) :
 (opL x≤64∧∃ x',NdE x x'∧latP (loL 64) (tkL x ++ Y)= .ok (x',Y))∨(64 < opL x∧∃ o,latP (loL 64) (tkL x ++ Y)= .error (6,o)):=by
 rcases Nat.lt_or_ge 64 (opL x) with h | h
 ·obtain ⟨x',e1,e2⟩:=rt_lat ho (Nat.le_refl _) hY
  rcases lat_lev hg.2 e2 64 (by omega) with q | ⟨m,q1,q2⟩
  ·exact .inr ⟨h,q⟩
  ·obtain ⟨_,h2,_,_⟩:=lat_min lenT_wo hg q1
   have:=((e1.trans q2).smL ho).op
   omega
 ·exact .inl ⟨h,rt_lat ho h hY⟩
theorem dec_core {x:Nd} (ho:okD x=true) {Y:List Tk} (hp:Po (tkD x)) (hg:Gt (sgT [59] :: Y)) :
 (opD x≤64∧∃ x',NdE x x'∧declP (tkD x ++ sgT [59] :: Y)= .ok (x',Y))∨(64 < opD x∧∃ o,declP (tkD x ++ sgT [59] :: Y)= .error (6,o)):=by
 rcases Nat.lt_or_ge 64 (opD x) with h | h
 ·refine .inr ⟨h,?_⟩
  cases dec_cases ho with
  | @lat p t y ht hy=>
    rw [opD_lat (.inl rfl)] at h
    rw [tkD_lat] at hp ⊢
    rcases lat_core hy (Y:=sgT [59] :: Y) (Gt.app (fun u hu=>hp u (by simp [hu])) hg) rfl with ⟨q,_⟩ | ⟨_,o,q⟩
    ·omega
    ·have e:declP (kwT [108,97,116,116,105,99,101] :: nmT t :: sgT [61] :: tkL y ++ sgT [59] :: Y)=bd (expP [61]) (fun _=>bd (levL 64) fun x=>bd (expP [59]) fun _=>ret (Nd.mk 2 t 0 0 [x])) (sgT [61] :: (tkL y ++ sgT [59] :: Y)):=rfl
     exact ⟨o,by rw [e,bd_ok (expP_sg [61] _),levL_eq,bd_err q]⟩
  | @obj p t y ht hy=>
    rw [opD_lat (.inr rfl)] at h
    rw [tkD_obj] at hp ⊢
    rcases lat_core hy (Y:=sgT [59] :: Y) (Gt.app (fun u hu=>hp u (by simp [hu])) hg) rfl with ⟨q,_⟩ | ⟨_,o,q⟩
    ·omega
    ·have e:declP (kwT [111,98,106,101,99,116] :: nmT t :: sgT [58] :: tkL y ++ sgT [59] :: Y)=bd (expP [58]) (fun _=>bd (levL 64) fun x=>bd (expP [59]) fun _=>ret (Nd.mk 3 t 0 0 [x])) (sgT [58] :: (tkL y ++ sgT [59] :: Y)):=rfl
     exact ⟨o,by rw [e,bd_ok (expP_sg [58] _),levL_eq,bd_err q]⟩
  | @upd p t ps o e ht hp' ho' he=>
    rw [opD_fn (.inl rfl)] at h
    rw [tkD_upd] at hp ⊢
    rcases expr_core he (Y:=sgT [59] :: Y) (Gt.app (fun u hu=>hp u (by simp [hu])) hg) (fol_semi Y) with ⟨q,_⟩ | ⟨_,o6,q⟩
    ·omega
    ·obtain ⟨o',o1,o2⟩:=name_rt ho' (sgT [61] :: (tkB e ++ sgT [59] :: Y))
     obtain ⟨m,m1,m2⟩:=plist_rt hp' (kwT [111,110] :: nmT (textOf o) :: sgT [61] :: (tkB e ++ sgT [59] :: Y))
     have q0:kwT [117,112,100,97,116,101] :: nmT t :: opT :: (tkPs true ps ++ clT :: kwT [111,110] :: nmT (textOf o) :: sgT [61] :: tkB e) ++ sgT [59] :: Y=kwT [117,112,100,97,116,101] :: nmT t :: opT :: (tkPs true ps ++ clT :: (kwT [111,110] :: nmT (textOf o) :: sgT [61] :: (tkB e ++ sgT [59] :: Y))):=by simp
     rw [q0]
     have ed:∀ Z,declP (kwT [117,112,100,97,116,101] :: nmT t :: Z)=(bd (expP [40]) fun _=>bd (listP paramP) fun ps=>bd (expP [111,110]) fun _=>bd (namedP 48) fun o=>
      bd (ret 0) fun n=>bd (expP [61]) fun _=>bd (exprP (loK 64)) fun e=>bd (expP [59]) fun _=>ret (Nd.mk 4 t n 0 (ps ++ [o] ++ [e]))) Z:=fun Z=>rfl
     have er:(ret 0:PP Int) (sgT [61] :: (tkB e ++ sgT [59] :: Y))= .ok (0,sgT [61] :: (tkB e ++ sgT [59] :: Y)):=rfl
     exact ⟨o6,by rw [ed,bd_ok (expP_op _),bd_ok m2,bd_ok (expP_kw _ _),bd_ok o2,bd_ok er,bd_ok (expP_sg [61] _),bd_err q]⟩
  | @qry n p t ps o e ht hp' ho' he hn=>
    rw [opD_fn (.inr rfl)] at h
    rw [tkD_qry] at hp ⊢
    rcases expr_core he (Y:=sgT [59] :: Y) (Gt.app (fun u hu=>hp u (by simp [hu])) hg) (fol_semi Y) with ⟨q,_⟩ | ⟨_,o6,q⟩
    ·omega
    ·obtain ⟨o',o1,o2⟩:=name_rt ho' (sgT [58] :: kwT (sortS n) :: sgT [61] :: (tkB e ++ sgT [59] :: Y))
     obtain ⟨m,m1,m2⟩:=plist_rt hp' (kwT [111,110] :: nmT (textOf o) :: sgT [58] :: kwT (sortS n) :: sgT [61] :: (tkB e ++ sgT [59] :: Y))
     have q0:kwT [113,117,101,114,121] :: nmT t :: opT :: (tkPs true ps ++ clT :: kwT [111,110] :: nmT (textOf o) :: sgT [58] :: kwT (sortS n) :: sgT [61] :: tkB e) ++ sgT [59] :: Y=kwT [113,117,101,114,121] :: nmT t :: opT :: (tkPs true ps ++ clT :: (kwT [111,110] :: nmT (textOf o) :: sgT [58] :: kwT (sortS n) :: sgT [61] :: (tkB e ++ sgT [59] :: Y))):=by simp
     rw [q0]
     have ed:∀ Z,declP (kwT [113,117,101,114,121] :: nmT t :: Z)=(bd (expP [40]) fun _=>bd (listP paramP) fun ps=>bd (expP [111,110]) fun _=>bd (namedP 48) fun o=>
      bd (bd (expP [58]) fun _=>sortP) fun n=>bd (expP [61]) fun _=>bd (exprP (loK 64)) fun e=>bd (expP [59]) fun _=>ret (Nd.mk 5 t n 0 (ps ++ [o] ++ [e]))) Z:=fun Z=>rfl
     have es:(bd (expP [58]) fun _=>sortP) (sgT [58] :: kwT (sortS n) :: sgT [61] :: (tkB e ++ sgT [59] :: Y))= .ok (n,sgT [61] :: (tkB e ++ sgT [59] :: Y)):=by
      rw [bd_ok (expP_sg [58] _),sort_rt hn]
     exact ⟨o6,by rw [ed,bd_ok (expP_op _),bd_ok m2,bd_ok (expP_kw _ _),bd_ok o2,bd_ok es,bd_ok (expP_sg [61] _),bd_err q]⟩
 ·exact .inl ⟨h,dec_rt ho h Y⟩
theorem prog_core:∀ (ds:List Nd) (f:Nat) (l:List Nd),(∀ x ∈ ds,okD x=true)→Po (tkDs ds)→ds.length < f→
 ((∀ x ∈ ds,opD x≤64)∧∃ m,LsE ds m∧progF f l (tkDs ds ++ [eT])= .ok (l ++ m,[eT]))∨((∃ x ∈ ds,64 < opD x)∧∃ o,progF f l (tkDs ds ++ [eT])= .error (6,o))
 | [],0,l,_,_,h=>by omega
 | [],f + 1,l,_,_,_=>.inl ⟨by simp,[],LsE.nil,by rw [tkDs,List.append_nil]; rfl⟩
 | x :: ds,0,l,_,_,h=>by omega
 | x :: ds,f + 1,l,ho,hp,h=>by
   rw [tkDs] at hp
   have e:tkDs (x :: ds) ++ [eT]=tkD x ++ sgT [59] :: (tkDs ds ++ [eT]):=by rw [tkDs]; simp
   have hg:Gt (sgT [59] :: (tkDs ds ++ [eT])):=Gt.app (A:=sgT [59] :: tkDs ds) (fun u hu=>hp u (List.mem_append.2 (.inr hu))) gt_end
   rw [e]
   simp only [progF]
   rw [if_neg (tkD_first (ho x (by simp)) _)]
   rcases dec_core (ho x (by simp)) (fun u hu=>hp u (List.mem_append.2 (.inl hu))) hg with ⟨h1,x',e1,e2⟩ | ⟨h1,o,e2⟩
   ·rw [bd_ok e2]
    rcases prog_core ds f (l ++ [x']) (fun y hy=>ho y (by simp [hy])) (fun u hu=>hp u (by simp [hu])) (by simpa using h) with ⟨h2,m,e3,e4⟩ | ⟨⟨y,hy,h2⟩,o,e4⟩
    ·refine .inl ⟨fun y hy=>?_,x' :: m,LsE.cons e1 e3,by rw [e4]; simp⟩
     rcases List.mem_cons.1 hy with rfl | hy
     ·exact h1
     ·exact h2 y hy
    ·exact .inr ⟨⟨y,by simp [hy],h2⟩,o,e4⟩
   ·rw [bd_err e2]
    exact .inr ⟨⟨x,by simp,h1⟩,o,rfl⟩
def Back (c:Prop) (R:Except Flt Nd) (x:Nd):Prop:=(c∧∃ x',R= .ok x'∧NdE x' x)∨(¬ c∧∃ o,R= .error (6,o))
theorem back_of {p:PP Nd} {c:Prop} {s:Bs} {T A:List Tk} {x:Nd} (hp:∀ M:Md,M.Ok→¬ M.kx→Rl M NdE p p) (h1:lexT s= .ok T) (h2:sameT false T (A ++ [eT])=true)
 (h:(c∧∃ x',NdE x x'∧p (A ++ [eT])= .ok (x',[eT]))∨(¬ c∧∃ o,p (A ++ [eT])= .error (6,o))):Back c (srcP p s) x:=by
 have ht:=agree_top h2 (lex_end h1) hp
 rw [src_of h1]
 rcases h with ⟨hc,x',e1,e2⟩ | ⟨hc,o,e2⟩
 ·have e3:topP p (A ++ [eT])= .ok x':=by
   unfold topP
   rw [e2]; rfl
  rw [e3] at ht
  rcases ht with ⟨n,n',q1,q2,h3⟩ | ⟨c',o,o',_,q2⟩
  ·cases q2
   exact .inl ⟨hc,n,q1,h3.trans e1.symm⟩
  ·cases q2
 ·have e3:topP p (A ++ [eT])= .error (6,o):=by
   unfold topP
   rw [e2]
  rw [e3] at ht
  rcases ht with ⟨n,n',_,q2,_⟩ | ⟨c',o1,o2,q1,q2⟩
  ·cases q2
  ·cases q2
   exact .inr ⟨hc,o1,q1⟩
theorem expr_back {x:Nd} (ho:okB x=true) (hl:(sB x).length≤65536):Back (opB x≤64) (srcP (exprP (loK 64)) (sB x)) x:=by
 obtain ⟨T,h1,h2,hp⟩:=can_lex (lx_expr ho) hl
 refine back_of expr_any h1 h2 ?_
 rcases expr_core ho (Gt.app hp gt_end) fol_end with h | ⟨h,q⟩
 ·exact .inl h
 ·exact .inr ⟨by omega,q⟩
theorem tkDs_len:∀ ds:List Nd,ds.length≤(tkDs ds).length
 | []=>Nat.zero_le _
 | x :: r=>by
   have:=tkDs_len r
   rw [tkDs]
   simp; omega
theorem prog_back {ds:List Nd} {p:Int} (ho:∀ x ∈ ds,okD x=true) (hl:(sDs ds).length≤65536):Back (∀ x ∈ ds,opD x≤64) (srcP progP (sDs ds)) (.mk 1 [] 0 p ds):=by
 obtain ⟨T,h1,h2,hp⟩:=can_lex (lx_prog ho) hl
 refine back_of prog_any h1 h2 ?_
 have hlen:ds.length < (tkDs ds ++ [eT]).length + 1:=by
  have:=tkDs_len ds
  simp; omega
 unfold progP
 rcases prog_core ds _ [] ho hp hlen with ⟨h,m,e1,e2⟩ | ⟨⟨x,hx,h⟩,o,e2⟩
 ·refine .inl ⟨h,.mk 1 [] 0 0 m,ndE rfl rfl rfl e1,?_⟩
  rw [bd_ok e2]; rfl
 ·refine .inr ⟨fun q=>?_,o,?_⟩
  ·have:=q x hx; omega
  ·rw [bd_err e2]
end Go.Proofs.YtmhdkbmnpekpoaaGreatDoor
end
section
set_option linter.unusedSimpArgs false
set_option linter.unusedVariables false
set_option maxRecDepth 8000
namespace Go.Proofs.YtmhdkbmnpekpoaaGreatDoor
open Gx Go
set_option maxHeartbeats 1000000 in
set_option maxRecDepth 100000 in
theorem cc_used (q:Nat) (w:World) (h0:w.cell? ⟨q,0,none⟩=some (.pointer (some ⟨q,0,none⟩))) :
 Calls Tryz.prog 99 #[.pointer (some ⟨q,0,none⟩)] w fun e w'=>e= .returned (.tuple #[])∧w'=w:=by
 have hji:(Tryz.prog.info? 43).map (·.size)=some 2:=by kernel_rfl
 obtain ⟨j,hj,_⟩:=Option.map_eq_some_iff.1 hji
 go_enter Tryz.func99,Tryz.ntmps99
 go_wp2
 rw [Lib.run_neq_ptr_same w _ Tryz.underlying40 hj]
 go_wp2
 go_end0
 exact ⟨rfl,rfl⟩
set_option maxHeartbeats 1000000 in
set_option maxRecDepth 100000 in
theorem cc_fresh (q:Nat) (w:World) (h0:w.cell? ⟨q,0,none⟩=some (.pointer none)) (hsh:w.shape? q=some (45,3)) (hfz:w.frozen? ⟨q,0,none⟩=false) :
 Calls Tryz.prog 99 #[.pointer (some ⟨q,0,none⟩)] w fun e w'=>e= .returned (.tuple #[])∧w'=w.setCell ⟨q,0,none⟩ (.pointer (some ⟨q,0,none⟩)):=by
 have hlies:liesAt Tryz.prog Tryz.prog.depth 45 (3 / Tryz.prog.cellsOf 45) 0 43 1=true:=by kernel_rfl
 have hji:(Tryz.prog.info? 43).map (·.size)=some 2:=by kernel_rfl
 obtain ⟨j,hj,hjs⟩:=Option.map_eq_some_iff.1 hji
 go_enter Tryz.func99,Tryz.ntmps99
 go_wp2
 rw [Lib.run_to_unsafe w ⟨q,0,none⟩ Tryz.underlying40 Tryz.underlying119 hj (by rw [hjs]; decide) hsh (Nat.zero_lt_succ 2)]
 simp only [Result.andThen]
 rw [Oper.upon_value]
 go_wp2
 rw [run_callFunc_extern (fn:=Tryz.f116) Tryz.func116 (by kernel_rfl) (by kernel_rfl) (by kernel_rfl) (e:=Extern.AbiNoEscape.same) (by kernel_rfl)]
 rw [Lib.run_noEscape]
 simp only [Result.andThen]
 rw [Oper.upon_value]
 go_wp2
 rw [Lib.run_from_unsafe w ⟨q,0,none⟩ Tryz.underlying119 Tryz.underlying40 hj hsh hlies]
 simp only [Result.andThen]
 rw [Oper.upon_value]
 go_wp2
 go_end0
 exact ⟨rfl,rfl⟩
end Go.Proofs.YtmhdkbmnpekpoaaGreatDoor
end
section
set_option linter.unusedSimpArgs false
set_option linter.unusedVariables false
set_option maxRecDepth 8000
namespace Go.Proofs.YtmhdkbmnpekpoaaGreatDoor
open Gx Go
theorem EB:ElemOk Tryz.prog 41 5 1 1 (.int .u8 0):=⟨Tryz.underlying41,by kernel_rfl,rfl,by decide⟩
structure Pr (H:Heap) (O:List Nat) (q:Nat) (s:Bs) (bad:Bool):Prop where
 ex:∃ av bv' g,Blk H q 45 [av,bv',.bool bad]∧(av= .pointer none∨av= .pointer (some ⟨q,0,none⟩))∧Own H 5 1 bv' s.length (s.map bv) g∧O=q :: g.toList
 big:∀ x ∈ O,3≤x
theorem cc_ok {H:Heap} {q:Nat} {av bv':Value} {bad:Bool} (hb:Blk H q 45 [av,bv',.bool bad]) (ha:av= .pointer none∨av= .pointer (some ⟨q,0,none⟩)) :
 HCalls Tryz.prog 99 #[.pointer (some ⟨q,0,none⟩)] H fun r H'=>Blk H' q 45 [.pointer (some ⟨q,0,none⟩),bv',.bool bad]∧Fr [q] H H':=by
 intro w hw
 subst hw
 have c0:w.cell? ⟨q,0,none⟩=some av:=by
  rw [cell?_eq,cellAt_mk,hb.cell]; rfl
 rcases ha with rfl | rfl
 ·have hsh:w.shape? q=some (45,3):=by
   have:w.heap[q]?=_:=hb
   simp [World.shape?,this]
  have hfz:w.frozen? ⟨q,0,none⟩=false:=Lib.frozen_of_heap hb 0
  refine (cc_fresh q w c0 hsh hfz).mono fun e w' ⟨he,hw⟩=>?_
  subst he hw
  exact ⟨⟨hb.set 0 _,fr_set _ _ _ _⟩,⟨rfl,rfl,rfl⟩⟩
 ·refine (cc_used q w c0).mono fun e w' ⟨he,hw⟩=>?_
  subst he hw
  exact ⟨⟨hb,Fr.refl _ _⟩,Same.refl _⟩
def Oo (H:Heap) (O O':List Nat):Prop:=∀ x ∈ O',x ∈ O∨H.size≤x
theorem Oo.refl (H:Heap) (O:List Nat):Oo H O O:=fun x hx=>.inl hx
theorem Oo.trans {H H':Heap} {O O1 O2:List Nat} (h:Oo H O O1) (k:Oo H' O1 O2) (hs:H.size≤H'.size):Oo H O O2:=fun x hx=>by
 rcases k x hx with q | q
 ·exact h x q
 ·exact .inr (by omega)
theorem ws_ok {H:Heap} {O:List Nat} {q:Nat} {s t:Bs} {bad:Bool} (hp:Pr H O q s bad) (hl:s.length + t.length≤140737488355328) :
 HCalls Tryz.prog 60 #[.pointer (some ⟨q,0,none⟩),sv t] H fun r H'=>∃ O',Pr H' O' q (s ++ t) bad∧Fr O H H'∧Oo H O O':=by
 obtain ⟨av,bv',g,hb,ha,hown,rfl⟩:=hp.ex
 have hgq:∀ b,g=some b→b≠q:=by
  rintro b rfl rfl
  exact hown.ne hb (by decide) (by simp)
 refine calls_of_vc (args:=[_,_]) Tryz.func60 c60ok (Nat.le_of_ble_eq_true rfl) ?_
 simp (implicitDefEqProofs:=false) only [go_sem,c60]
 refine (cc_ok hb ha).mono fun r H1 ⟨hb1,hf1⟩=>?_
 have hown1:Own H1 5 1 bv' s.length (s.map bv) g:=hown.fr hf1 (fun b hb h=>hgq b hb (by simpa using h))
 have k1:cellB H1 q 1=some bv':=hb1.cell 1
 simp (implicitDefEqProofs:=false) only [go_sem,k1,sv]
 refine App_own EB hown1 (SrcH.str Tryz.underlying9 t) (by unfold maxLen; omega) (by omega) fun a1 c1 H2 g2 hown2 hf2 hg2=>?_
 have hb2:=hb1.fr hf2 (by intro hm; exact hgq q (by simpa using hm) rfl)
 simp (implicitDefEqProofs:=false) only [go_sem]
 refine Sto_one hb2 (by simp) (by simp [Value.oneCell']) fun H3 hb3 hf3 _=>?_
 have hgq2:∀ b,g2=some b→b≠q:=by
  rintro b rfl rfl
  exact hown2.ne hb2 (by decide) (by simp)
 have hown3:=hown2.fr hf3 (fun b hb h=>hgq2 b hb (by simpa using h))
 simp (implicitDefEqProofs:=false) only [go_sem]
 have hoo:Oo H (q :: g.toList) (q :: g2.toList):=by
  intro x hx
  rcases List.mem_cons.1 hx with rfl | hx
  ·exact .inl (by simp)
  ·rcases hg2 x (by simpa using hx) with h | h
   ·exact .inl (by simp [h])
   ·exact .inr (Nat.le_trans hf1.size h)
 have hbig:∀ x ∈ q :: g2.toList,3≤x:=fun x hx=>by
  rcases hoo x hx with h | h
  ·exact hp.big x h
  ·have h1:=hp.big q (by simp)
   have h2:=hb.lt
   omega
 refine ⟨q :: g2.toList,⟨⟨_,_,g2,hb3,.inr rfl,?_,rfl⟩,hbig⟩,?_,hoo⟩
 ·have e:(s ++ t).length=s.length + t.length:=List.length_append
  rw [e,List.map_append]
  exact hown3
 ·refine (hf1.mono fun b hb=>.inl (by simp at hb; simp [hb])).trans ((hf2.mono fun b hb=>.inl (by simp at hb; simp [hb])).trans (hf3.mono fun b hb=>.inl (by simp at hb; simp [hb])))
end Go.Proofs.YtmhdkbmnpekpoaaGreatDoor
end
section
set_option linter.unusedSimpArgs false
set_option linter.unusedVariables false
set_option maxRecDepth 8000
namespace Go.Proofs.YtmhdkbmnpekpoaaGreatDoor
open Gx Go
theorem fr_freeze (w:World) (g n:Nat):Fr [g] w.heap (w.freeze ⟨g,0,none⟩ n).heap∧Same w (w.freeze ⟨g,0,none⟩ n):=by
 unfold World.freeze
 split
 ·exact ⟨Fr.refl _ _,Same.refl _⟩
 ·refine ⟨⟨by simp,fun b hb hm=>?_⟩,⟨rfl,rfl,rfl⟩⟩
  simp only [List.mem_singleton] at hm
  have hm':g≠b:=fun h=>hm h.symm
  simp [Array.getElem?_modify,hm']
set_option maxHeartbeats 2000000 in
set_option maxRecDepth 100000 in
theorem str_some (q g cap:Nat) (av bv:Value) (cur:Array Value) (l:List UInt8) (w:World) (hbk:w.heap[q]?=some (.cells #[av,.slice (some ⟨g,0,none⟩) l.length cap,bv] 45 (0,0))) (hg:w.heap[g]?=some (.cells cur 5 (0,0)))
 (h0:l≠[]) (hc:l.length≤cap) (hcm:cap≤maxLen) (hcs:cur.size=cap * 1) (hcell:∀ j x,l[j]?=some x→w.cell? ((⟨g,0,none⟩:Addr).add j)=some (.int .u8 x.toNat)) :
 Calls Tryz.prog 50 #[.pointer (some ⟨q,0,none⟩)] w fun e w'=>e= .returned (.string ⟨l.toArray⟩)∧Fr [g] w.heap w'.heap∧Same w w':=by
 have hl0:l.length≠0:=by simpa using h0
 have c1:w.drew.cell? ⟨q,1,none⟩=some (.slice (some ⟨g,0,none⟩) l.length cap):=by
  have:w.drew.heap[q]?=some (.cells #[av,.slice (some ⟨g,0,none⟩) l.length cap,bv] 45 (0,0)):=hbk
  rw [Lib.cell_of_heap this]; rfl
 have hSD:(Builtin.unsafeSliceData_ #[41] 102 #[.slice (some ⟨g,0,none⟩) l.length cap]).run Tryz.prog w.drew= .ok (.pointer (some ⟨g,0,none⟩)) w.drew:=
  Lib.run_unsafeSliceData_row _ _ _ _ _ _ (by omega)
 have hUS:(Builtin.unsafeString_ #[102,3] 9 #[.pointer (some ⟨g,0,none⟩),.int .i64 l.length]).run Tryz.prog w.drew= .ok (.string ⟨l.toArray⟩) (w.drew.freeze ⟨g,0,none⟩ l.length):=by
  refine Lib.run_unsafeString_row w.drew 102 3 9 5 Tryz.underlying102 (by kernel_rfl) g cur.size (by have hg':w.drew.heap[g]?=some (.cells cur 5 (0,0)):=hg; simp [World.shape?,hg']) l h0 (by omega) (by unfold maxLen at hcm; omega) ?_
  intro j x hx
  exact hcell j x hx
 go_enter Tryz.func50,Tryz.ntmps50
 go_wp2
 go_region
 all_goals (go_wp2; go_ret; exact ⟨rfl,(fr_freeze w.drew g _).1,(show Same w w.drew from ⟨rfl,rfl,rfl⟩).trans (fr_freeze w.drew g _).2⟩)
set_option maxHeartbeats 2000000 in
set_option maxRecDepth 100000 in
theorem str_nil (q:Nat) (av bv:Value) (w:World) (hbk:w.heap[q]?=some (.cells #[av,.slice none 0 0,bv] 45 (0,0))) :
 Calls Tryz.prog 50 #[.pointer (some ⟨q,0,none⟩)] w fun e w'=>e= .returned (.string ⟨#[]⟩)∧Fr [] w.heap w'.heap∧Same w w':=by
 have hUS:∀ (W:World) (p:Option Addr),(Builtin.unsafeString_ #[102,3] 9 #[.pointer p,.int .i64 0]).run Tryz.prog W= .ok (.string .empty) W:=fun W p=>Lib.run_unsafeString_none W _ _ _ p
 have c1:w.drew.cell? ⟨q,1,none⟩=some (.slice none 0 0):=by
  have:w.drew.heap[q]?=some (.cells #[av,.slice none 0 0,bv] 45 (0,0)):=hbk
  rw [Lib.cell_of_heap this]; rfl
 have hSD:(Builtin.unsafeSliceData_ #[41] 102 #[.slice none 0 0]).run Tryz.prog w.drew= .ok (.pointer none) w.drew:=rfl
 go_enter Tryz.func50,Tryz.ntmps50
 go_wp2
 go_region
 all_goals (go_wp2; go_ret; exact ⟨rfl,Fr.refl _ _,⟨rfl,rfl,rfl⟩⟩)
set_option maxHeartbeats 2000000 in
set_option maxRecDepth 100000 in
theorem str_noroom (q g:Nat) (av bv:Value) (cur:Array Value) (w:World) (hbk:w.heap[q]?=some (.cells #[av,.slice (some ⟨g,0,none⟩) 0 0,bv] 45 (0,0))) (hg:w.heap[g]?=some (.cells cur 5 (0,0))) :
 Calls Tryz.prog 50 #[.pointer (some ⟨q,0,none⟩)] w fun e w'=>e= .returned (.string ⟨#[]⟩)∧Fr [] w.heap w'.heap∧Same w w':=by
 have hUS:∀ (W:World) (p:Option Addr),(Builtin.unsafeString_ #[102,3] 9 #[.pointer p,.int .i64 0]).run Tryz.prog W= .ok (.string .empty) W:=fun W p=>Lib.run_unsafeString_none W _ _ _ p
 have hlt:q < w.heap.size:=by
  rcases Nat.lt_or_ge q w.heap.size with h' | h'
  ·exact h'
  ·simp [Array.getElem?_eq_none h'] at hbk
 have c1:w.drew.cell? ⟨q,1,none⟩=some (.slice (some ⟨g,0,none⟩) 0 0):=by
  have:w.drew.heap[q]?=some (.cells #[av,.slice (some ⟨g,0,none⟩) 0 0,bv] 45 (0,0)):=hbk
  rw [Lib.cell_of_heap this]; rfl
 have hSD:(Builtin.unsafeSliceData_ #[41] 102 #[.slice (some ⟨g,0,none⟩) 0 0]).run Tryz.prog w.drew= .ok (.pointer (some ⟨w.drew.heap.size,0,none⟩)) (w.drew.alloc (.view ⟨g,0,none⟩ 5)):=
  Lib.run_unsafeSliceData_zero w.drew _ _ 5 Tryz.underlying102 ⟨g,0,none⟩ 0 (5,cur.size) (by have hg':w.drew.heap[g]?=some (.cells cur 5 (0,0)):=hg; simp [World.shape?,hg'])
 have c2:(w.drew.alloc (.view ⟨g,0,none⟩ 5)).cell? ⟨q,1,none⟩=some (.slice (some ⟨g,0,none⟩) 0 0):=by
  have:(w.drew.alloc (.view ⟨g,0,none⟩ 5)).heap[q]?=_:=(Lib.alloc_old w.drew _ q hlt).trans hbk
  rw [Lib.cell_of_heap this]; rfl
 have c3:(w.alloc (.view ⟨g,0,none⟩ 5)).drew.cell? ⟨q,1,none⟩=some (.slice (some ⟨g,0,none⟩) 0 0):=c2
 have c0:w.cell? ⟨q,1,none⟩=some (.slice (some ⟨g,0,none⟩) 0 0):=c1
 go_enter Tryz.func50,Tryz.ntmps50
 go_wp2
 go_region
 all_goals (go_wp2; go_ret; exact ⟨rfl,fr_push _ _ _,⟨rfl,rfl,rfl⟩⟩)
set_option maxHeartbeats 2000000 in
set_option maxRecDepth 100000 in
theorem str_room (q g cap:Nat) (av bv:Value) (w:World) (hc0:cap≠0) (hbk:w.heap[q]?=some (.cells #[av,.slice (some ⟨g,0,none⟩) 0 cap,bv] 45 (0,0))) :
 Calls Tryz.prog 50 #[.pointer (some ⟨q,0,none⟩)] w fun e w'=>e= .returned (.string ⟨#[]⟩)∧Fr [] w.heap w'.heap∧Same w w':=by
 have hUS:∀ (W:World) (p:Option Addr),(Builtin.unsafeString_ #[102,3] 9 #[.pointer p,.int .i64 0]).run Tryz.prog W= .ok (.string .empty) W:=fun W p=>Lib.run_unsafeString_none W _ _ _ p
 have c1:w.drew.cell? ⟨q,1,none⟩=some (.slice (some ⟨g,0,none⟩) 0 cap):=by
  have:w.drew.heap[q]?=some (.cells #[av,.slice (some ⟨g,0,none⟩) 0 cap,bv] 45 (0,0)):=hbk
  rw [Lib.cell_of_heap this]; rfl
 have hSD:(Builtin.unsafeSliceData_ #[41] 102 #[.slice (some ⟨g,0,none⟩) 0 cap]).run Tryz.prog w.drew= .ok (.pointer (some ⟨g,0,none⟩)) w.drew:=
  Lib.run_unsafeSliceData_row _ _ _ _ _ _ hc0
 clear hc0
 go_enter Tryz.func50,Tryz.ntmps50
 go_wp2
 go_region
 all_goals (go_wp2; go_ret; exact ⟨rfl,Fr.refl _ _,⟨rfl,rfl,rfl⟩⟩)
theorem str_ok {H:Heap} {O:List Nat} {q:Nat} {s:Bs} {bad:Bool} (hp:Pr H O q s bad) :
 HCalls Tryz.prog 50 #[.pointer (some ⟨q,0,none⟩)] H fun r H'=>r=sv s∧Fr O H H':=by
 obtain ⟨av,bv',g,hb,ha,hown,rfl⟩:=hp.ex
 intro w hw
 subst hw
 have fin:∀ {M:List Nat} {r:Bs},r=s→(∀ x ∈ M,some x=g)→∀ e w',(e= .returned (.string ⟨r.toArray⟩)∧Fr M w.heap w'.heap∧Same w w')→EndH (fun r H'=>r=sv s∧Fr (q :: g.toList) w.heap H') (fun _ _=>False) w e w':=by
  rintro M r rfl hM e w' ⟨rfl,hf,hs⟩
  exact ⟨⟨rfl,hf.mono fun b hb=>.inl (by simp [← hM b hb])⟩,hs⟩
 rcases hown.2 with ⟨hz,hv,hg⟩ | ⟨g',cap,cur,rfl,rfl,hg,hnc,hcm,hcs,htake⟩
 ·have hs:[]=s:=(List.eq_nil_of_length_eq_zero (by omega)).symm
  subst hv
  exact (str_nil q _ _ w hb).mono (fin hs (by simp))
 ·by_cases hs:s=[]
  ·subst hs
   by_cases hc:cap=0
   ·subst hc; exact (str_noroom q g' _ _ cur w hb hg).mono (fin rfl (by simp))
   ·exact (str_room q g' cap _ _ w hc hb).mono (fin rfl (by simp))
  ·refine (str_some q g' cap _ _ cur s w hb hg hs (by omega) hcm hcs ?_).mono (fin rfl (by simp))
   intro j x hx
   have hj:j < s.length * 1:=by
    rcases Nat.lt_or_ge j s.length with h | h
    ·omega
    ·rw [List.getElem?_eq_none h] at hx; cases hx
   have:=hown.cell j hj
   rw [cell?_eq,add_mk,cellAt_mk,Nat.zero_add,this,List.getElem?_map,hx]
   rfl
end Go.Proofs.YtmhdkbmnpekpoaaGreatDoor
end
section
set_option linter.unusedSimpArgs false
set_option linter.unusedVariables false
set_option maxRecDepth 8000
namespace Go.Proofs.YtmhdkbmnpekpoaaGreatDoor
open Gx Go
theorem Pr.blk {H:Heap} {O:List Nat} {q:Nat} {s:Bs} {bad:Bool} (h:Pr H O q s bad):∃ av bv',Blk H q 45 [av,bv',.bool bad]:=by
 obtain ⟨av,bv',g,hb,_⟩:=h.ex
 exact ⟨av,bv',hb⟩
theorem Pr.lt {H:Heap} {O:List Nat} {q:Nat} {s:Bs} {bad:Bool} (h:Pr H O q s bad):∀ x ∈ O,x < H.size:=by
 obtain ⟨av,bv',g,hb,_,ho,rfl⟩:=h.ex
 intro x hx
 rcases List.mem_cons.1 hx with rfl | hx
 ·exact hb.lt
 ·exact ho.lt (by simpa using hx)
theorem Pr.ne {H:Heap} {O:List Nat} {q:Nat} {s:Bs} {bad:Bool} (h:Pr H O q s bad) {b t:Nat} {l:List Value} (hb:Blk H b t l) (h1:t≠45) (h2:5≠t):b ∉ O:=by
 obtain ⟨av,bv',g,hq,_,ho,rfl⟩:=h.ex
 intro hx
 rcases List.mem_cons.1 hx with rfl | hx
 ·unfold Blk at hq hb
  rw [hq] at hb
  simp only [Option.some.injEq,Obj.cells.injEq] at hb
  exact h1 hb.2.1.symm
 ·exact ho.ne hb h2 hx
theorem Pr.stb {H H':Heap} {O M:List Nat} {q:Nat} {s:Bs} {bad:Bool} (h:Pr H O q s bad) (hf:Fr M H H') (hM:∀ x ∈ M,x ∉ O):Pr H' O q s bad:=by
 obtain ⟨av,bv',g,hq,ha,ho,rfl⟩:=h.ex
 refine ⟨⟨av,bv',g,hq.fr hf fun hm=>hM q hm (by simp),ha,ho.fr hf fun b hb hm=>hM b hm (by simp [hb]),rfl⟩,h.big⟩
theorem Pr.glob {H H':Heap} {O:List Nat} {q:Nat} {s:Bs} {bad:Bool} (h:Pr H O q s bad) (hG:GlobH H) (hf:Fr O H H'):GlobH H':=
 hG.fr hf (fun hm=>by have:=h.big _ hm; omega) (fun hm=>by have:=h.big _ hm; omega)
structure Pw (s:Bs) (b:Bool) (s':Bs) (b':Bool) (ok:Bool) (t:Bs) (w:Nat):Prop where
 len:s'.length≤s.length + w
 bad:b'=(b || !ok)
 txt:b'=false→s'=s ++ t
theorem Pw.refl (s:Bs) (b:Bool):Pw s b s b true [] 0:=⟨by simp,by simp,by simp⟩
theorem Pw.put (s:Bs) (b:Bool) (t:Bs):Pw s b (s ++ t) b true t t.length:=⟨by simp,by simp,by simp⟩
theorem Pw.must (s:Bs) (b c:Bool):Pw s b s (b || !c) c [] 0:=⟨by simp,rfl,by simp⟩
theorem Pw.trans {s s1 s2 t1 t2:Bs} {b b1 b2 k1 k2:Bool} {w1 w2:Nat} (h:Pw s b s1 b1 k1 t1 w1) (k:Pw s1 b1 s2 b2 k2 t2 w2):Pw s b s2 b2 (k1 && k2) (t1 ++ t2) (w1 + w2):=by
 refine ⟨by have:=h.len; have:=k.len; omega,?_,fun hb=>?_⟩
 ·rw [k.bad,h.bad]; cases b <;> cases k1 <;> cases k2 <;> rfl
 ·have hb1:b1=false:=by
   have:=k.bad
   rw [hb] at this
   cases b1
   ·rfl
   ·simp at this
  rw [k.txt hb,h.txt hb1,List.append_assoc]
theorem Pw.to {s s' t t':Bs} {b b' k k':Bool} {w w':Nat} (h:Pw s b s' b' k t w) (hk:k=k') (ht:k=true→t=t') (hw:w≤w'):Pw s b s' b' k' t' w':=by
 subst hk
 refine ⟨by have:=h.len; omega,h.bad,fun hb=>?_⟩
 rw [h.txt hb]
 have:=h.bad
 rw [hb] at this
 cases k
 ·simp at this
 ·rw [ht rfl]
theorem Pw.stop {s s' t t':Bs} {b k k':Bool} {w w':Nat} (h:Pw s b s' true k t w) (hk:k'=true→k=true) (hw:w≤w'):Pw s b s' true k' t' w':=by
 refine ⟨by have:=h.len; omega,?_,fun hb=>by cases hb⟩
 have:=h.bad
 cases b
 ·cases k'
  ·rfl
  ·rw [hk rfl] at this; simp at this
 ·rfl
abbrev PL (O0:List Nat) (H0:Heap) (q:Nat) (O:List Nat) (s:Bs) (bad:Bool) (H:Heap) (l:List Ent):Prop:=Lv O0 H0 O (fun H=>Pr H O q s bad) H l []
theorem PL.start {H:Heap} {O:List Nat} {q:Nat} {s:Bs} {bad:Bool} (h:Pr H O q s bad):PL O H q O s bad H []:=
 Lv.start h.lt fun M H' hf hM=>h.stb hf fun x hx=>(hM x hx).2
theorem _root_.Gx.Lv.pnext {O0 O O':List Nat} {H0 H H':Heap} {q:Nat} {s s':Bs} {bad bad':Bool} {l:List Ent} (L:PL O0 H0 q O s bad H l) (hp:Pr H' O' q s' bad') (hf:Fr O H H') (ho:Oo H O O'):PL O0 H0 q O' s' bad' H' l:=
 L.step hf (fun x hx=>.inl hx) (fun x hx=>⟨hp.lt x hx,ho x hx⟩) fun M H'' hf hM=>hp.stb hf fun x hx=>(hM x hx).2
theorem _root_.Gx.Lv.poo {O0 O:List Nat} {H0 H:Heap} {q:Nat} {s:Bs} {bad:Bool} {l:List Ent} (L:PL O0 H0 q O s bad H l):Oo H0 O0 O:=fun x hx=>(L.own x hx).2
theorem _root_.Gx.Lv.prep {O0 O:List Nat} {H0 H:Heap} {q:Nat} {s:Bs} {bad:Bool} {l:List Ent} (L:PL O0 H0 q O s bad H l) {d:Dat} {cs:List Value} (h:Rep H0 O0 d cs):Rep H O d cs:=
 h.stay fun b hb hn=>⟨fun hm=>(L.poo b hm).elim hn (by omega),L.fr.same b hb hn⟩
def PC (f:Nat) (args:List Value) (H:Heap) (O:List Nat) (q:Nat) (s:Bs) (bad ok:Bool) (t:Bs) (w:Nat):Prop:=
 s.length + w≤140737488355328→HCalls Tryz.prog f args.toArray H fun r H'=>r= .tuple #[]∧∃ O' s' bad',Pr H' O' q s' bad'∧Fr O H H'∧Oo H O O'∧Pw s bad s' bad' ok t w
theorem _root_.Gx.Lv.pgo {O0 O:List Nat} {H0 H:Heap} {q:Nat} {s t:Bs} {bad ok:Bool} {l:List Ent} {f w:Nat} {args:List Value} {R:Value→Heap→Prop} (L:PL O0 H0 q O s bad H l) (hc:PC f args H O q s bad ok t w) (hw:s.length + w≤140737488355328)
 (h:∀ H' O' s' bad',PL O0 H0 q O' s' bad' H' l→Pw s bad s' bad' ok t w→R (.tuple #[]) H'):HCalls Tryz.prog f args.toArray H R:=
 (hc hw).mono fun r H' ⟨hr,O',s',bad',hp,hf,ho,hs⟩=>hr ▸ h H' O' s' bad' (L.pnext hp hf ho) hs
theorem put_vc {H:Heap} {O:List Nat} {q b:Nat} {s:Bs} {bad:Bool} {ts:List Bs} (hp:Pr H O q s bad) (hb:Blk H b 9 (ts.map sv)) (hl:s.length + ts.flatten.length≤140737488355328) (hn:ts.length≤100) :
 vc Tryz.prog (fun _ _=>False) c32.code (argS c32.keep [.pointer (some ⟨q,0,none⟩),.slice (some ⟨b,0,none⟩) ts.length ts.length]) H (finQ c32.res fun r H'=>r= .tuple #[]∧∃ O',Pr H' O' q (s ++ ts.flatten) bad∧Fr O H H'∧Oo H O O'):=by
 have hne:b ∉ O:=hp.ne hb (by decide) (by decide)
 simp (implicitDefEqProofs:=false) only [go_sem,c32]
 refine vc_loop (fun (i:Nat) H'=>i≤ts.length∧∃ O',Pr H' O' q (s ++ (ts.take i).flatten) bad∧Fr O H H'∧Oo H O O')
  (fun i=>[(0,.pointer (some ⟨q,0,none⟩)),(6,.slice (some ⟨b,0,none⟩) ts.length ts.length),(7,.int .i64 ts.length),(8,.int .i64 i)]) (fun i=>ts.length - i) 0 ?_ ?_ ?_
 ·exact ⟨Nat.zero_le _,O,by simpa using hp,Fr.refl _ _,Oo.refl _ _⟩
 ·simp (implicitDefEqProofs:=false) only [go_sem]
 ·rintro i H1 ⟨hi,O1,hp1,hf1,ho1⟩
  rcases Nat.lt_or_ge i ts.length with hlt | hge
  ·have h0:(0:Int)≤(i:Int):=by omega
   have h1:(i:Int) < (ts.length:Int):=by omega
   have hb1:=hb.fr hf1 hne
   have ck:cellB H1 b i=some (sv ts[i]):=by
    rw [hb1.cell,List.getElem?_map,List.getElem?_eq_getElem hlt]; rfl
   have hlen:(s ++ (ts.take i).flatten).length + ts[i].length≤140737488355328:=by
    have e:=congrArg List.length (congrArg List.flatten (List.take_append_drop (i + 1) ts))
    rw [List.flatten_append,List.length_append,List.take_succ_eq_append_getElem hlt,List.flatten_append,List.length_append] at e
    simp only [List.flatten_cons,List.flatten_nil,List.append_nil] at e
    rw [List.length_append]; omega
   have hw:IntKind.i64.wrap ((i:Int) + 1)=((i + 1:Nat):Int):=wrap_at hlt (by unfold maxLen; omega)
   simp (implicitDefEqProofs:=false) only [go_sem,h0,h1,ck]
   refine (ws_ok hp1 hlen).mono ?_
   rintro r H2 ⟨O2,hp2,hf2,ho2⟩
   simp (implicitDefEqProofs:=false) only [go_sem,hw]
   refine loopK_intro (i + 1) ?_ ?_ ⟨by omega,O2,?_,hf1.trans' hf2 (fun x hx=>(ho1 x hx)),ho1.trans ho2 hf1.size⟩
   ·show ts.length - (i + 1) < ts.length - i
    omega
   ·simp (implicitDefEqProofs:=false) only [go_sem,hw]
   ·rw [List.take_succ_eq_append_getElem hlt,List.flatten_append]
    simpa using hp2
  ·have h1:¬ ((i:Int) < (ts.length:Int)):=by omega
   obtain rfl:i=ts.length:=by omega
   rw [List.take_length] at hp1
   simp (implicitDefEqProofs:=false) only [go_sem,h1]
   exact ⟨O1,hp1,hf1,ho1⟩
theorem put_dc {H:Heap} {O:List Nat} {q b:Nat} {s:Bs} {bad:Bool} {ts:List Bs} (hp:Pr H O q s bad) (hb:Blk H b 9 (ts.map sv)) (hl:s.length + ts.flatten.length≤140737488355328) (hn:ts.length≤100) :
 DCalls Tryz.prog 32 #[.pointer (some ⟨q,0,none⟩),.slice (some ⟨b,0,none⟩) ts.length ts.length] .returning .returning H (fun H'=>∃ O',Pr H' O' q (s ++ ts.flatten) bad∧Fr O H H'∧Oo H O O'):=
 (dcalls_of_vc (args:=[_,_]) Tryz.func32 c32ok (Nat.le_of_ble_eq_true rfl) (put_vc hp hb hl hn)).mono fun H' ⟨v,hr,h⟩=>h
theorem _root_.Gx.Lv.pput {O0 O:List Nat} {H0 H:Heap} {q b:Nat} {s:Bs} {bad:Bool} {l:List Ent} {R:Value→Heap→Prop} (L:PL O0 H0 q O s bad H l) (i:Nat) (ts:List Bs) (hi:l[i]?=some (.blk b 9 (ts.map sv))) (hn:ts.length≤100) (hw:s.length + ts.flatten.length≤140737488355328)
 (h:∀ H' O',PL O0 H0 q O' (s ++ ts.flatten) bad H' l→R (.tuple #[]) H'):HCalls Tryz.prog 32 #[.pointer (some ⟨q,0,none⟩),.slice (some ⟨b,0,none⟩) ts.length ts.length] H R:=
 (calls_of_vc (args:=[_,_]) Tryz.func32 c32ok (Nat.le_of_ble_eq_true rfl) (put_vc L.st (L.get i hi) hw hn)).mono fun r H' ⟨hr,O',h1,h2,h3⟩=>hr ▸ h H' O' (L.pnext h1 h2 h3)
theorem must_ok {H:Heap} {O:List Nat} {q:Nat} {s:Bs} {bad:Bool} (hp:Pr H O q s bad) (c:Bool) :
 HCalls Tryz.prog 29 #[.pointer (some ⟨q,0,none⟩),.bool c] H fun r H'=>r= .bool (!(bad || !c))∧Pr H' O q s (bad || !c)∧Fr O H H':=by
 obtain ⟨av,bv',g,hb,ha,hown,rfl⟩:=hp.ex
 have hgq:∀ b,g=some b→b≠q:=by
  rintro b rfl rfl
  exact hown.ne hb (by decide) (by simp)
 have k2:cellB H q 2=some (.bool bad):=hb.cell 2
 refine calls_of_vc (args:=[_,_]) Tryz.func29 c29ok (Nat.le_of_ble_eq_true rfl) ?_
 simp (implicitDefEqProofs:=false) only [go_sem,c29,k2]
 have ec:(bif bad then true else !c)=(bad || !c):=by cases bad <;> rfl
 rw [ec]
 refine Sto_one hb (by simp) (by simp [Value.oneCell']) fun H1 hb1 hf1 _=>?_
 have k3:cellB H1 q 2=some (.bool (bad || !c)):=hb1.cell 2
 simp (implicitDefEqProofs:=false) only [go_sem,k3]
 refine ⟨⟨⟨av,bv',g,hb1,ha,hown.fr hf1 (fun b hb h=>hgq b hb (by simpa using h)),rfl⟩,hp.big⟩,hf1.mono fun b hb=>.inl (by simp at hb; simp [hb])⟩
theorem _root_.Gx.Lv.pmust {O0 O:List Nat} {H0 H:Heap} {q:Nat} {s:Bs} {bad:Bool} {l:List Ent} {R:Value→Heap→Prop} (L:PL O0 H0 q O s bad H l) (c:Bool)
 (h:∀ H',PL O0 H0 q O s (bad || !c) H' l→Pw s bad s (bad || !c) c [] 0→R (.bool (!(bad || !c))) H'):HCalls Tryz.prog 29 #[.pointer (some ⟨q,0,none⟩),.bool c] H R:=
 (must_ok L.st c).mono fun r H' ⟨hr,h1,h2⟩=>hr ▸ h H' (L.pnext h1 h2 (Oo.refl _ _)) (Pw.must _ _ _)
theorem _root_.Gx.Lv.pmustE {O0 O:List Nat} {H0 H:Heap} {q:Nat} {s:Bs} {bad E:Bool} {l:List Ent} {R:Value→Heap→Prop} (L:PL O0 H0 q O s bad H l) (c:Bool) (hc:E=c)
 (h:∀ H',PL O0 H0 q O s (bad || !c) H' l→Pw s bad s (bad || !c) c [] 0→R (.bool (!(bad || !c))) H'):HCalls Tryz.prog 29 #[.pointer (some ⟨q,0,none⟩),.bool E] H R:=hc ▸ L.pmust c h
end Go.Proofs.YtmhdkbmnpekpoaaGreatDoor
end
section
set_option linter.unusedSimpArgs false
set_option linter.unusedVariables false
set_option maxRecDepth 8000
namespace Go.Proofs.YtmhdkbmnpekpoaaGreatDoor
open Gx Go
theorem _root_.Gx.Lv.pdone {O0 O:List Nat} {H0 H:Heap} {q:Nat} {s0 s t:Bs} {bad0 bad ok:Bool} {w:Nat} {l:List Ent} (L:PL O0 H0 q O s bad H l) (h:Pw s0 bad0 s bad ok t w) :
 ∃ O' s' bad',Pr H O' q s' bad'∧Fr O0 H0 H∧Oo H0 O0 O'∧Pw s0 bad0 s' bad' ok t w:=⟨O,s,bad,L.st,L.fr,L.poo,h⟩
def NO (H:Heap) (O:List Nat) (x:Nd) (v:Value):Prop:=∃ cs,v= .agg cs.toArray∧Rep H O x.dat cs
theorem NO.open {H:Heap} {O:List Nat} {k n a:Int} {t:Bs} {ks:List Nd} {v:Value} (h:NO H O (.mk k t n a ks) v):∃ aa cc,v= .agg #[.int .i64 k,sv t,.int .i64 n,.int .i64 a,.slice aa ks.length cc]∧Rep H O (kidsD ks) [.slice aa ks.length cc]∧ks.length≤cc∧ks.length≤maxLen:=by
 obtain ⟨cs,rfl,h2⟩:=h
 obtain ⟨kv,rfl,h3⟩:=nd_rep.1 h2
 obtain ⟨a,c,h1,h5,h4⟩:=Rep.slice h3
 simp only [List.length_map] at h1 h5
 subst h1
 exact ⟨a,c,rfl,h3,h5,by omega⟩
theorem NO.mk {H:Heap} {O:List Nat} {k n a:Int} {t:Bs} {ks:List Nd} {kv:Value} (h:Rep H O (kidsD ks) [kv]):NO H O (.mk k t n a ks) (.agg #[.int .i64 k,sv t,.int .i64 n,.int .i64 a,kv]):=⟨_,rfl,nd_rep.2 ⟨kv,rfl,h⟩⟩
theorem kidO {H:Heap} {O:List Nat} {ks:List Nd} {v:Value} (h:Rep H O (kidsD ks) [v]) (j:Nat) (hj:j < ks.length) :
 ∃ b o c k t n a kks kv,v= .slice (some ⟨b,o,none⟩) ks.length c∧ks[j]= .mk k t n a kks∧(cellB H b (o + j * 5 + 0)=some (.int .i64 k)∧cellB H b (o + j * 5 + 1)=some (sv t)∧cellB H b (o + j * 5 + 2)=some (.int .i64 n)∧cellB H b (o + j * 5 + 3)=some (.int .i64 a)∧cellB H b (o + j * 5 + 4)=some kv)∧NO H O ks[j] (.agg #[.int .i64 k,sv t,.int .i64 n,.int .i64 a,kv])∧kv.oneCell'=true∧b ∉ O:=by
 obtain ⟨b,o,c,x,h1,hbO,h3,h4,h5⟩:=Rep.at h j (by simpa using hj) (by decide)
 rw [List.getElem_map] at h5
 rw [List.length_map] at h1
 cases e:ks[j] with
 | mk k t n a kks=>
   rw [e] at h5
   obtain ⟨kv,rfl,h6⟩:=nd_rep.1 h5
   obtain ⟨a',c',rfl,_⟩:=Rep.slice h6
   exact ⟨b,o,c,k,t,n,a,kks,_,h1,rfl,⟨h4 0 (by decide),h4 1 (by decide),h4 2 (by decide),h4 3 (by decide),h4 4 (by decide)⟩,NO.mk h6,rfl,hbO⟩
theorem _root_.Gx.Lv.pno {O0 O:List Nat} {H0 H:Heap} {q:Nat} {s:Bs} {bad:Bool} {l:List Ent} (L:PL O0 H0 q O s bad H l) {x:Nd} {v:Value} (h:NO H0 O0 x v):NO H O x v:=by
 obtain ⟨cs,rfl,h⟩:=h
 exact ⟨cs,rfl,L.prep h⟩
theorem bare_ok {H:Heap} {k n a:Int} {t:Bs} {aa:Option Addr} {m cc:Nat} (kd kn:Int) :
 HCalls Tryz.prog 30 #[.agg #[.int .i64 k,sv t,.int .i64 n,.int .i64 a,.slice aa m cc],.int .i64 kd,.int .i64 kn] H fun r H'=>r= .bool (decide (k=kd) && (decide (kn < 0) || decide ((m:Int)=kn)))∧Fr [] H H':=by
 refine calls_of_vc (args:=[_,_,_]) Tryz.func30 c30ok (Nat.le_of_ble_eq_true rfl) ?_
 simp (implicitDefEqProofs:=false) only [go_sem,c30]
 refine NewP_intro fun H1 hn1 hf1 _=>?_
 have k0:=hn1.cell 0
 have k4:=hn1.cell 4
 by_cases h1:k=kd
 ·subst h1
  by_cases h2:kn < 0
  ·simp (implicitDefEqProofs:=false) only [go_sem,k0,k4,h2]
   exact hf1
  ·simp (implicitDefEqProofs:=false) only [go_sem,k0,k4,h2]
   exact hf1
 ·simp (implicitDefEqProofs:=false) only [go_sem,k0,k4,h1]
  exact hf1
theorem str_nil_iff (t:Bs):((⟨⟨t⟩⟩:ByteArray)=⟨⟨[]⟩⟩)=(t=[]):=by
 apply propext
 constructor
 ·intro h; injection h with h; injection h
 ·rintro rfl; rfl
theorem plain_ok {H:Heap} {k n a:Int} {t:Bs} {aa:Option Addr} {m cc:Nat} :
 HCalls Tryz.prog 47 #[.agg #[.int .i64 k,sv t,.int .i64 n,.int .i64 a,.slice aa m cc]] H fun r H'=>r= .bool (decide (t=[]) && decide (n=0))∧Fr [] H H':=by
 refine calls_of_vc (args:=[_]) Tryz.func47 c47ok (Nat.le_of_ble_eq_true rfl) ?_
 simp (implicitDefEqProofs:=false) only [go_sem,c47]
 refine NewP_intro fun H1 hn1 hf1 _=>?_
 have k1:=hn1.cell 1
 have k2:=hn1.cell 2
 have hs:=str_nil_iff t
 by_cases ht:t=[]
 ·subst ht
  simp (implicitDefEqProofs:=false) only [go_sem,k1,k2,sv]
  exact hf1
 ·simp (implicitDefEqProofs:=false) only [go_sem,k1,k2,sv,hs,ht]
  exact hf1
def okName (k n:Int) (t:Bs):Bool:=validN t && !kwB t && (decide (n=0) || decide (k=5) || decide (k=6))
theorem name_pc {H:Heap} {O:List Nat} {q:Nat} {s t:Bs} {bad:Bool} (hp:Pr H O q s bad) {k n a:Int} {aa:Option Addr} {m cc:Nat} :
 PC 48 [.pointer (some ⟨q,0,none⟩),.agg #[.int .i64 k,sv t,.int .i64 n,.int .i64 a,.slice aa m cc]] H O q s bad (okName k n t) t t.length:=by
 intro hw
 refine calls_of_vc (args:=[_,_]) Tryz.func48 c48ok (Nat.le_of_ble_eq_true rfl) ?_
 have L:=PL.start hp
 simp (implicitDefEqProofs:=false) only [go_sem,c48]
 refine L.newP fun bx H1 L=>?_
 have k0:=L.cell 0 rfl 0
 have k1:=L.cell 0 rfl 1
 have k2:=L.cell 0 rfl 2
 simp (implicitDefEqProofs:=false) only [go_sem,k1]
 refine (valid_ok t H1).mono ?_
 rintro r H2 ⟨rfl,rfl⟩
 cases hv:validN t with
 | false=>
   simp (implicitDefEqProofs:=false) only [go_sem,hv,k0,k1,k2]
   refine L.pmust _ fun H3 L hm=>?_
   have k1:=L.cell 0 rfl 1
   simp (implicitDefEqProofs:=false) only [go_sem,k1,sv]
   refine L.newS fun b1 H4 L=>?_
   simp (implicitDefEqProofs:=false) only [go_sem]
   refine L.pput 0 [t] rfl (by simp) (by simpa using hw) fun H5 O5 L=>?_
   simp (implicitDefEqProofs:=false) only [go_sem]
   exact L.pdone ((hm.trans (Pw.put _ _ _)).to (by simp [okName,hv]) (by simp) (by simp))
 | true=>
   simp (implicitDefEqProofs:=false) only [go_sem,hv,k1]
   refine (keyword_ok t H2).mono ?_
   rintro r H3 ⟨rfl,hf2⟩
   have L:=L.ext hf2
   have k0:=L.cell 0 rfl 0
   have k1:=L.cell 0 rfl 1
   have k2:=L.cell 0 rfl 2
   cases hk:kwB t with
   | true=>
     simp (implicitDefEqProofs:=false) only [go_sem,hk,k0,k1,k2]
     refine L.pmust _ fun H3 L hm=>?_
     have k1:=L.cell 0 rfl 1
     simp (implicitDefEqProofs:=false) only [go_sem,k1,sv]
     refine L.newS fun b1 H4 L=>?_
     simp (implicitDefEqProofs:=false) only [go_sem]
     refine L.pput 0 [t] rfl (by simp) (by simpa using hw) fun H5 O5 L=>?_
     simp (implicitDefEqProofs:=false) only [go_sem]
     exact L.pdone ((hm.trans (Pw.put _ _ _)).to (by simp [okName,hv,hk]) (by simp) (by simp))
   | false=>
     simp (implicitDefEqProofs:=false) only [go_sem,hk,k0,k1,k2]
     refine L.pmust _ fun H3 L hm=>?_
     have k1:=L.cell 0 rfl 1
     simp (implicitDefEqProofs:=false) only [go_sem,k1,sv]
     refine L.newS fun b1 H4 L=>?_
     simp (implicitDefEqProofs:=false) only [go_sem]
     refine L.pput 0 [t] rfl (by simp) (by simpa using hw) fun H5 O5 L=>?_
     simp (implicitDefEqProofs:=false) only [go_sem]
     exact L.pdone ((hm.trans (Pw.put _ _ _)).to (by simp [okName,hv,hk]; try grind) (by simp) (by simp))
theorem len_zero (ks:List Nd):decide ((ks.length:Int)=0)=ks.isEmpty:=by
 cases ks with
 | nil=>rfl
 | cons y r=>
   have:¬ (((y :: r).length:Int)=0):=by rw [List.length_cons]; omega
   simp only [List.isEmpty_cons,decide_eq_false_iff_not]; exact this
theorem quote_pc {H:Heap} {O:List Nat} {q:Nat} {s:Bs} {bad:Bool} (hp:Pr H O q s bad) {x:Nd} {v:Value} (hx:NO H O x v) :
 PC 93 [.pointer (some ⟨q,0,none⟩),v] H O q s bad (okQ x) (39 :: (textOf x ++ [39])) ((textOf x).length + 2):=by
 intro hw
 obtain ⟨k,t,n,a,ks⟩:=x
 obtain ⟨aa,cc,rfl,hk,hcc,hmx⟩:=hx.open
 simp only [textOf,okQ,kindOf,numOf,kidsOf] at hw ⊢
 refine calls_of_vc (args:=[_,_]) Tryz.func93 c93ok (Nat.le_of_ble_eq_true rfl) ?_
 have L:=PL.start hp
 simp (implicitDefEqProofs:=false) only [go_sem,c93]
 refine L.newP fun bx H1 L=>?_
 have ca:=L.cell 0 rfl
 simp (implicitDefEqProofs:=false) only [go_sem,ca]
 refine (bare_ok (t:=t) 47 0).mono ?_
 rintro r H2 ⟨rfl,hf2⟩
 have L:=L.ext hf2
 have k1:=L.cell 0 rfl 1
 have k2:=L.cell 0 rfl 2
 rw [show decide ((0:Int) < 0)=false from rfl,Bool.false_or,len_zero]
 cases h1:(decide (k=47) && ks.isEmpty) with
 | false=>
   simp (implicitDefEqProofs:=false) only [go_sem,k1,k2]
   refine L.pmust _ fun H3 L hm=>?_
   have k1:=L.cell 0 rfl 1
   simp (implicitDefEqProofs:=false) only [go_sem,k1,sv]
   refine L.newS fun b1 H4 L=>?_
   simp (implicitDefEqProofs:=false) only [go_sem]
   refine L.pput 0 [[39],t,[39]] rfl (by simp) (by simp; omega) fun H5 O5 L=>?_
   simp (implicitDefEqProofs:=false) only [go_sem]
   exact L.pdone ((hm.trans (Pw.put _ _ _)).to (by clear hx hk; grind) (by simp) (by simp))
 | true=>
   by_cases hn:n=0
   ·simp (implicitDefEqProofs:=false) only [go_sem,k1,k2,hn]
    refine (valid_ok t H2).mono ?_
    rintro r H3 ⟨rfl,rfl⟩
    simp (implicitDefEqProofs:=false) only [go_sem]
    refine L.pmust _ fun H3 L hm=>?_
    have k1:=L.cell 0 rfl 1
    simp (implicitDefEqProofs:=false) only [go_sem,k1,sv]
    refine L.newS fun b1 H4 L=>?_
    simp (implicitDefEqProofs:=false) only [go_sem]
    refine L.pput 0 [[39],t,[39]] rfl (by simp) (by simp; omega) fun H5 O5 L=>?_
    simp (implicitDefEqProofs:=false) only [go_sem]
    exact L.pdone ((hm.trans (Pw.put _ _ _)).to (by clear hx hk; grind) (by simp) (by simp))
   ·simp (implicitDefEqProofs:=false) only [go_sem,k1,k2,hn]
    refine L.pmust _ fun H3 L hm=>?_
    have k1:=L.cell 0 rfl 1
    simp (implicitDefEqProofs:=false) only [go_sem,k1,sv]
    refine L.newS fun b1 H4 L=>?_
    simp (implicitDefEqProofs:=false) only [go_sem]
    refine L.pput 0 [[39],t,[39]] rfl (by simp) (by simp; omega) fun H5 O5 L=>?_
    simp (implicitDefEqProofs:=false) only [go_sem]
    exact L.pdone ((hm.trans (Pw.put _ _ _)).to (by simp [hn]) (by simp) (by simp))
theorem itoa_len20 {n:Int} (h0:-9223372036854775808≤n) (h1:n≤9223372036854775807):(Lib.itoa n).length≤20:=by
 unfold Lib.itoa
 split
 ·rw [List.length_cons,Lib.decDigits_eq,List.length_map,List.length_range]
  have:=nDigits_le 18 n.natAbs (Nat.lt_of_le_of_lt (by omega:n.natAbs≤9223372036854775808) (by decide))
  omega
 ·rw [Lib.decDigits_eq,List.length_map,List.length_range]
  have:=nDigits_le 18 n.toNat (Nat.lt_of_le_of_lt (by omega:n.toNat≤9223372036854775808) (by decide))
  omega
theorem integer_pc {H:Heap} {O:List Nat} {q:Nat} {s:Bs} {bad:Bool} (hp:Pr H O q s bad) (hG:GlobH H) {x:Nd} {v:Value} (hx:NO H O x v) (h0:-9223372036854775808≤numOf x) (h1:numOf x≤9223372036854775807) :
 PC 68 [.pointer (some ⟨q,0,none⟩),v] H O q s bad (okI x) (Lib.itoa (numOf x)) 20:=by
 intro hw
 obtain ⟨k,t,n,a,ks⟩:=x
 obtain ⟨aa,cc,rfl,hk,hcc,hmx⟩:=hx.open
 simp only [textOf,okI,kindOf,numOf,kidsOf] at hw h0 h1 ⊢
 have hlen:(Lib.itoa n).length≤20:=itoa_len20 h0 h1
 refine calls_of_vc (args:=[_,_]) Tryz.func68 c68ok (Nat.le_of_ble_eq_true rfl) ?_
 have L:=PL.start hp
 simp (implicitDefEqProofs:=false) only [go_sem,c68]
 refine L.newP fun bx H1 L=>?_
 have ca:=L.cell 0 rfl
 simp (implicitDefEqProofs:=false) only [go_sem,ca]
 refine (bare_ok (t:=t) 44 0).mono ?_
 rintro r H2 ⟨rfl,hf2⟩
 have L:=L.ext hf2
 have k1:=L.cell 0 rfl 1
 have k2:=L.cell 0 rfl 2
 rw [show decide ((0:Int) < 0)=false from rfl,Bool.false_or,len_zero]
 have hs:=str_nil_iff t
 cases hb:(decide (k=44) && ks.isEmpty) with
 | false=>
   simp (implicitDefEqProofs:=false) only [go_sem,k1,k2,sv]
   refine L.pmust _ fun H3 L hm=>?_
   have k2:=L.cell 0 rfl 2
   simp (implicitDefEqProofs:=false) only [go_sem,k2]
   refine (formatInt_ok h0 h1 (hp.glob hG L.fr)).mono ?_
   rintro r H4 ⟨rfl,hf4⟩
   have L:=L.ext hf4
   simp (implicitDefEqProofs:=false) only [go_sem,sv]
   refine L.newS fun b1 H5 L=>?_
   simp (implicitDefEqProofs:=false) only [go_sem]
   refine L.pput 0 [Lib.itoa n] rfl (by simp) (by simp; omega) fun H6 O6 L=>?_
   simp (implicitDefEqProofs:=false) only [go_sem]
   exact L.pdone ((hm.trans (Pw.put _ _ _)).to (by clear hx hk; grind) (by simp) (by simpa using hlen))
 | true=>
   simp (implicitDefEqProofs:=false) only [go_sem,k1,k2,sv]
   refine L.pmust _ fun H3 L hm=>?_
   have k2:=L.cell 0 rfl 2
   simp (implicitDefEqProofs:=false) only [go_sem,k2]
   refine (formatInt_ok h0 h1 (hp.glob hG L.fr)).mono ?_
   rintro r H4 ⟨rfl,hf4⟩
   have L:=L.ext hf4
   simp (implicitDefEqProofs:=false) only [go_sem,sv]
   refine L.newS fun b1 H5 L=>?_
   simp (implicitDefEqProofs:=false) only [go_sem]
   refine L.pput 0 [Lib.itoa n] rfl (by simp) (by simp; omega) fun H6 O6 L=>?_
   simp (implicitDefEqProofs:=false) only [go_sem]
   exact L.pdone ((hm.trans (Pw.put _ _ _)).to (by simp only [hs]; clear hx hk; grind) (by simp) (by simpa using hlen))
end Go.Proofs.YtmhdkbmnpekpoaaGreatDoor
end
section
set_option linter.unusedSimpArgs false
set_option linter.unusedVariables false
set_option maxRecDepth 8000
namespace Go.Proofs.YtmhdkbmnpekpoaaGreatDoor
open Gx Go
def wQs:List Nd→Nat
 | []=>0
 | x :: r=>(textOf x).length + 4 + wQs r
theorem sQs_take (f:Bool):∀ (ks:List Nd) (i:Nat) (h:i < ks.length),sQs f (ks.take (i + 1))=sQs f (ks.take i) ++ ((if i=0 then (if f then [] else [44,32]) else [44,32]) ++ 39 :: (textOf ks[i] ++ [39]))
 | x :: r,0,_=>by simp [sQs]
 | x :: r,i + 1,h=>by
   have:=sQs_take false r i (by simpa using h)
   simp only [List.take_succ_cons,sQs,List.getElem_cons_succ,this]
   cases i <;> simp
theorem wQs_take:∀ (ks:List Nd) (i:Nat) (h:i < ks.length),wQs (ks.take (i + 1))=wQs (ks.take i) + ((textOf ks[i]).length + 4)
 | x :: r,0,_=>by simp [wQs]
 | x :: r,i + 1,h=>by
   have:=wQs_take r i (by simpa using h)
   simp only [List.take_succ_cons,wQs,List.getElem_cons_succ,this]; omega
theorem wQs_le:∀ (ks:List Nd) (i:Nat),wQs (ks.take i)≤wQs ks
 | [],i=>by simp [wQs]
 | x :: r,0=>by simp [wQs]
 | x :: r,i + 1=>by
   have:=wQs_le r i
   simp only [List.take_succ_cons,wQs]; omega
theorem all_take (p:Nd→Bool) (ks:List Nd) (i:Nat) (h:i < ks.length):(ks.take (i + 1)).all p=((ks.take i).all p && p ks[i]):=by
 rw [List.take_succ_eq_append_getElem h,List.all_append]; simp
theorem quotes_pc {H:Heap} {O:List Nat} {q:Nat} {s:Bs} {bad:Bool} (hp:Pr H O q s bad) {ks:List Nd} {v:Value} (hk:Rep H O (kidsD ks) [v]) :
 PC 101 [.pointer (some ⟨q,0,none⟩),v] H O q s bad (ks.all okQ) (sQs true ks) (wQs ks):=by
 intro hw
 obtain ⟨aa,cc,rfl,hcc,hmx⟩:∃ aa cc,v= .slice aa ks.length cc∧ks.length≤cc∧ks.length≤maxLen:=by
  obtain ⟨a,c,h1,h5,h4⟩:=Rep.slice hk
  simp only [List.length_map] at h1 h5
  exact ⟨a,c,h1,h5,by omega⟩
 refine calls_of_vc (args:=[_,_]) Tryz.func101 c101ok (Nat.le_of_ble_eq_true rfl) ?_
 simp (implicitDefEqProofs:=false) only [go_sem,c101]
 refine vc_loop (fun (i:Nat) H'=>i≤ks.length∧∃ O' s' b' l,PL O H q O' s' b' H' l∧Pw s bad s' b' ((ks.take i).all okQ) (sQs true (ks.take i)) (wQs (ks.take i)))
  (fun i=>[(0,.pointer (some ⟨q,0,none⟩)),(6,.slice aa ks.length cc),(7,.int .i64 ks.length),(8,.int .i64 i)]) (fun i=>ks.length - i) 0 ?_ ?_ ?_
 ·exact ⟨Nat.zero_le _,O,s,bad,[],PL.start hp,by simpa [sQs,wQs] using Pw.refl s bad⟩
 ·simp (implicitDefEqProofs:=false) only [go_sem]
 ·rintro i H1 ⟨hi,O1,s1,b1,l1,L,hst⟩
  rcases Nat.lt_or_ge i ks.length with hlt | hge
  ·have h0:(0:Int)≤(i:Int):=by omega
   have h1:(i:Int) < (ks.length:Int):=by omega
   have hwr:=wrap_at hlt hmx
   have hws:=wQs_take ks i hlt
   have hwl:=wQs_le ks (i + 1)
   have hlen:=hst.len
   obtain ⟨b,o,c,k1,t1,n1,a1,kks,kv1,e1,e2,⟨q0,q1,q2,q3,q4⟩,hr,hone,hbO⟩:=kidO hk i hlt
   cases e1
   simp only [Nat.add_zero] at q0
   have q0:=cellB_fr q0 L.fr hbO
   have q1:=cellB_fr q1 L.fr hbO
   have q2:=cellB_fr q2 L.fr hbO
   have q3:=cellB_fr q3 L.fr hbO
   have q4:=cellB_fr q4 L.fr hbO
   unfold sv at q1
   simp (implicitDefEqProofs:=false) only [go_sem,h0,h1,q0,q1,q2,q3,q4]
   refine NewP_intro fun H5 hn5 hf5 _=>?_
   have L5:=L.push hf5 hn5
   simp (implicitDefEqProofs:=false) only [go_sem]
   refine Sto_all hn5 rfl (one_agg hone) fun H6 hn6 hf6 _=>?_
   have L:=L5.sto 0 rfl hf6 hn6
   simp only [List.set_cons_zero,List.set_cons_succ,List.set_nil,List.eraseIdx_cons_zero,List.eraseIdx_cons_succ] at L
   rcases Nat.eq_zero_or_pos i with hi0 | hpos
   ·have hg:¬ ((0:Int) < (i:Int)):=by omega
    have ck:=L.cell 0 rfl
    unfold sv at ck
    simp (implicitDefEqProofs:=false) only [go_sem,hg,ck]
    refine L.pgo (quote_pc L.st (L.pno hr)) (by omega) fun H7 O7 s7 b7 L hq=>?_
    simp (implicitDefEqProofs:=false) only [go_sem,hwr]
    refine loopK_intro (i + 1) ?_ ?_ ⟨by omega,O7,s7,b7,_,L,?_⟩
    ·show ks.length - (i + 1) < ks.length - i
     omega
    ·simp (implicitDefEqProofs:=false) only [go_sem,hwr]
    ·refine (hst.trans hq).to (by rw [all_take _ ks i hlt]) (fun _=>?_) (by omega)
     rw [sQs_take true ks i hlt,if_pos hi0]; simp
   ·have hg:(0:Int) < (i:Int):=by omega
    simp (implicitDefEqProofs:=false) only [go_sem,hg]
    refine L.newS fun bz Hz L=>?_
    simp (implicitDefEqProofs:=false) only [go_sem]
    refine L.pput 0 [[44,32]] rfl (by simp) (by simp; omega) fun Hy Oy L=>?_
    have ck:=L.cell 1 rfl
    unfold sv at ck
    simp (implicitDefEqProofs:=false) only [go_sem,ck]
    refine L.pgo (quote_pc L.st (L.pno hr)) (by simp; omega) fun H7 O7 s7 b7 L hq=>?_
    simp (implicitDefEqProofs:=false) only [go_sem,hwr]
    refine loopK_intro (i + 1) ?_ ?_ ⟨by omega,O7,s7,b7,_,L,?_⟩
    ·show ks.length - (i + 1) < ks.length - i
     omega
    ·simp (implicitDefEqProofs:=false) only [go_sem,hwr]
    ·refine (hst.trans ((Pw.put _ _ _).trans hq)).to (by rw [all_take _ ks i hlt]; simp) (fun _=>?_) (by simp; omega)
     rw [sQs_take true ks i hlt,if_neg (by omega)]; simp
  ·have h1:¬ ((i:Int) < (ks.length:Int)):=by omega
   obtain rfl:i=ks.length:=by omega
   rw [List.take_length] at hst
   simp (implicitDefEqProofs:=false) only [go_sem,h1]
   exact L.pdone hst
theorem allowed_pc {H:Heap} {O:List Nat} {q:Nat} {s:Bs} {bad:Bool} (hp:Pr H O q s bad) {ks:List Nd} {v:Value} (hk:Rep H O (kidsD ks) [v]) :
 PC 69 [.pointer (some ⟨q,0,none⟩),v] H O q s bad (ks.all okQ) (sAll ks) (wQs ks + 2):=by
 intro hw
 obtain ⟨aa,cc,rfl,hcc,hmx⟩:∃ aa cc,v= .slice aa ks.length cc∧ks.length≤cc∧ks.length≤maxLen:=by
  obtain ⟨a,c,h1,h5,h4⟩:=Rep.slice hk
  simp only [List.length_map] at h1 h5
  exact ⟨a,c,h1,h5,by omega⟩
 refine calls_of_vc (args:=[_,_]) Tryz.func69 c69ok (Nat.le_of_ble_eq_true rfl) ?_
 have L:=PL.start hp
 cases ks with
 | nil=>
   simp (implicitDefEqProofs:=false) only [go_sem,c69]
   exact L.pdone (by simpa [sAll] using (Pw.refl s bad).to rfl (fun _=>rfl) (by simp [wQs]:0≤wQs [] + 2))
 | cons y r=>
   have hg:(0:Int) < ((r.length + 1:Nat):Int):=by omega
   simp (implicitDefEqProofs:=false) only [go_sem,c69,hg]
   refine L.newS fun bz Hz L=>?_
   simp (implicitDefEqProofs:=false) only [go_sem]
   refine L.pput 0 [[40]] rfl (by simp) (by simp; omega) fun Hy Oy L=>?_
   simp (implicitDefEqProofs:=false) only [go_sem]
   refine L.pgo (quotes_pc L.st (L.prep hk)) (by simp; omega) fun H7 O7 s7 b7 L hq=>?_
   have hlen:=hq.len
   simp (implicitDefEqProofs:=false) only [go_sem]
   refine L.newS fun bz Hz L=>?_
   simp (implicitDefEqProofs:=false) only [go_sem]
   refine L.pput 0 [[41]] rfl (by simp) (by simp at hlen ⊢; omega) fun Hy Oy L=>?_
   simp (implicitDefEqProofs:=false) only [go_sem]
   exact L.pdone (((Pw.put _ _ _).trans (hq.trans (Pw.put _ _ _))).to (by simp) (fun _=>by simp [sAll]) (by simp; omega))
end Go.Proofs.YtmhdkbmnpekpoaaGreatDoor
end
