import Derived.Test.YtdhlibkdcldioaaGreatB20
import Derived.Test.YtdhlibkdcldioaaGreatB12
set_option linter.unusedSimpArgs false
set_option linter.unusedVariables false
set_option maxRecDepth 8000
namespace Go.Proofs.YtdhlibkdcldioaaGreat
open Gx Go
def c33a:SCode:=(.ops [(.op none (.s 1) (.al 39 [(.int .i64 0),(.int .i64 0),(.int .i64 0),(.int .i64 0),(.int .i64 0),(.int .i64 0),(.slice none 0 0),(.slice none 0 0),(.slice none 0 0),(.slice none 0 0),(.slice none 0 0),(.slice none 0 0),(.slice none 0 0),(.int .i64 0),(.slice none 0 0)])),(.op none (.s 2) (.al 4 [(.bool false)]))])
def c33b:SCode:=(.seq (.ops [(.op none .t (.v (.mv (.s 0)))),(.op none .t (.call 98 [(.t 0)])),(.op none .t (.v (.bld [(.pointer none)] [(0,(1,(.t 0)))]))),(.op none (.s 3) (.al 159 [(.pointer none)])),(.op none .no (.st 1 (.s 3) (.t 0)))]) (.seq (.ops [(.op none .t (.ld (some 1) (.s 3))),(.op none .t (.call 99 [(.t 0)])),(.op none .no (.st 15 (.s 1) (.t 0)))]) (.seq (.de (.rd none .t (.ld (some 15) (.s 1)) [5,6] (.rd none .t (.v (.fa 0 (.s 3))) [3,5,6] (.rd none .t (.ld none (.t 0)) [3,5,6] (.ef 3 none .t (.call 100 [(.t 0)]) (.rd none .t (.v (.bin .eql (.t 0) (.c (.int .i64 0)))) [6] (.ef 5 none .no (.st 15 (.s 1) (.t 4)) (.ef 6 none .no (.st 1 (.s 2) (.t 0)) .done)))))))) .ret)))
def c33:Gx.DFn:=⟨16,[0,2,3,4],[2,3],c33a,97,[2,3],c33b,[(.cell (.s 0) (some 15)),(.cell (.s 1) none)]⟩
theorem c33ok:stripDef Tryz.prog [0,2,3,4] [2,3] Tryz.f33=some c33:=by kernel_rfl
def c97b:SCode:=(.seq (.ops [(.op none .t (.v (.mv (.s 2)))),(.op none (.s 4) (.v (.isnilf true (.t 0))))]) (.cond (.s 4) (.seq (.seq (.ops [(.op none .t (.v (.mv (.s 2)))),(.op none .t (.v (.tya 154 (.agg #[]) (.t 0)))),(.op none .t (.v (.mv (.t 0)))),(.op none .t (.v (.ext (.t 0) 0))),(.op none .t (.v (.ext (.t 1) 1))),(.op none .t (.al 154 [])),(.op none .no (.st 0 (.t 0) (.t 2))),(.op none (.s 3) (.v (.mv (.t 1))))]) (.seq (.ops [(.op none .t (.v (.mv (.s 3)))),(.op none (.s 5) (.v (.un .not (.t 0))))]) (.cond (.s 5) (.ops [(.op none .t (.v (.mv (.s 2)))),(.op none .no (.pnc (.t 0)))]) .skip))) (.ops [(.op none .t (.v (.bld [(.int .i64 0),(.int .i64 0),(.int .i64 0),(.int .i64 0),(.int .i64 0),(.int .i64 0),(.slice none 0 0),(.slice none 0 0),(.slice none 0 0),(.slice none 0 0),(.slice none 0 0),(.slice none 0 0),(.slice none 0 0),(.int .i64 0),(.slice none 0 0)] []))),(.op none .no (.st 15 (.s 0) (.t 0))),(.op none .no (.st 1 (.s 1) (.c (.bool false))))])) .skip))
def c97:Gx.RFn:=⟨17,[0,1,2,4,7,14],5,2,c97b,[]⟩
theorem c97ok:stripRec Tryz.prog [0,1,2,4,7,14] Tryz.f97=some c97:=by kernel_rfl
def zeroM:List Value:=[.int .i64 0,.int .i64 0,.int .i64 0,.int .i64 0,.int .i64 0,.int .i64 0,.slice none 0 0,.slice none 0 0,.slice none 0 0,.slice none 0 0,.slice none 0 0,.slice none 0 0,.slice none 0 0,.int .i64 0,.slice none 0 0]
theorem zeroM_repP (H:Heap) (B:Nat→Prop):RepP H B (datT tMsg Msg.zero.tup) zeroM:=
 RepP.pair (RepP.v _) (RepP.pair (RepP.v _) (RepP.pair (RepP.v _) (RepP.pair (RepP.pair (RepP.v _) (RepP.pair (RepP.v _) (RepP.v _))) (RepP.pair (RepP.nil _) (RepP.pair (RepP.nil _) (RepP.pair (RepP.nil _) (RepP.pair (RepP.nil _) (RepP.pair (RepP.nil _) (RepP.pair (RepP.nil _) (RepP.pair (RepP.nil _) (RepP.pair (RepP.v _) (RepP.nil _))))))))))))
theorem zeroM_rep (H:Heap):Rep H [] (datT tMsg Msg.zero.tup) zeroM:=(zeroM_repP H (fun _=>False)).rep
theorem rec_ret {x y:Nat} (H:Heap):DCalls Tryz.prog 97 #[pF x,pF y] .returning .returning H fun H''=>Fr [] H H''∧H''=H:=by
 refine dcalls_of_rec (args:=[_,_]) (u:=.returning) (m:=.returning) (v:=.nilIface) Tryz.func97 c97ok (Nat.le_of_ble_eq_true rfl) rfl ?_
 simp (implicitDefEqProofs:=false) only [go_sem,c97,c97b,cD,posOf,putS]
 exact Fr.refl _ _
theorem rec_panic {H:Heap} {x y:Nat} {xs:List Value} {t:Bool} (hx:Blk H x 39 xs) (hxl:xs.length=15) (hy:Blk H y 4 [.bool t]) (hxy:x≠y) :
 DCalls Tryz.prog 97 #[pF x,pF y] (.panicking dmg) .returning H fun H''=>Blk H'' x 39 zeroM∧Blk H'' y 4 [.bool false]∧Fr [x,y] H H'':=by
 refine dcalls_of_rec (args:=[_,_]) (u:=.panicking dmg) (m:=.panicking [{ v:=.iface 154 (.agg #[]),recovered:=true }]) (v:=.iface 154 (.agg #[])) Tryz.func97 c97ok (Nat.le_of_ble_eq_true rfl) rfl ?_
 simp (implicitDefEqProofs:=false) only [go_sem,c97,c97b,pF,cD,posOf,putS]
 refine NewP_intro fun H1 hn1 hf1 hs1=>?_
 simp (implicitDefEqProofs:=false) only [go_sem]
 refine Sto_all hn1 rfl (by simp) fun H2 hn2 hf2 hs2=>?_
 have hx2:=(hx.ext hf1).fr hf2 (by have:=hx.lt; simp; omega)
 have hy2:=(hy.ext hf1).fr hf2 (by have:=hy.lt; simp; omega)
 simp (implicitDefEqProofs:=false) only [go_sem]
 refine Sto_all hx2 (by simp [hxl]) (by simp [Value.oneCell']) fun H3 hx3 hf3 hs3=>?_
 have hy3:=hy2.fr hf3 (by simp; omega)
 simp (implicitDefEqProofs:=false) only [go_sem]
 refine Sto_one hy3 (by simp) rfl fun H4 hy4 hf4 hs4=>?_
 have hx4:=hx3.fr hf4 (by simp; omega)
 simp (implicitDefEqProofs:=false) only [go_sem]
 refine ⟨hx4,by simpa using hy4,?_⟩
 have h01:Fr [x,y] H H1:=hf1.mono (by simp)
 have h12:Fr [x,y] H H2:=h01.trans' hf2 (by simp)
 exact (h12.trans (hf3.mono (by simp))).trans (hf4.mono (by simp))
def PrR (H:Heap) (l:Bs) (v:Value) (H':Heap):Prop:=
 ∃ m cs ok,v= .tuple #[.agg (List.toArray cs),.bool ok]∧RepP H' (fun x=>x < H.size) (datT tMsg (Msg.tup m)) cs∧Fr [] H H'∧(ok=true→msgO l=some (m,some l.length))∧(ok=false→∀ m',msgO l≠some (m',some l.length))
set_option maxHeartbeats 2000000 in
theorem parse_ok {H:Heap} {a:Option Addr} {c:Nat} {l:Bs} (h:BsR H a l) (hl:l.length < 2^36):HCalls Tryz.prog 33 #[.slice a l.length c] H (PrR H l):=by
 refine calls_of_defers (args:=[_]) Tryz.func33 c33ok (Nat.le_of_ble_eq_true rfl) ?_
 simp (implicitDefEqProofs:=false) only [go_sem,c33,c33a]
 refine NewP_intro fun A hA hfA hsA=>?_
 simp (implicitDefEqProofs:=false) only [go_sem]
 refine NewP_intro fun B hB hfB hsB=>?_
 simp (implicitDefEqProofs:=false) only [go_sem]
 refine ⟨_,_,rfl,rfl,?_⟩
 have hfAB:=hfA.trans hfB
 have hA1:=hA.ext hfB
 simp (implicitDefEqProofs:=false) only [go_sem,c33,c33b]
 refine (new_ok (h.ext hfAB) (by omega)).mono ?_
 rintro v C ⟨b,g,rfl,hrd,hfC,hbC,hgC⟩
 have hA2:=hA1.ext hfC
 have hB2:=hB.ext hfC
 have hC0:RdO C b l (some 0) g:=hrd
 simp (implicitDefEqProofs:=false) only [go_sem]
 refine NewP_intro fun D hD hfD hsD=>?_
 simp (implicitDefEqProofs:=false) only [go_sem]
 refine Sto_one hD (by simp) rfl fun D2 hD2 hfD2 hsD2=>?_
 simp only [List.set_cons_zero] at hD2
 have hbCl:=hC0.lt
 have hA3:=(hA2.ext hfD).fr hfD2 (by have:=hA2.lt; simp; omega)
 have hB3:=(hB2.ext hfD).fr hfD2 (by have:=hB2.lt; simp; omega)
 have hr3:RdO D2 b l (some 0) g:=(hC0.ext hfD).fr hfD2 (by simp; omega) (fun k hk=>by have:=hC0.ltg hk; simp; omega)
 have hcD:=hD2.cell
 have hszA:B.size=H.size + 2:=by omega
 have hszC:=hfC.size
 have hAB:H.size≠A.size:=by omega
 have hbA:H.size≠b:=by omega
 have hbB:A.size≠b:=by omega
 have hbD:C.size≠b:=by omega
 have hFr:Fr [] H D2:=((hfAB.trans hfC).trans hfD).trans' hfD2 (by simp; omega)
 simp (implicitDefEqProofs:=false) only [go_sem,hcD]
 refine PCalls.mono (rmsg_ok hl hr3) ?_ ?_
 rotate_left
 ·rintro ch E1 ⟨rfl,hm,hfE⟩
  have hA4:=hA3.fr hfE (by simpa using hbA)
  have hB4:=hB3.fr hfE (by simpa using hbB)
  refine (rec_panic hA4 rfl hB4 hAB).mono ?_
  rintro H2 ⟨hA5,hB5,hf5⟩
  have hca:=hA5.cell
  have hcb:=hB5.cell
  simp (implicitDefEqProofs:=false) only [go_sem,hca,hcb,zeroM]
  refine ⟨Msg.zero,zeroM,false,rfl,zeroM_repP _ _,?_,by simp,?_⟩
  ·have h1:Fr [] H E1:=hFr.trans' hfE (by simp; omega)
   exact h1.trans' hf5 (by simp; omega)
  ·intro _ m' hm'
   rcases hm with hm | ⟨m2,hm⟩
   ·rw [hm] at hm'; cases hm'
   ·rw [hm] at hm'; simp at hm'
 rintro v E1 ⟨m,s',cs,hm,rfl,hrep,hrd1,hfE⟩
 obtain ⟨a_reads,c_reads,a_base,c_base,a_state,c_state,a_acks,c_acks,a_proof,c_proof,a_digests,c_digests,a_objects,c_objects,a_items,c_items,hcs,_⟩:=msg_open hrep.rep
 have hone:=rep_one (t:=tMsg) hrep.rep
 have hA4:=hA3.fr hfE (by simpa using hbA)
 have hB4:=hB3.fr hfE (by simpa using hbB)
 have hD4:=hD2.fr hfE (by simpa using hbD)
 have hszE:=hfE.size
 have hszD:=hfD.size
 have hlenc:cs.length=15:=by rw [hcs]; rfl
 simp (implicitDefEqProofs:=false) only [go_sem,hcs]
 refine Sto_all hA4 (by rfl) (by rw [← hcs]; exact hone) fun E2 hA5 hf5 hs5=>?_
 have hB5:=hB4.fr hf5 (by simp; omega)
 have hD5:=hD4.fr hf5 (by simp; omega)
 have hr5:RdO E2 b l s' g:=hrd1.fr hf5 (by simp; omega) (fun k hk=>by have:=hgC k hk; simp; omega)
 have hrep5:RepP E2 (fun x=>x < H.size + 2) (datT tMsg m.tup) cs:=RepP.on (m:=H.size + 2) hrep hf5 (by simp; omega) (by omega)
 have hcA5:=hA5.cell
 have hcD5:=hD5.cell
 have hFr5:Fr [] H E2:=(hFr.trans' hfE (by simp; omega)).trans' hf5 (by simp)
 simp (implicitDefEqProofs:=false) only [go_sem,hcA5,hcD5]
 refine (rend_o hr5).mono ?_
 rintro v E3 ⟨rfl,rfl⟩
 have hok:decide ((if s'=some l.length then 0 else 2:Int)=0)=decide (s'=some l.length):=by
  by_cases e:s'=some l.length
  ·simp [e]
  ·simp [e]
 simp (implicitDefEqProofs:=false) only [go_sem,hok,hcA5]
 refine Sto_all hA5 (by rfl) (by rw [← hcs]; exact hone) fun E4 hA6 hf6 hs6=>?_
 have hB6:=hB5.fr hf6 (by simp; omega)
 simp (implicitDefEqProofs:=false) only [go_sem]
 refine Sto_one hB6 (by simp) rfl fun E5 hB7 hf7 hs7=>?_
 have hA7:=hA6.fr hf7 (by simp; omega)
 simp only [List.set_cons_zero] at hB7
 simp (implicitDefEqProofs:=false) only [go_sem]
 refine (rec_ret E5).mono ?_
 rintro H2 ⟨_,rfl⟩
 have hca:=hA7.cell
 have hcb:=hB7.cell
 simp (implicitDefEqProofs:=false) only [go_sem,hca,hcb]
 rw [← hcs]
 have hrep7:RepP H2 (fun x=>x < H.size) (datT tMsg m.tup) cs:=RepP.on (RepP.on hrep5 hf6 (by simp) (Nat.le_refl _)) hf7 (by simp; omega) (by omega)
 refine ⟨m,cs,_,by rw [hcs],hrep7,(hFr5.trans' hf6 (by simp)).trans' hf7 (by simp; omega),?_,?_⟩
 ·intro h
  have:=of_decide_eq_true h
  rw [hm,this]
 ·intro h m' hm'
  have:=of_decide_eq_false h
  rw [hm] at hm'
  simp only [Option.some.injEq,Prod.mk.injEq] at hm'
  exact this hm'.2
end Go.Proofs.YtdhlibkdcldioaaGreat
