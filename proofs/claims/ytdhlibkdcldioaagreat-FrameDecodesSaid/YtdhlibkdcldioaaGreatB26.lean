import Derived.Test.YtdhlibkdcldioaaGreatB24
import Derived.Test.YtdhlibkdcldioaaGreatB14
section
set_option linter.unusedSimpArgs false
set_option linter.unusedVariables false
set_option maxRecDepth 8000
namespace Go.Proofs.YtdhlibkdcldioaaGreat
open Gx Go
end Go.Proofs.YtdhlibkdcldioaaGreat
end
section
set_option linter.unusedSimpArgs false
set_option linter.unusedVariables false
set_option maxRecDepth 8000
namespace Go.Proofs.YtdhlibkdcldioaaGreat
open Gx Go
set_option maxHeartbeats 4000000 in
theorem sread_ok:SOk 48 tRead:=by
 refine ⟨by kernel_rfl,?_⟩
 rintro ⟨d0,d1,d2⟩ ⟨e0,e1,e2⟩ H cs cs' h h'
 obtain ⟨cu0,ru0,rfl,u0,h⟩:=rep_pair.1 h
 obtain ⟨cu1,ru1,rfl,u1,h⟩:=rep_pair.1 h
 have u2:=h
 obtain ⟨cw0,rw0,rfl,w0,h'⟩:=rep_pair.1 h'
 obtain ⟨cw1,rw1,rfl,w1,h'⟩:=rep_pair.1 h'
 have w2:=h'
 have:=rep_num u0; subst this
 have:=rep_num w0; subst this
 have:=rep_num u1; subst this
 have:=rep_num w1; subst this
 obtain ⟨au2,qu2,rfl,_,_,_⟩:=rep_bytes.1 u2
 obtain ⟨aw2,qw2,rfl,_,_,_⟩:=rep_bytes.1 w2
 have hmx:maxLen < 2^63:=by decide
 refine calls_of_vc (args:=[_,_]) Tryz.func48 c48ok (Nat.le_of_ble_eq_true rfl) ?_
 simp (implicitDefEqProofs:=false) only [go_sem,c48]
 refine NewP_intro fun A1 hA hfA hsA=>?_
 simp (implicitDefEqProofs:=false) only [go_sem]
 refine NewP_intro fun B1 hB hfB hsB=>?_
 have hF0:=hfA.trans hfB
 have hA0:=hA.ext hfB
 have hB0:=hB
 have ca:=hA0.cell
 have cb:=hB0.cell
 by_cases x0:d0=e0
 rotate_left
 ·simp (implicitDefEqProofs:=false) only [go_sem,ca,cb,x0]
  exact ⟨by rw [eqB_false (by intro hh; simp only [Prod.mk.injEq] at hh; exact x0 (hh.1))],hF0⟩
 subst x0
 by_cases x1:d1=e1
 rotate_left
 ·simp (implicitDefEqProofs:=false) only [go_sem,ca,cb,x1]
  exact ⟨by rw [eqB_false (by intro hh; simp only [Prod.mk.injEq] at hh; exact x1 (hh.2.1))],hF0⟩
 subst x1
 simp (implicitDefEqProofs:=false) only [go_sem,ca,cb]
 refine (sb_ok.2 d2 e2 (Rep.ext u2 hF0) (Rep.ext w2 hF0)).mono ?_
 rintro v K1 ⟨rfl,hk1⟩
 have hF1:=hF0.trans hk1
 have ca_1:=hA0.ext hk1
 have cb_1:=hB0.ext hk1
 replace ca:=ca_1.cell
 replace cb:=cb_1.cell
 by_cases x2:d2=e2
 rotate_left
 ·rw [eqB_false x2]
  simp (implicitDefEqProofs:=false) only [go_sem,ca,cb]
  exact ⟨by rw [eqB_false (by intro hh; simp only [Prod.mk.injEq] at hh; exact x2 (hh.2.2))],hF1⟩
 subst x2
 rw [eqB_true (rfl:d2=d2)]
 simp (implicitDefEqProofs:=false) only [go_sem,ca,cb]
 exact ⟨by rw [eqB_true rfl],hF1⟩
set_option maxHeartbeats 4000000 in
theorem swrite_ok:SOk 113 tWrite:=by
 refine ⟨by kernel_rfl,?_⟩
 rintro ⟨d0,d1⟩ ⟨e0,e1⟩ H cs cs' h h'
 obtain ⟨cu0,ru0,rfl,u0,h⟩:=rep_pair.1 h
 have u1:=h
 obtain ⟨cw0,rw0,rfl,w0,h'⟩:=rep_pair.1 h'
 have w1:=h'
 have:=rep_text u0; subst this
 have:=rep_text w0; subst this
 obtain ⟨au1,qu1,rfl,_,_,_⟩:=rep_bytes.1 u1
 obtain ⟨aw1,qw1,rfl,_,_,_⟩:=rep_bytes.1 w1
 have hmx:maxLen < 2^63:=by decide
 refine calls_of_vc (args:=[_,_]) Tryz.func113 c113ok (Nat.le_of_ble_eq_true rfl) ?_
 simp (implicitDefEqProofs:=false) only [go_sem,c113]
 refine NewP_intro fun A1 hA hfA hsA=>?_
 simp (implicitDefEqProofs:=false) only [go_sem]
 refine NewP_intro fun B1 hB hfB hsB=>?_
 have hF0:=hfA.trans hfB
 have hA0:=hA.ext hfB
 have hB0:=hB
 have ca:=hA0.cell
 have cb:=hB0.cell
 by_cases x0:d0=e0
 rotate_left
 ·simp (implicitDefEqProofs:=false) only [go_sem,ca,cb,str_inj,x0]
  exact ⟨by rw [eqB_false (by intro hh; simp only [Prod.mk.injEq] at hh; exact x0 (hh.1))],hF0⟩
 subst x0
 simp (implicitDefEqProofs:=false) only [go_sem,ca,cb,str_inj]
 refine (sb_ok.2 d1 e1 (Rep.ext u1 hF0) (Rep.ext w1 hF0)).mono ?_
 rintro v K1 ⟨rfl,hk1⟩
 have hF1:=hF0.trans hk1
 have ca_1:=hA0.ext hk1
 have cb_1:=hB0.ext hk1
 replace ca:=ca_1.cell
 replace cb:=cb_1.cell
 by_cases x1:d1=e1
 rotate_left
 ·rw [eqB_false x1]
  simp (implicitDefEqProofs:=false) only [go_sem,ca,cb,str_inj]
  exact ⟨by rw [eqB_false (by intro hh; simp only [Prod.mk.injEq] at hh; exact x1 (hh.2))],hF1⟩
 subst x1
 rw [eqB_true (rfl:d1=d1)]
 simp (implicitDefEqProofs:=false) only [go_sem,ca,cb,str_inj]
 exact ⟨by rw [eqB_true rfl],hF1⟩
set_option maxHeartbeats 4000000 in
theorem scommand_ok:SOk 52 tCmd:=by
 refine ⟨by kernel_rfl,?_⟩
 rintro ⟨d0,d1,d2,d3,d4,d5⟩ ⟨e0,e1,e2,e3,e4,e5⟩ H cs cs' h h'
 obtain ⟨cu0,ru0,rfl,u0,h⟩:=rep_pair.1 h
 obtain ⟨cu1,ru1,rfl,u1,h⟩:=rep_pair.1 h
 obtain ⟨cu2,ru2,rfl,u2,h⟩:=rep_pair.1 h
 obtain ⟨cu3,ru3,rfl,u3,h⟩:=rep_pair.1 h
 obtain ⟨cu4,ru4,rfl,u4,h⟩:=rep_pair.1 h
 have u5:=h
 obtain ⟨cw0,rw0,rfl,w0,h'⟩:=rep_pair.1 h'
 obtain ⟨cw1,rw1,rfl,w1,h'⟩:=rep_pair.1 h'
 obtain ⟨cw2,rw2,rfl,w2,h'⟩:=rep_pair.1 h'
 obtain ⟨cw3,rw3,rfl,w3,h'⟩:=rep_pair.1 h'
 obtain ⟨cw4,rw4,rfl,w4,h'⟩:=rep_pair.1 h'
 have w5:=h'
 have:=rep_num u0; subst this
 have:=rep_num w0; subst this
 have:=rep_num u1; subst this
 have:=rep_num w1; subst this
 have:=rep_num u2; subst this
 have:=rep_num w2; subst this
 obtain ⟨au3,qu3,rfl,hlu3,hmu3⟩:=rep_list u3
 obtain ⟨aw3,qw3,rfl,hlw3,hmw3⟩:=rep_list w3
 have:=rep_num u4; subst this
 have:=rep_num w4; subst this
 obtain ⟨au5,qu5,rfl,_,_,_⟩:=rep_bytes.1 u5
 obtain ⟨aw5,qw5,rfl,_,_,_⟩:=rep_bytes.1 w5
 have hmx:maxLen < 2^63:=by decide
 refine calls_of_vc (args:=[_,_]) Tryz.func52 c52ok (Nat.le_of_ble_eq_true rfl) ?_
 simp (implicitDefEqProofs:=false) only [go_sem,c52]
 refine NewP_intro fun A1 hA hfA hsA=>?_
 simp (implicitDefEqProofs:=false) only [go_sem]
 refine NewP_intro fun B1 hB hfB hsB=>?_
 have hF0:=hfA.trans hfB
 have hA0:=hA.ext hfB
 have hB0:=hB
 have ca:=hA0.cell
 have cb:=hB0.cell
 by_cases x0:d0=e0
 rotate_left
 ·simp (implicitDefEqProofs:=false) only [go_sem,ca,cb,x0]
  exact ⟨by rw [eqB_false (by intro hh; simp only [Prod.mk.injEq] at hh; exact x0 (hh.1))],hF0⟩
 subst x0
 by_cases x1:d1=e1
 rotate_left
 ·simp (implicitDefEqProofs:=false) only [go_sem,ca,cb,x1]
  exact ⟨by rw [eqB_false (by intro hh; simp only [Prod.mk.injEq] at hh; exact x1 (hh.2.1))],hF0⟩
 subst x1
 by_cases x2:d2=e2
 rotate_left
 ·simp (implicitDefEqProofs:=false) only [go_sem,ca,cb,x2]
  exact ⟨by rw [eqB_false (by intro hh; simp only [Prod.mk.injEq] at hh; exact x2 (hh.2.2.1))],hF0⟩
 subst x2
 by_cases x4:d4=e4
 rotate_left
 ·simp (implicitDefEqProofs:=false) only [go_sem,ca,cb,x4]
  exact ⟨by rw [eqB_false (by intro hh; simp only [Prod.mk.injEq] at hh; exact x4 (hh.2.2.2.2.1))],hF0⟩
 subst x4
 simp (implicitDefEqProofs:=false) only [go_sem,ca,cb]
 refine (sb_ok.2 d5 e5 (Rep.ext u5 hF0) (Rep.ext w5 hF0)).mono ?_
 rintro v K1 ⟨rfl,hk1⟩
 have hF1:=hF0.trans hk1
 have ca_1:=hA0.ext hk1
 have cb_1:=hB0.ext hk1
 replace ca:=ca_1.cell
 replace cb:=cb_1.cell
 by_cases x5:d5=e5
 rotate_left
 ·rw [eqB_false x5]
  simp (implicitDefEqProofs:=false) only [go_sem,ca,cb]
  exact ⟨by rw [eqB_false (by intro hh; simp only [Prod.mk.injEq] at hh; exact x5 (hh.2.2.2.2.2))],hF1⟩
 subst x5
 rw [eqB_true (rfl:d5=d5)]
 simp (implicitDefEqProofs:=false) only [go_sem,ca,cb]
 refine (eqfWrite_ok rfl (fun _=>rfl) swrite_ok d3 e3 (Rep.ext u3 hF1) (Rep.ext w3 hF1) (Nat.lt_of_le_of_lt (Nat.le_trans hlu3 hmu3) hmx)).mono ?_
 rintro v K2 ⟨rfl,hk2⟩
 have hF2:=hF1.trans hk2
 have ca_2:=ca_1.ext hk2
 have cb_2:=cb_1.ext hk2
 replace ca:=ca_2.cell
 replace cb:=cb_2.cell
 by_cases x3:d3=e3
 rotate_left
 ·rw [eqB_false x3]
  simp (implicitDefEqProofs:=false) only [go_sem,ca,cb]
  exact ⟨by rw [eqB_false (by intro hh; simp only [Prod.mk.injEq] at hh; exact x3 (hh.2.2.2.1))],hF2⟩
 subst x3
 rw [eqB_true (rfl:d3=d3)]
 simp (implicitDefEqProofs:=false) only [go_sem,ca,cb]
 exact ⟨by rw [eqB_true rfl],hF2⟩
set_option maxHeartbeats 4000000 in
theorem sack_ok:SOk 54 tAck:=by
 refine ⟨by kernel_rfl,?_⟩
 rintro ⟨d0,d1⟩ ⟨e0,e1⟩ H cs cs' h h'
 obtain ⟨cu0,ru0,rfl,u0,h⟩:=rep_pair.1 h
 have u1:=h
 obtain ⟨cw0,rw0,rfl,w0,h'⟩:=rep_pair.1 h'
 have w1:=h'
 have:=rep_num u0; subst this
 have:=rep_num w0; subst this
 obtain ⟨au1,qu1,rfl,_,_,_⟩:=rep_bytes.1 u1
 obtain ⟨aw1,qw1,rfl,_,_,_⟩:=rep_bytes.1 w1
 have hmx:maxLen < 2^63:=by decide
 refine calls_of_vc (args:=[_,_]) Tryz.func54 c54ok (Nat.le_of_ble_eq_true rfl) ?_
 simp (implicitDefEqProofs:=false) only [go_sem,c54]
 refine NewP_intro fun A1 hA hfA hsA=>?_
 simp (implicitDefEqProofs:=false) only [go_sem]
 refine NewP_intro fun B1 hB hfB hsB=>?_
 have hF0:=hfA.trans hfB
 have hA0:=hA.ext hfB
 have hB0:=hB
 have ca:=hA0.cell
 have cb:=hB0.cell
 by_cases x0:d0=e0
 rotate_left
 ·simp (implicitDefEqProofs:=false) only [go_sem,ca,cb,x0]
  exact ⟨by rw [eqB_false (by intro hh; simp only [Prod.mk.injEq] at hh; exact x0 (hh.1))],hF0⟩
 subst x0
 simp (implicitDefEqProofs:=false) only [go_sem,ca,cb]
 refine (sb_ok.2 d1 e1 (Rep.ext u1 hF0) (Rep.ext w1 hF0)).mono ?_
 rintro v K1 ⟨rfl,hk1⟩
 have hF1:=hF0.trans hk1
 have ca_1:=hA0.ext hk1
 have cb_1:=hB0.ext hk1
 replace ca:=ca_1.cell
 replace cb:=cb_1.cell
 by_cases x1:d1=e1
 rotate_left
 ·rw [eqB_false x1]
  simp (implicitDefEqProofs:=false) only [go_sem,ca,cb]
  exact ⟨by rw [eqB_false (by intro hh; simp only [Prod.mk.injEq] at hh; exact x1 (hh.2))],hF1⟩
 subst x1
 rw [eqB_true (rfl:d1=d1)]
 simp (implicitDefEqProofs:=false) only [go_sem,ca,cb]
 exact ⟨by rw [eqB_true rfl],hF1⟩
set_option maxHeartbeats 4000000 in
theorem scertificate_ok:SOk 111 tCert:=by
 refine ⟨by kernel_rfl,?_⟩
 rintro ⟨d0,d1,d2,d3,d4,d5,d6⟩ ⟨e0,e1,e2,e3,e4,e5,e6⟩ H cs cs' h h'
 obtain ⟨cu0,ru0,rfl,u0,h⟩:=rep_pair.1 h
 obtain ⟨cu1,ru1,rfl,u1,h⟩:=rep_pair.1 h
 obtain ⟨cu2,ru2,rfl,u2,h⟩:=rep_pair.1 h
 obtain ⟨cu3,ru3,rfl,u3,h⟩:=rep_pair.1 h
 obtain ⟨cu4,ru4,rfl,u4,h⟩:=rep_pair.1 h
 obtain ⟨cu5,ru5,rfl,u5,h⟩:=rep_pair.1 h
 have u6:=h
 obtain ⟨cw0,rw0,rfl,w0,h'⟩:=rep_pair.1 h'
 obtain ⟨cw1,rw1,rfl,w1,h'⟩:=rep_pair.1 h'
 obtain ⟨cw2,rw2,rfl,w2,h'⟩:=rep_pair.1 h'
 obtain ⟨cw3,rw3,rfl,w3,h'⟩:=rep_pair.1 h'
 obtain ⟨cw4,rw4,rfl,w4,h'⟩:=rep_pair.1 h'
 obtain ⟨cw5,rw5,rfl,w5,h'⟩:=rep_pair.1 h'
 have w6:=h'
 obtain ⟨dr0,dr1,dr2⟩:=d0
 obtain ⟨gu1,gru1,rfl,ku1,ku'⟩:=rep_pair.1 u0
 obtain ⟨gu2,gu3,rfl,ku2,ku3⟩:=rep_pair.1 ku'
 have:=rep_num ku1; subst this
 have:=rep_num ku2; subst this
 have:=rep_num ku3; subst this
 obtain ⟨er0,er1,er2⟩:=e0
 obtain ⟨gw1,grw1,rfl,kw1,kw'⟩:=rep_pair.1 w0
 obtain ⟨gw2,gw3,rfl,kw2,kw3⟩:=rep_pair.1 kw'
 have:=rep_num kw1; subst this
 have:=rep_num kw2; subst this
 have:=rep_num kw3; subst this
 obtain ⟨au1,qu1,rfl,hlu1,hmu1⟩:=rep_list u1
 obtain ⟨aw1,qw1,rfl,hlw1,hmw1⟩:=rep_list w1
 obtain ⟨au2,qu2,rfl,hlu2,hmu2⟩:=rep_list u2
 obtain ⟨aw2,qw2,rfl,hlw2,hmw2⟩:=rep_list w2
 obtain ⟨au3,qu3,rfl,hlu3,hmu3⟩:=rep_list u3
 obtain ⟨aw3,qw3,rfl,hlw3,hmw3⟩:=rep_list w3
 have:=rep_num u4; subst this
 have:=rep_num w4; subst this
 obtain ⟨au5,qu5,rfl,_,_,_⟩:=rep_bytes.1 u5
 obtain ⟨aw5,qw5,rfl,_,_,_⟩:=rep_bytes.1 w5
 obtain ⟨au6,qu6,rfl,hlu6,hmu6⟩:=rep_list u6
 obtain ⟨aw6,qw6,rfl,hlw6,hmw6⟩:=rep_list w6
 have hmx:maxLen < 2^63:=by decide
 refine calls_of_vc (args:=[_,_]) Tryz.func111 c111ok (Nat.le_of_ble_eq_true rfl) ?_
 simp (implicitDefEqProofs:=false) only [go_sem,c111]
 refine NewP_intro fun A1 hA hfA hsA=>?_
 simp (implicitDefEqProofs:=false) only [go_sem]
 refine NewP_intro fun B1 hB hfB hsB=>?_
 have hF0:=hfA.trans hfB
 have hA0:=hA.ext hfB
 have hB0:=hB
 have ca:=hA0.cell
 have cb:=hB0.cell
 simp (implicitDefEqProofs:=false) only [go_sem,ca,cb]
 refine ⟨?_,?_⟩
 ·refine NewP_intro fun C1 hC hfC hsC=>?_
  have ca0:=(hA0.ext hfC).cell
  have cb0:=(hB0.ext hfC).cell
  simp (implicitDefEqProofs:=false) only [go_sem,ca0,cb0]
  refine NewP_intro fun D1 hDD hfD hsD=>?_
  have hC1:=hC.ext hfD
  have hA1:=(hA0.ext hfC).ext hfD
  have hB1:=(hB0.ext hfC).ext hfD
  have ca1:=hA1.cell
  have cb1:=hB1.cell
  simp (implicitDefEqProofs:=false) only [go_sem,ca1,cb1]
  refine Sto_all hC1 rfl (by simp [Value.oneCell']) fun C2 hX2 hfC2 hsC2=>?_
  have hY2:=hDD.fr hfC2 (by simp; omega)
  have hA2:=hA1.fr hfC2 (by simp; omega)
  have hB2:=hB1.fr hfC2 (by simp; omega)
  have ca2:=hA2.cell
  have cb2:=hB2.cell
  simp (implicitDefEqProofs:=false) only [go_sem,ca2,cb2]
  refine Sto_all hY2 rfl (by simp [Value.oneCell']) fun C3 hY3 hfC3 hsC3=>?_
  have hX3:=hX2.fr hfC3 (by simp; omega)
  have hA3:=hA2.fr hfC3 (by simp; omega)
  have hB3:=hB2.fr hfC3 (by simp; omega)
  replace hF0:Fr [] H C3:=(((hF0.trans hfC).trans hfD).trans' hfC2 (by simp; omega)).trans' hfC3 (by simp; omega)
  replace ca:=hA3.cell
  replace cb:=hB3.cell
  have cx:=hX3.cell
  have cy:=hY3.cell
  by_cases x0_0:dr0=er0
  rotate_left
  ·simp (implicitDefEqProofs:=false) only [go_sem,ca,cb,cx,cy,x0_0]
   exact ⟨by rw [eqB_false (by intro hh; simp only [Prod.mk.injEq] at hh; exact x0_0 (hh.1.1))],hF0⟩
  subst x0_0
  by_cases x0_1:dr1=er1
  rotate_left
  ·simp (implicitDefEqProofs:=false) only [go_sem,ca,cb,cx,cy,x0_1]
   exact ⟨by rw [eqB_false (by intro hh; simp only [Prod.mk.injEq] at hh; exact x0_1 (hh.1.2.1))],hF0⟩
  subst x0_1
  by_cases x0_2:dr2=er2
  rotate_left
  ·simp (implicitDefEqProofs:=false) only [go_sem,ca,cb,cx,cy,x0_2]
   exact ⟨by rw [eqB_false (by intro hh; simp only [Prod.mk.injEq] at hh; exact x0_2 (hh.1.2.2))],hF0⟩
  subst x0_2
  by_cases x4:d4=e4
  rotate_left
  ·simp (implicitDefEqProofs:=false) only [go_sem,ca,cb,cx,cy,x4]
   exact ⟨by rw [eqB_false (by intro hh; simp only [Prod.mk.injEq] at hh; exact x4 (hh.2.2.2.2.1))],hF0⟩
  subst x4
  simp (implicitDefEqProofs:=false) only [go_sem,ca,cb,cx,cy]
  refine (sb_ok.2 d5 e5 (Rep.ext u5 hF0) (Rep.ext w5 hF0)).mono ?_
  rintro v K1 ⟨rfl,hk1⟩
  have hF1:=hF0.trans hk1
  have ca_1:=hA3.ext hk1
  have cb_1:=hB3.ext hk1
  have cx_1:=hX3.ext hk1
  have cy_1:=hY3.ext hk1
  replace ca:=ca_1.cell
  replace cb:=cb_1.cell
  replace cx:=cx_1.cell
  replace cy:=cy_1.cell
  by_cases x5:d5=e5
  rotate_left
  ·rw [eqB_false x5]
   simp (implicitDefEqProofs:=false) only [go_sem,ca,cb,cx,cy]
   exact ⟨by rw [eqB_false (by intro hh; simp only [Prod.mk.injEq] at hh; exact x5 (hh.2.2.2.2.2.1))],hF1⟩
  subst x5
  rw [eqB_true (rfl:d5=d5)]
  simp (implicitDefEqProofs:=false) only [go_sem,ca,cb,cx,cy]
  refine (eqfReadID_ok rfl (fun _=>rfl) sread_ok d1 e1 (Rep.ext u1 hF1) (Rep.ext w1 hF1) (Nat.lt_of_le_of_lt (Nat.le_trans hlu1 hmu1) hmx)).mono ?_
  rintro v K2 ⟨rfl,hk2⟩
  have hF2:=hF1.trans hk2
  have ca_2:=ca_1.ext hk2
  have cb_2:=cb_1.ext hk2
  have cx_2:=cx_1.ext hk2
  have cy_2:=cy_1.ext hk2
  replace ca:=ca_2.cell
  replace cb:=cb_2.cell
  replace cx:=cx_2.cell
  replace cy:=cy_2.cell
  by_cases x1:d1=e1
  rotate_left
  ·rw [eqB_false x1]
   simp (implicitDefEqProofs:=false) only [go_sem,ca,cb,cx,cy]
   exact ⟨by rw [eqB_false (by intro hh; simp only [Prod.mk.injEq] at hh; exact x1 (hh.2.1))],hF2⟩
  subst x1
  rw [eqB_true (rfl:d1=d1)]
  simp (implicitDefEqProofs:=false) only [go_sem,ca,cb,cx,cy]
  refine (eqfCommand_ok rfl (fun _=>rfl) scommand_ok d2 e2 (Rep.ext u2 hF2) (Rep.ext w2 hF2) (Nat.lt_of_le_of_lt (Nat.le_trans hlu2 hmu2) hmx)).mono ?_
  rintro v K3 ⟨rfl,hk3⟩
  have hF3:=hF2.trans hk3
  have ca_3:=ca_2.ext hk3
  have cb_3:=cb_2.ext hk3
  have cx_3:=cx_2.ext hk3
  have cy_3:=cy_2.ext hk3
  replace ca:=ca_3.cell
  replace cb:=cb_3.cell
  replace cx:=cx_3.cell
  replace cy:=cy_3.cell
  by_cases x2:d2=e2
  rotate_left
  ·rw [eqB_false x2]
   simp (implicitDefEqProofs:=false) only [go_sem,ca,cb,cx,cy]
   exact ⟨by rw [eqB_false (by intro hh; simp only [Prod.mk.injEq] at hh; exact x2 (hh.2.2.1))],hF3⟩
  subst x2
  rw [eqB_true (rfl:d2=d2)]
  simp (implicitDefEqProofs:=false) only [go_sem,ca,cb,cx,cy]
  refine (eqfCommand_ok rfl (fun _=>rfl) scommand_ok d3 e3 (Rep.ext u3 hF3) (Rep.ext w3 hF3) (Nat.lt_of_le_of_lt (Nat.le_trans hlu3 hmu3) hmx)).mono ?_
  rintro v K4 ⟨rfl,hk4⟩
  have hF4:=hF3.trans hk4
  have ca_4:=ca_3.ext hk4
  have cb_4:=cb_3.ext hk4
  have cx_4:=cx_3.ext hk4
  have cy_4:=cy_3.ext hk4
  replace ca:=ca_4.cell
  replace cb:=cb_4.cell
  replace cx:=cx_4.cell
  replace cy:=cy_4.cell
  by_cases x3:d3=e3
  rotate_left
  ·rw [eqB_false x3]
   simp (implicitDefEqProofs:=false) only [go_sem,ca,cb,cx,cy]
   exact ⟨by rw [eqB_false (by intro hh; simp only [Prod.mk.injEq] at hh; exact x3 (hh.2.2.2.1))],hF4⟩
  subst x3
  rw [eqB_true (rfl:d3=d3)]
  simp (implicitDefEqProofs:=false) only [go_sem,ca,cb,cx,cy]
  refine (eqfAck_ok rfl (fun _=>rfl) sack_ok d6 e6 (Rep.ext u6 hF4) (Rep.ext w6 hF4) (Nat.lt_of_le_of_lt (Nat.le_trans hlu6 hmu6) hmx)).mono ?_
  rintro v K5 ⟨rfl,hk5⟩
  have hF5:=hF4.trans hk5
  have ca_5:=ca_4.ext hk5
  have cb_5:=cb_4.ext hk5
  have cx_5:=cx_4.ext hk5
  have cy_5:=cy_4.ext hk5
  replace ca:=ca_5.cell
  replace cb:=cb_5.cell
  replace cx:=cx_5.cell
  replace cy:=cy_5.cell
  by_cases x6:d6=e6
  rotate_left
  ·rw [eqB_false x6]
   simp (implicitDefEqProofs:=false) only [go_sem,ca,cb,cx,cy]
   exact ⟨by rw [eqB_false (by intro hh; simp only [Prod.mk.injEq] at hh; exact x6 (hh.2.2.2.2.2.2))],hF5⟩
  subst x6
  rw [eqB_true (rfl:d6=d6)]
  simp (implicitDefEqProofs:=false) only [go_sem,ca,cb,cx,cy]
  exact ⟨by rw [eqB_true rfl],hF5⟩
 ·refine NewP_intro fun C1 hC hfC hsC=>?_
  have ca0:=(hA0.ext hfC).cell
  have cb0:=(hB0.ext hfC).cell
  simp (implicitDefEqProofs:=false) only [go_sem,ca0,cb0]
  refine NewP_intro fun D1 hDD hfD hsD=>?_
  have hC1:=hC.ext hfD
  have hA1:=(hA0.ext hfC).ext hfD
  have hB1:=(hB0.ext hfC).ext hfD
  have ca1:=hA1.cell
  have cb1:=hB1.cell
  simp (implicitDefEqProofs:=false) only [go_sem,ca1,cb1]
  refine Sto_all hDD rfl (by simp [Value.oneCell']) fun C2 hX2 hfC2 hsC2=>?_
  have hY2:=hC1.fr hfC2 (by simp; omega)
  have hA2:=hA1.fr hfC2 (by simp; omega)
  have hB2:=hB1.fr hfC2 (by simp; omega)
  have ca2:=hA2.cell
  have cb2:=hB2.cell
  simp (implicitDefEqProofs:=false) only [go_sem,ca2,cb2]
  refine Sto_all hY2 rfl (by simp [Value.oneCell']) fun C3 hY3 hfC3 hsC3=>?_
  have hX3:=hX2.fr hfC3 (by simp; omega)
  have hA3:=hA2.fr hfC3 (by simp; omega)
  have hB3:=hB2.fr hfC3 (by simp; omega)
  replace hF0:Fr [] H C3:=(((hF0.trans hfC).trans hfD).trans' hfC2 (by simp; omega)).trans' hfC3 (by simp; omega)
  replace ca:=hA3.cell
  replace cb:=hB3.cell
  have cx:=hX3.cell
  have cy:=hY3.cell
  by_cases x0_0:dr0=er0
  rotate_left
  ·simp (implicitDefEqProofs:=false) only [go_sem,ca,cb,cx,cy,x0_0]
   exact ⟨by rw [eqB_false (by intro hh; simp only [Prod.mk.injEq] at hh; exact x0_0 (hh.1.1))],hF0⟩
  subst x0_0
  by_cases x0_1:dr1=er1
  rotate_left
  ·simp (implicitDefEqProofs:=false) only [go_sem,ca,cb,cx,cy,x0_1]
   exact ⟨by rw [eqB_false (by intro hh; simp only [Prod.mk.injEq] at hh; exact x0_1 (hh.1.2.1))],hF0⟩
  subst x0_1
  by_cases x0_2:dr2=er2
  rotate_left
  ·simp (implicitDefEqProofs:=false) only [go_sem,ca,cb,cx,cy,x0_2]
   exact ⟨by rw [eqB_false (by intro hh; simp only [Prod.mk.injEq] at hh; exact x0_2 (hh.1.2.2))],hF0⟩
  subst x0_2
  by_cases x4:d4=e4
  rotate_left
  ·simp (implicitDefEqProofs:=false) only [go_sem,ca,cb,cx,cy,x4]
   exact ⟨by rw [eqB_false (by intro hh; simp only [Prod.mk.injEq] at hh; exact x4 (hh.2.2.2.2.1))],hF0⟩
  subst x4
  simp (implicitDefEqProofs:=false) only [go_sem,ca,cb,cx,cy]
  refine (sb_ok.2 d5 e5 (Rep.ext u5 hF0) (Rep.ext w5 hF0)).mono ?_
  rintro v K1 ⟨rfl,hk1⟩
  have hF1:=hF0.trans hk1
  have ca_1:=hA3.ext hk1
  have cb_1:=hB3.ext hk1
  have cx_1:=hX3.ext hk1
  have cy_1:=hY3.ext hk1
  replace ca:=ca_1.cell
  replace cb:=cb_1.cell
  replace cx:=cx_1.cell
  replace cy:=cy_1.cell
  by_cases x5:d5=e5
  rotate_left
  ·rw [eqB_false x5]
   simp (implicitDefEqProofs:=false) only [go_sem,ca,cb,cx,cy]
   exact ⟨by rw [eqB_false (by intro hh; simp only [Prod.mk.injEq] at hh; exact x5 (hh.2.2.2.2.2.1))],hF1⟩
  subst x5
  rw [eqB_true (rfl:d5=d5)]
  simp (implicitDefEqProofs:=false) only [go_sem,ca,cb,cx,cy]
  refine (eqfReadID_ok rfl (fun _=>rfl) sread_ok d1 e1 (Rep.ext u1 hF1) (Rep.ext w1 hF1) (Nat.lt_of_le_of_lt (Nat.le_trans hlu1 hmu1) hmx)).mono ?_
  rintro v K2 ⟨rfl,hk2⟩
  have hF2:=hF1.trans hk2
  have ca_2:=ca_1.ext hk2
  have cb_2:=cb_1.ext hk2
  have cx_2:=cx_1.ext hk2
  have cy_2:=cy_1.ext hk2
  replace ca:=ca_2.cell
  replace cb:=cb_2.cell
  replace cx:=cx_2.cell
  replace cy:=cy_2.cell
  by_cases x1:d1=e1
  rotate_left
  ·rw [eqB_false x1]
   simp (implicitDefEqProofs:=false) only [go_sem,ca,cb,cx,cy]
   exact ⟨by rw [eqB_false (by intro hh; simp only [Prod.mk.injEq] at hh; exact x1 (hh.2.1))],hF2⟩
  subst x1
  rw [eqB_true (rfl:d1=d1)]
  simp (implicitDefEqProofs:=false) only [go_sem,ca,cb,cx,cy]
  refine (eqfCommand_ok rfl (fun _=>rfl) scommand_ok d2 e2 (Rep.ext u2 hF2) (Rep.ext w2 hF2) (Nat.lt_of_le_of_lt (Nat.le_trans hlu2 hmu2) hmx)).mono ?_
  rintro v K3 ⟨rfl,hk3⟩
  have hF3:=hF2.trans hk3
  have ca_3:=ca_2.ext hk3
  have cb_3:=cb_2.ext hk3
  have cx_3:=cx_2.ext hk3
  have cy_3:=cy_2.ext hk3
  replace ca:=ca_3.cell
  replace cb:=cb_3.cell
  replace cx:=cx_3.cell
  replace cy:=cy_3.cell
  by_cases x2:d2=e2
  rotate_left
  ·rw [eqB_false x2]
   simp (implicitDefEqProofs:=false) only [go_sem,ca,cb,cx,cy]
   exact ⟨by rw [eqB_false (by intro hh; simp only [Prod.mk.injEq] at hh; exact x2 (hh.2.2.1))],hF3⟩
  subst x2
  rw [eqB_true (rfl:d2=d2)]
  simp (implicitDefEqProofs:=false) only [go_sem,ca,cb,cx,cy]
  refine (eqfCommand_ok rfl (fun _=>rfl) scommand_ok d3 e3 (Rep.ext u3 hF3) (Rep.ext w3 hF3) (Nat.lt_of_le_of_lt (Nat.le_trans hlu3 hmu3) hmx)).mono ?_
  rintro v K4 ⟨rfl,hk4⟩
  have hF4:=hF3.trans hk4
  have ca_4:=ca_3.ext hk4
  have cb_4:=cb_3.ext hk4
  have cx_4:=cx_3.ext hk4
  have cy_4:=cy_3.ext hk4
  replace ca:=ca_4.cell
  replace cb:=cb_4.cell
  replace cx:=cx_4.cell
  replace cy:=cy_4.cell
  by_cases x3:d3=e3
  rotate_left
  ·rw [eqB_false x3]
   simp (implicitDefEqProofs:=false) only [go_sem,ca,cb,cx,cy]
   exact ⟨by rw [eqB_false (by intro hh; simp only [Prod.mk.injEq] at hh; exact x3 (hh.2.2.2.1))],hF4⟩
  subst x3
  rw [eqB_true (rfl:d3=d3)]
  simp (implicitDefEqProofs:=false) only [go_sem,ca,cb,cx,cy]
  refine (eqfAck_ok rfl (fun _=>rfl) sack_ok d6 e6 (Rep.ext u6 hF4) (Rep.ext w6 hF4) (Nat.lt_of_le_of_lt (Nat.le_trans hlu6 hmu6) hmx)).mono ?_
  rintro v K5 ⟨rfl,hk5⟩
  have hF5:=hF4.trans hk5
  have ca_5:=ca_4.ext hk5
  have cb_5:=cb_4.ext hk5
  have cx_5:=cx_4.ext hk5
  have cy_5:=cy_4.ext hk5
  replace ca:=ca_5.cell
  replace cb:=cb_5.cell
  replace cx:=cx_5.cell
  replace cy:=cy_5.cell
  by_cases x6:d6=e6
  rotate_left
  ·rw [eqB_false x6]
   simp (implicitDefEqProofs:=false) only [go_sem,ca,cb,cx,cy]
   exact ⟨by rw [eqB_false (by intro hh; simp only [Prod.mk.injEq] at hh; exact x6 (hh.2.2.2.2.2.2))],hF5⟩
  subst x6
  rw [eqB_true (rfl:d6=d6)]
  simp (implicitDefEqProofs:=false) only [go_sem,ca,cb,cx,cy]
  exact ⟨by rw [eqB_true rfl],hF5⟩
set_option maxHeartbeats 4000000 in
theorem sbase_ok:SOk 50 tBase:=by
 refine ⟨by kernel_rfl,?_⟩
 rintro ⟨d0,d1⟩ ⟨e0,e1⟩ H cs cs' h h'
 obtain ⟨cu0,ru0,rfl,u0,h⟩:=rep_pair.1 h
 have u1:=h
 obtain ⟨cw0,rw0,rfl,w0,h'⟩:=rep_pair.1 h'
 have w1:=h'
 obtain ⟨au0,qu0,rfl,hlu0,hmu0⟩:=rep_list u0
 obtain ⟨aw0,qw0,rfl,hlw0,hmw0⟩:=rep_list w0
 obtain ⟨au1,qu1,rfl,hlu1,hmu1⟩:=rep_list u1
 obtain ⟨aw1,qw1,rfl,hlw1,hmw1⟩:=rep_list w1
 have hmx:maxLen < 2^63:=by decide
 refine calls_of_vc (args:=[_,_]) Tryz.func50 c50ok (Nat.le_of_ble_eq_true rfl) ?_
 simp (implicitDefEqProofs:=false) only [go_sem,c50]
 refine NewP_intro fun A1 hA hfA hsA=>?_
 simp (implicitDefEqProofs:=false) only [go_sem]
 refine NewP_intro fun B1 hB hfB hsB=>?_
 have hF0:=hfA.trans hfB
 have hA0:=hA.ext hfB
 have hB0:=hB
 have ca:=hA0.cell
 have cb:=hB0.cell
 simp (implicitDefEqProofs:=false) only [go_sem,ca,cb]
 refine (eqfCertificate_ok rfl (fun _=>rfl) scertificate_ok d0 e0 (Rep.ext u0 hF0) (Rep.ext w0 hF0) (Nat.lt_of_le_of_lt (Nat.le_trans hlu0 hmu0) hmx)).mono ?_
 rintro v K1 ⟨rfl,hk1⟩
 have hF1:=hF0.trans hk1
 have ca_1:=hA0.ext hk1
 have cb_1:=hB0.ext hk1
 replace ca:=ca_1.cell
 replace cb:=cb_1.cell
 by_cases x0:d0=e0
 rotate_left
 ·rw [eqB_false x0]
  simp (implicitDefEqProofs:=false) only [go_sem,ca,cb]
  exact ⟨by rw [eqB_false (by intro hh; simp only [Prod.mk.injEq] at hh; exact x0 (hh.1))],hF1⟩
 subst x0
 rw [eqB_true (rfl:d0=d0)]
 simp (implicitDefEqProofs:=false) only [go_sem,ca,cb]
 refine (eqfCommand_ok rfl (fun _=>rfl) scommand_ok d1 e1 (Rep.ext u1 hF1) (Rep.ext w1 hF1) (Nat.lt_of_le_of_lt (Nat.le_trans hlu1 hmu1) hmx)).mono ?_
 rintro v K2 ⟨rfl,hk2⟩
 have hF2:=hF1.trans hk2
 have ca_2:=ca_1.ext hk2
 have cb_2:=cb_1.ext hk2
 replace ca:=ca_2.cell
 replace cb:=cb_2.cell
 by_cases x1:d1=e1
 rotate_left
 ·rw [eqB_false x1]
  simp (implicitDefEqProofs:=false) only [go_sem,ca,cb]
  exact ⟨by rw [eqB_false (by intro hh; simp only [Prod.mk.injEq] at hh; exact x1 (hh.2))],hF2⟩
 subst x1
 rw [eqB_true (rfl:d1=d1)]
 simp (implicitDefEqProofs:=false) only [go_sem,ca,cb]
 exact ⟨by rw [eqB_true rfl],hF2⟩
set_option maxHeartbeats 4000000 in
theorem sproof_ok:SOk 56 tProof:=by
 refine ⟨by kernel_rfl,?_⟩
 rintro ⟨d0,d1⟩ ⟨e0,e1⟩ H cs cs' h h'
 obtain ⟨cu0,ru0,rfl,u0,h⟩:=rep_pair.1 h
 have u1:=h
 obtain ⟨cw0,rw0,rfl,w0,h'⟩:=rep_pair.1 h'
 have w1:=h'
 obtain ⟨au0,qu0,rfl,hlu0,hmu0⟩:=rep_list u0
 obtain ⟨aw0,qw0,rfl,hlw0,hmw0⟩:=rep_list w0
 obtain ⟨y1_0,y1_1,y1_2,y1_3,y1_4,y1_5,y1_6,y1_7,y1_8,rfl⟩:=len9 (rep_wid u1)
 obtain ⟨z1_0,z1_1,z1_2,z1_3,z1_4,z1_5,z1_6,z1_7,z1_8,rfl⟩:=len9 (rep_wid w1)
 have hmx:maxLen < 2^63:=by decide
 refine calls_of_vc (args:=[_,_]) Tryz.func56 c56ok (Nat.le_of_ble_eq_true rfl) ?_
 simp (implicitDefEqProofs:=false) only [go_sem,c56]
 refine NewP_intro fun A1 hA hfA hsA=>?_
 simp (implicitDefEqProofs:=false) only [go_sem]
 refine NewP_intro fun B1 hB hfB hsB=>?_
 have hF0:=hfA.trans hfB
 have hA0:=hA.ext hfB
 have hB0:=hB
 have ca:=hA0.cell
 have cb:=hB0.cell
 simp (implicitDefEqProofs:=false) only [go_sem,ca,cb]
 refine (eqfCertificate_ok rfl (fun _=>rfl) scertificate_ok d0 e0 (Rep.ext u0 hF0) (Rep.ext w0 hF0) (Nat.lt_of_le_of_lt (Nat.le_trans hlu0 hmu0) hmx)).mono ?_
 rintro v K1 ⟨rfl,hk1⟩
 have hF1:=hF0.trans hk1
 have ca_1:=hA0.ext hk1
 have cb_1:=hB0.ext hk1
 replace ca:=ca_1.cell
 replace cb:=cb_1.cell
 by_cases x0:d0=e0
 rotate_left
 ·rw [eqB_false x0]
  simp (implicitDefEqProofs:=false) only [go_sem,ca,cb]
  exact ⟨by rw [eqB_false (by intro hh; simp only [Prod.mk.injEq] at hh; exact x0 (hh.1))],hF1⟩
 subst x0
 rw [eqB_true (rfl:d0=d0)]
 simp (implicitDefEqProofs:=false) only [go_sem,ca,cb]
 refine (scertificate_ok.2 d1 e1 (Rep.ext u1 hF1) (Rep.ext w1 hF1)).mono ?_
 rintro v K2 ⟨rfl,hk2⟩
 have hF2:=hF1.trans hk2
 have ca_2:=ca_1.ext hk2
 have cb_2:=cb_1.ext hk2
 replace ca:=ca_2.cell
 replace cb:=cb_2.cell
 by_cases x1:d1=e1
 rotate_left
 ·rw [eqB_false x1]
  simp (implicitDefEqProofs:=false) only [go_sem,ca,cb]
  exact ⟨by rw [eqB_false (by intro hh; simp only [Prod.mk.injEq] at hh; exact x1 (hh.2))],hF2⟩
 subst x1
 rw [eqB_true (rfl:d1=d1)]
 simp (implicitDefEqProofs:=false) only [go_sem,ca,cb]
 exact ⟨by rw [eqB_true rfl],hF2⟩
set_option maxHeartbeats 4000000 in
theorem sdigest_ok:SOk 58 tDigest:=by
 refine ⟨by kernel_rfl,?_⟩
 rintro ⟨d0,d1,d2⟩ ⟨e0,e1,e2⟩ H cs cs' h h'
 obtain ⟨cu0,ru0,rfl,u0,h⟩:=rep_pair.1 h
 obtain ⟨cu1,ru1,rfl,u1,h⟩:=rep_pair.1 h
 have u2:=h
 obtain ⟨cw0,rw0,rfl,w0,h'⟩:=rep_pair.1 h'
 obtain ⟨cw1,rw1,rfl,w1,h'⟩:=rep_pair.1 h'
 have w2:=h'
 obtain ⟨au0,qu0,rfl,_,_,_⟩:=rep_bytes.1 u0
 obtain ⟨aw0,qw0,rfl,_,_,_⟩:=rep_bytes.1 w0
 obtain ⟨au1,qu1,rfl,_,_,_⟩:=rep_bytes.1 u1
 obtain ⟨aw1,qw1,rfl,_,_,_⟩:=rep_bytes.1 w1
 have:=rep_num u2; subst this
 have:=rep_num w2; subst this
 have hmx:maxLen < 2^63:=by decide
 refine calls_of_vc (args:=[_,_]) Tryz.func58 c58ok (Nat.le_of_ble_eq_true rfl) ?_
 simp (implicitDefEqProofs:=false) only [go_sem,c58]
 refine NewP_intro fun A1 hA hfA hsA=>?_
 simp (implicitDefEqProofs:=false) only [go_sem]
 refine NewP_intro fun B1 hB hfB hsB=>?_
 have hF0:=hfA.trans hfB
 have hA0:=hA.ext hfB
 have hB0:=hB
 have ca:=hA0.cell
 have cb:=hB0.cell
 by_cases x2:d2=e2
 rotate_left
 ·simp (implicitDefEqProofs:=false) only [go_sem,ca,cb,x2]
  exact ⟨by rw [eqB_false (by intro hh; simp only [Prod.mk.injEq] at hh; exact x2 (hh.2.2))],hF0⟩
 subst x2
 simp (implicitDefEqProofs:=false) only [go_sem,ca,cb]
 refine (sb_ok.2 d0 e0 (Rep.ext u0 hF0) (Rep.ext w0 hF0)).mono ?_
 rintro v K1 ⟨rfl,hk1⟩
 have hF1:=hF0.trans hk1
 have ca_1:=hA0.ext hk1
 have cb_1:=hB0.ext hk1
 replace ca:=ca_1.cell
 replace cb:=cb_1.cell
 by_cases x0:d0=e0
 rotate_left
 ·rw [eqB_false x0]
  simp (implicitDefEqProofs:=false) only [go_sem,ca,cb]
  exact ⟨by rw [eqB_false (by intro hh; simp only [Prod.mk.injEq] at hh; exact x0 (hh.1))],hF1⟩
 subst x0
 rw [eqB_true (rfl:d0=d0)]
 simp (implicitDefEqProofs:=false) only [go_sem,ca,cb]
 refine (sb_ok.2 d1 e1 (Rep.ext u1 hF1) (Rep.ext w1 hF1)).mono ?_
 rintro v K2 ⟨rfl,hk2⟩
 have hF2:=hF1.trans hk2
 have ca_2:=ca_1.ext hk2
 have cb_2:=cb_1.ext hk2
 replace ca:=ca_2.cell
 replace cb:=cb_2.cell
 by_cases x1:d1=e1
 rotate_left
 ·rw [eqB_false x1]
  simp (implicitDefEqProofs:=false) only [go_sem,ca,cb]
  exact ⟨by rw [eqB_false (by intro hh; simp only [Prod.mk.injEq] at hh; exact x1 (hh.2.1))],hF2⟩
 subst x1
 rw [eqB_true (rfl:d1=d1)]
 simp (implicitDefEqProofs:=false) only [go_sem,ca,cb]
 exact ⟨by rw [eqB_true rfl],hF2⟩
set_option maxHeartbeats 4000000 in
theorem sitem_ok:SOk 61 tItem:=by
 refine ⟨by kernel_rfl,?_⟩
 rintro ⟨d0,d1,d2,d3⟩ ⟨e0,e1,e2,e3⟩ H cs cs' h h'
 obtain ⟨cu0,ru0,rfl,u0,h⟩:=rep_pair.1 h
 obtain ⟨cu1,ru1,rfl,u1,h⟩:=rep_pair.1 h
 obtain ⟨cu2,ru2,rfl,u2,h⟩:=rep_pair.1 h
 have u3:=h
 obtain ⟨cw0,rw0,rfl,w0,h'⟩:=rep_pair.1 h'
 obtain ⟨cw1,rw1,rfl,w1,h'⟩:=rep_pair.1 h'
 obtain ⟨cw2,rw2,rfl,w2,h'⟩:=rep_pair.1 h'
 have w3:=h'
 have:=rep_text u0; subst this
 have:=rep_text w0; subst this
 have:=rep_bool u1; subst this
 have:=rep_bool w1; subst this
 obtain ⟨au2,qu2,rfl,_,_,_⟩:=rep_bytes.1 u2
 obtain ⟨aw2,qw2,rfl,_,_,_⟩:=rep_bytes.1 w2
 obtain ⟨au3,qu3,rfl,hlu3,hmu3⟩:=rep_list u3
 obtain ⟨aw3,qw3,rfl,hlw3,hmw3⟩:=rep_list w3
 have hmx:maxLen < 2^63:=by decide
 refine calls_of_vc (args:=[_,_]) Tryz.func61 c61ok (Nat.le_of_ble_eq_true rfl) ?_
 simp (implicitDefEqProofs:=false) only [go_sem,c61]
 refine NewP_intro fun A1 hA hfA hsA=>?_
 simp (implicitDefEqProofs:=false) only [go_sem]
 refine NewP_intro fun B1 hB hfB hsB=>?_
 have hF0:=hfA.trans hfB
 have hA0:=hA.ext hfB
 have hB0:=hB
 have ca:=hA0.cell
 have cb:=hB0.cell
 by_cases x0:d0=e0
 rotate_left
 ·simp (implicitDefEqProofs:=false) only [go_sem,ca,cb,str_inj,x0]
  exact ⟨by rw [eqB_false (by intro hh; simp only [Prod.mk.injEq] at hh; exact x0 (hh.1))],hF0⟩
 subst x0
 by_cases x1:d1=e1
 rotate_left
 ·have xb:=beq_eq_false_iff_ne.2 x1
  simp (implicitDefEqProofs:=false) only [go_sem,ca,cb,str_inj,xb]
  exact ⟨by rw [eqB_false (by intro hh; simp only [Prod.mk.injEq] at hh; exact x1 (hh.2.1))],hF0⟩
 subst x1
 simp (implicitDefEqProofs:=false) only [go_sem,ca,cb,str_inj,beq_self_eq_true]
 refine (sb_ok.2 d2 e2 (Rep.ext u2 hF0) (Rep.ext w2 hF0)).mono ?_
 rintro v K1 ⟨rfl,hk1⟩
 have hF1:=hF0.trans hk1
 have ca_1:=hA0.ext hk1
 have cb_1:=hB0.ext hk1
 replace ca:=ca_1.cell
 replace cb:=cb_1.cell
 by_cases x2:d2=e2
 rotate_left
 ·rw [eqB_false x2]
  simp (implicitDefEqProofs:=false) only [go_sem,ca,cb,str_inj,beq_self_eq_true]
  exact ⟨by rw [eqB_false (by intro hh; simp only [Prod.mk.injEq] at hh; exact x2 (hh.2.2.1))],hF1⟩
 subst x2
 rw [eqB_true (rfl:d2=d2)]
 simp (implicitDefEqProofs:=false) only [go_sem,ca,cb,str_inj,beq_self_eq_true]
 refine (eqfBts_ok rfl (fun _=>rfl) sb_ok d3 e3 (Rep.ext u3 hF1) (Rep.ext w3 hF1) (Nat.lt_of_le_of_lt (Nat.le_trans hlu3 hmu3) hmx)).mono ?_
 rintro v K2 ⟨rfl,hk2⟩
 have hF2:=hF1.trans hk2
 have ca_2:=ca_1.ext hk2
 have cb_2:=cb_1.ext hk2
 replace ca:=ca_2.cell
 replace cb:=cb_2.cell
 by_cases x3:d3=e3
 rotate_left
 ·rw [eqB_false x3]
  simp (implicitDefEqProofs:=false) only [go_sem,ca,cb,str_inj,beq_self_eq_true]
  exact ⟨by rw [eqB_false (by intro hh; simp only [Prod.mk.injEq] at hh; exact x3 (hh.2.2.2))],hF2⟩
 subst x3
 rw [eqB_true (rfl:d3=d3)]
 simp (implicitDefEqProofs:=false) only [go_sem,ca,cb,str_inj,beq_self_eq_true]
 exact ⟨by rw [eqB_true rfl],hF2⟩
set_option maxHeartbeats 4000000 in
theorem smsg_ok:SOk 23 tMsg:=by
 refine ⟨by kernel_rfl,?_⟩
 rintro ⟨d0,d1,d2,d3,d4,d5,d6,d7,d8,d9,d10,d11,d12⟩ ⟨e0,e1,e2,e3,e4,e5,e6,e7,e8,e9,e10,e11,e12⟩ H cs cs' h h'
 obtain ⟨cu0,ru0,rfl,u0,h⟩:=rep_pair.1 h
 obtain ⟨cu1,ru1,rfl,u1,h⟩:=rep_pair.1 h
 obtain ⟨cu2,ru2,rfl,u2,h⟩:=rep_pair.1 h
 obtain ⟨cu3,ru3,rfl,u3,h⟩:=rep_pair.1 h
 obtain ⟨cu4,ru4,rfl,u4,h⟩:=rep_pair.1 h
 obtain ⟨cu5,ru5,rfl,u5,h⟩:=rep_pair.1 h
 obtain ⟨cu6,ru6,rfl,u6,h⟩:=rep_pair.1 h
 obtain ⟨cu7,ru7,rfl,u7,h⟩:=rep_pair.1 h
 obtain ⟨cu8,ru8,rfl,u8,h⟩:=rep_pair.1 h
 obtain ⟨cu9,ru9,rfl,u9,h⟩:=rep_pair.1 h
 obtain ⟨cu10,ru10,rfl,u10,h⟩:=rep_pair.1 h
 obtain ⟨cu11,ru11,rfl,u11,h⟩:=rep_pair.1 h
 have u12:=h
 obtain ⟨cw0,rw0,rfl,w0,h'⟩:=rep_pair.1 h'
 obtain ⟨cw1,rw1,rfl,w1,h'⟩:=rep_pair.1 h'
 obtain ⟨cw2,rw2,rfl,w2,h'⟩:=rep_pair.1 h'
 obtain ⟨cw3,rw3,rfl,w3,h'⟩:=rep_pair.1 h'
 obtain ⟨cw4,rw4,rfl,w4,h'⟩:=rep_pair.1 h'
 obtain ⟨cw5,rw5,rfl,w5,h'⟩:=rep_pair.1 h'
 obtain ⟨cw6,rw6,rfl,w6,h'⟩:=rep_pair.1 h'
 obtain ⟨cw7,rw7,rfl,w7,h'⟩:=rep_pair.1 h'
 obtain ⟨cw8,rw8,rfl,w8,h'⟩:=rep_pair.1 h'
 obtain ⟨cw9,rw9,rfl,w9,h'⟩:=rep_pair.1 h'
 obtain ⟨cw10,rw10,rfl,w10,h'⟩:=rep_pair.1 h'
 obtain ⟨cw11,rw11,rfl,w11,h'⟩:=rep_pair.1 h'
 have w12:=h'
 have:=rep_num u0; subst this
 have:=rep_num w0; subst this
 have:=rep_num u1; subst this
 have:=rep_num w1; subst this
 have:=rep_num u2; subst this
 have:=rep_num w2; subst this
 obtain ⟨dr0,dr1,dr2⟩:=d3
 obtain ⟨gu1,gru1,rfl,ku1,ku'⟩:=rep_pair.1 u3
 obtain ⟨gu2,gu3,rfl,ku2,ku3⟩:=rep_pair.1 ku'
 have:=rep_num ku1; subst this
 have:=rep_num ku2; subst this
 have:=rep_num ku3; subst this
 obtain ⟨er0,er1,er2⟩:=e3
 obtain ⟨gw1,grw1,rfl,kw1,kw'⟩:=rep_pair.1 w3
 obtain ⟨gw2,gw3,rfl,kw2,kw3⟩:=rep_pair.1 kw'
 have:=rep_num kw1; subst this
 have:=rep_num kw2; subst this
 have:=rep_num kw3; subst this
 obtain ⟨au4,qu4,rfl,hlu4,hmu4⟩:=rep_list u4
 obtain ⟨aw4,qw4,rfl,hlw4,hmw4⟩:=rep_list w4
 obtain ⟨au5,qu5,rfl,hlu5,hmu5⟩:=rep_list u5
 obtain ⟨aw5,qw5,rfl,hlw5,hmw5⟩:=rep_list w5
 obtain ⟨au6,qu6,rfl,hlu6,hmu6⟩:=rep_list u6
 obtain ⟨aw6,qw6,rfl,hlw6,hmw6⟩:=rep_list w6
 obtain ⟨au7,qu7,rfl,hlu7,hmu7⟩:=rep_list u7
 obtain ⟨aw7,qw7,rfl,hlw7,hmw7⟩:=rep_list w7
 obtain ⟨au8,qu8,rfl,hlu8,hmu8⟩:=rep_list u8
 obtain ⟨aw8,qw8,rfl,hlw8,hmw8⟩:=rep_list w8
 obtain ⟨au9,qu9,rfl,hlu9,hmu9⟩:=rep_list u9
 obtain ⟨aw9,qw9,rfl,hlw9,hmw9⟩:=rep_list w9
 obtain ⟨au10,qu10,rfl,hlu10,hmu10⟩:=rep_list u10
 obtain ⟨aw10,qw10,rfl,hlw10,hmw10⟩:=rep_list w10
 have:=rep_num u11; subst this
 have:=rep_num w11; subst this
 obtain ⟨au12,qu12,rfl,hlu12,hmu12⟩:=rep_list u12
 obtain ⟨aw12,qw12,rfl,hlw12,hmw12⟩:=rep_list w12
 have hmx:maxLen < 2^63:=by decide
 refine calls_of_vc (args:=[_,_]) Tryz.func23 c23ok (Nat.le_of_ble_eq_true rfl) ?_
 simp (implicitDefEqProofs:=false) only [go_sem,c23]
 refine NewP_intro fun A1 hA hfA hsA=>?_
 simp (implicitDefEqProofs:=false) only [go_sem]
 refine NewP_intro fun B1 hB hfB hsB=>?_
 have hF0:=hfA.trans hfB
 have hA0:=hA.ext hfB
 have hB0:=hB
 have ca:=hA0.cell
 have cb:=hB0.cell
 by_cases x0:d0=e0
 rotate_left
 ·simp (implicitDefEqProofs:=false) only [go_sem,ca,cb,x0]
  exact ⟨by rw [eqB_false (by intro hh; simp only [Prod.mk.injEq] at hh; exact x0 (hh.1))],hF0⟩
 subst x0
 by_cases x1:d1=e1
 rotate_left
 ·simp (implicitDefEqProofs:=false) only [go_sem,ca,cb,x1]
  exact ⟨by rw [eqB_false (by intro hh; simp only [Prod.mk.injEq] at hh; exact x1 (hh.2.1))],hF0⟩
 subst x1
 by_cases x2:d2=e2
 rotate_left
 ·simp (implicitDefEqProofs:=false) only [go_sem,ca,cb,x2]
  exact ⟨by rw [eqB_false (by intro hh; simp only [Prod.mk.injEq] at hh; exact x2 (hh.2.2.1))],hF0⟩
 subst x2
 by_cases x3_0:dr0=er0
 rotate_left
 ·simp (implicitDefEqProofs:=false) only [go_sem,ca,cb,x3_0]
  exact ⟨by rw [eqB_false (by intro hh; simp only [Prod.mk.injEq] at hh; exact x3_0 (hh.2.2.2.1.1))],hF0⟩
 subst x3_0
 by_cases x3_1:dr1=er1
 rotate_left
 ·simp (implicitDefEqProofs:=false) only [go_sem,ca,cb,x3_1]
  exact ⟨by rw [eqB_false (by intro hh; simp only [Prod.mk.injEq] at hh; exact x3_1 (hh.2.2.2.1.2.1))],hF0⟩
 subst x3_1
 by_cases x3_2:dr2=er2
 rotate_left
 ·simp (implicitDefEqProofs:=false) only [go_sem,ca,cb,x3_2]
  exact ⟨by rw [eqB_false (by intro hh; simp only [Prod.mk.injEq] at hh; exact x3_2 (hh.2.2.2.1.2.2))],hF0⟩
 subst x3_2
 by_cases x11:d11=e11
 rotate_left
 ·simp (implicitDefEqProofs:=false) only [go_sem,ca,cb,x11]
  exact ⟨by rw [eqB_false (by intro hh; simp only [Prod.mk.injEq] at hh; exact x11 (hh.2.2.2.2.2.2.2.2.2.2.2.1))],hF0⟩
 subst x11
 simp (implicitDefEqProofs:=false) only [go_sem,ca,cb]
 refine (eqfReadID_ok rfl (fun _=>rfl) sread_ok d4 e4 (Rep.ext u4 hF0) (Rep.ext w4 hF0) (Nat.lt_of_le_of_lt (Nat.le_trans hlu4 hmu4) hmx)).mono ?_
 rintro v K1 ⟨rfl,hk1⟩
 have hF1:=hF0.trans hk1
 have ca_1:=hA0.ext hk1
 have cb_1:=hB0.ext hk1
 replace ca:=ca_1.cell
 replace cb:=cb_1.cell
 by_cases x4:d4=e4
 rotate_left
 ·rw [eqB_false x4]
  simp (implicitDefEqProofs:=false) only [go_sem,ca,cb]
  exact ⟨by rw [eqB_false (by intro hh; simp only [Prod.mk.injEq] at hh; exact x4 (hh.2.2.2.2.1))],hF1⟩
 subst x4
 rw [eqB_true (rfl:d4=d4)]
 simp (implicitDefEqProofs:=false) only [go_sem,ca,cb]
 refine (eqfBase_ok rfl (fun _=>rfl) sbase_ok d5 e5 (Rep.ext u5 hF1) (Rep.ext w5 hF1) (Nat.lt_of_le_of_lt (Nat.le_trans hlu5 hmu5) hmx)).mono ?_
 rintro v K2 ⟨rfl,hk2⟩
 have hF2:=hF1.trans hk2
 have ca_2:=ca_1.ext hk2
 have cb_2:=cb_1.ext hk2
 replace ca:=ca_2.cell
 replace cb:=cb_2.cell
 by_cases x5:d5=e5
 rotate_left
 ·rw [eqB_false x5]
  simp (implicitDefEqProofs:=false) only [go_sem,ca,cb]
  exact ⟨by rw [eqB_false (by intro hh; simp only [Prod.mk.injEq] at hh; exact x5 (hh.2.2.2.2.2.1))],hF2⟩
 subst x5
 rw [eqB_true (rfl:d5=d5)]
 simp (implicitDefEqProofs:=false) only [go_sem,ca,cb]
 refine (eqfCommand_ok rfl (fun _=>rfl) scommand_ok d6 e6 (Rep.ext u6 hF2) (Rep.ext w6 hF2) (Nat.lt_of_le_of_lt (Nat.le_trans hlu6 hmu6) hmx)).mono ?_
 rintro v K3 ⟨rfl,hk3⟩
 have hF3:=hF2.trans hk3
 have ca_3:=ca_2.ext hk3
 have cb_3:=cb_2.ext hk3
 replace ca:=ca_3.cell
 replace cb:=cb_3.cell
 by_cases x6:d6=e6
 rotate_left
 ·rw [eqB_false x6]
  simp (implicitDefEqProofs:=false) only [go_sem,ca,cb]
  exact ⟨by rw [eqB_false (by intro hh; simp only [Prod.mk.injEq] at hh; exact x6 (hh.2.2.2.2.2.2.1))],hF3⟩
 subst x6
 rw [eqB_true (rfl:d6=d6)]
 simp (implicitDefEqProofs:=false) only [go_sem,ca,cb]
 refine (eqfAck_ok rfl (fun _=>rfl) sack_ok d7 e7 (Rep.ext u7 hF3) (Rep.ext w7 hF3) (Nat.lt_of_le_of_lt (Nat.le_trans hlu7 hmu7) hmx)).mono ?_
 rintro v K4 ⟨rfl,hk4⟩
 have hF4:=hF3.trans hk4
 have ca_4:=ca_3.ext hk4
 have cb_4:=cb_3.ext hk4
 replace ca:=ca_4.cell
 replace cb:=cb_4.cell
 by_cases x7:d7=e7
 rotate_left
 ·rw [eqB_false x7]
  simp (implicitDefEqProofs:=false) only [go_sem,ca,cb]
  exact ⟨by rw [eqB_false (by intro hh; simp only [Prod.mk.injEq] at hh; exact x7 (hh.2.2.2.2.2.2.2.1))],hF4⟩
 subst x7
 rw [eqB_true (rfl:d7=d7)]
 simp (implicitDefEqProofs:=false) only [go_sem,ca,cb]
 refine (eqfProof_ok rfl (fun _=>rfl) sproof_ok d8 e8 (Rep.ext u8 hF4) (Rep.ext w8 hF4) (Nat.lt_of_le_of_lt (Nat.le_trans hlu8 hmu8) hmx)).mono ?_
 rintro v K5 ⟨rfl,hk5⟩
 have hF5:=hF4.trans hk5
 have ca_5:=ca_4.ext hk5
 have cb_5:=cb_4.ext hk5
 replace ca:=ca_5.cell
 replace cb:=cb_5.cell
 by_cases x8:d8=e8
 rotate_left
 ·rw [eqB_false x8]
  simp (implicitDefEqProofs:=false) only [go_sem,ca,cb]
  exact ⟨by rw [eqB_false (by intro hh; simp only [Prod.mk.injEq] at hh; exact x8 (hh.2.2.2.2.2.2.2.2.1))],hF5⟩
 subst x8
 rw [eqB_true (rfl:d8=d8)]
 simp (implicitDefEqProofs:=false) only [go_sem,ca,cb]
 refine (eqfDigest_ok rfl (fun _=>rfl) sdigest_ok d9 e9 (Rep.ext u9 hF5) (Rep.ext w9 hF5) (Nat.lt_of_le_of_lt (Nat.le_trans hlu9 hmu9) hmx)).mono ?_
 rintro v K6 ⟨rfl,hk6⟩
 have hF6:=hF5.trans hk6
 have ca_6:=ca_5.ext hk6
 have cb_6:=cb_5.ext hk6
 replace ca:=ca_6.cell
 replace cb:=cb_6.cell
 by_cases x9:d9=e9
 rotate_left
 ·rw [eqB_false x9]
  simp (implicitDefEqProofs:=false) only [go_sem,ca,cb]
  exact ⟨by rw [eqB_false (by intro hh; simp only [Prod.mk.injEq] at hh; exact x9 (hh.2.2.2.2.2.2.2.2.2.1))],hF6⟩
 subst x9
 rw [eqB_true (rfl:d9=d9)]
 simp (implicitDefEqProofs:=false) only [go_sem,ca,cb]
 refine (eqs_ok d10 e10 (Rep.ext u10 hF6) (Rep.ext w10 hF6) (Nat.lt_of_le_of_lt (Nat.le_trans hlu10 hmu10) hmx)).mono ?_
 rintro v K7 ⟨rfl,hk7⟩
 have hF7:=hF6.trans hk7
 have ca_7:=ca_6.ext hk7
 have cb_7:=cb_6.ext hk7
 replace ca:=ca_7.cell
 replace cb:=cb_7.cell
 by_cases x10:d10=e10
 rotate_left
 ·rw [eqB_false x10]
  simp (implicitDefEqProofs:=false) only [go_sem,ca,cb]
  exact ⟨by rw [eqB_false (by intro hh; simp only [Prod.mk.injEq] at hh; exact x10 (hh.2.2.2.2.2.2.2.2.2.2.1))],hF7⟩
 subst x10
 rw [eqB_true (rfl:d10=d10)]
 simp (implicitDefEqProofs:=false) only [go_sem,ca,cb]
 refine (eqfItem_ok rfl (fun _=>rfl) sitem_ok d12 e12 (Rep.ext u12 hF7) (Rep.ext w12 hF7) (Nat.lt_of_le_of_lt (Nat.le_trans hlu12 hmu12) hmx)).mono ?_
 rintro v K8 ⟨rfl,hk8⟩
 have hF8:=hF7.trans hk8
 have ca_8:=ca_7.ext hk8
 have cb_8:=cb_7.ext hk8
 replace ca:=ca_8.cell
 replace cb:=cb_8.cell
 by_cases x12:d12=e12
 rotate_left
 ·rw [eqB_false x12]
  simp (implicitDefEqProofs:=false) only [go_sem,ca,cb]
  exact ⟨by rw [eqB_false (by intro hh; simp only [Prod.mk.injEq] at hh; exact x12 (hh.2.2.2.2.2.2.2.2.2.2.2.2))],hF8⟩
 subst x12
 rw [eqB_true (rfl:d12=d12)]
 simp (implicitDefEqProofs:=false) only [go_sem,ca,cb]
 exact ⟨by rw [eqB_true rfl],hF8⟩
end Go.Proofs.YtdhlibkdcldioaaGreat
end
