import Derived.Test.YtdhlibkdcldioaaGreatB6
namespace Gx
open Go
def vcK (P:Program) (E:Chain→Heap→Prop) (b:SCode) (Q:Post):Slots→Heap→Prop:=fun σ H=>vc P E b σ H Q
def retK (P:Program) (E:Chain→Heap→Prop) (d:Dst) (r:List GOp) (σ:Slots) (τ:List Value) (K:Slots→Heap→Prop):Value→Heap→Prop:=
 fun v H'=>vcOps P E r (putS d v σ) (putT d v τ) H' K
def gdN (P:Program) (E:Chain→Heap→Prop) (t:Opd) (b fr:Bool) (d:Dst) (s:SOp Opd) (r:List GOp) (σ:Slots) (τ:List Value) (H:Heap) (K:Slots→Heap→Prop):Option (Option Bool)→Prop
 | some (some c)=>(c=b→s.vc P E (evO (gS fr t (.bool b) σ) (gT fr t (.bool b) τ)) H (retK P E d r (gS fr t (.bool b) σ) (gT fr t (.bool b) τ) K))∧
  (c=(!b)→vcOps P E r (putS d undef (gS fr t (.bool (!b)) σ)) (putT d undef (gT fr t (.bool (!b)) τ)) H K)
 | some none=>vcOps P E r (putS d undef σ) (putT d undef τ) H K
 | none=>False
def rdD (P:Program) (E:Chain→Heap→Prop) (next:DT) (d:Dst) (s:SOp Opd) (D:List Nat) (pend:Pend) (σ:Slots) (τ:List Value) (H:Heap) (K:Slots→Heap→Prop):Option (Prop × Value)→Prop
 | some (p,v)=>p∧vcD P E next (s.held (evO σ τ) D v pend) (putS d v σ) (putT d v τ) H K
 | none=>False
def efK (P:Program) (E:Chain→Heap→Prop) (next:DT) (d:Dst) (pend:Pend) (σ:Slots) (τ:List Value) (K:Slots→Heap→Prop):Value→Heap→Prop:=
 fun v H'=>pendOk H' pend∧vcD P E next pend (putS d v σ) (putT d v τ) H' K
def gdRd (P:Program) (E:Chain→Heap→Prop) (t:Opd) (b:Bool) (next:DT) (d:Dst) (s:SOp Opd) (D:List Nat) (pend:Pend) (σ:Slots) (τ:List Value) (H:Heap) (K:Slots→Heap→Prop):Option (Option Bool)→Prop
 | some (some c)=>(c=b→rdD P E next d s D pend (setS t (.bool b) σ) (setT t (.bool b) τ) H K (s.rd (evO (setS t (.bool b) σ) (setT t (.bool b) τ)) H))∧
  (c=(!b)→vcD P E next pend (putS d undef (setS t (.bool (!b)) σ)) (putT d undef (setT t (.bool (!b)) τ)) H K)
 | some none=>vcD P E next pend (putS d undef σ) (putT d undef τ) H K
 | none=>False
def gdEf (P:Program) (E:Chain→Heap→Prop) (t:Opd) (b:Bool) (next:DT) (d:Dst) (s:SOp Opd) (pend:Pend) (σ:Slots) (τ:List Value) (H:Heap) (K:Slots→Heap→Prop):Option (Option Bool)→Prop
 | some (some c)=>(c=b→s.vc P E (evO (setS t (.bool b) σ) (setT t (.bool b) τ)) H (efK P E next d pend (setS t (.bool b) σ) (setT t (.bool b) τ) K))∧
  (c=(!b)→vcD P E next pend (putS d undef (setS t (.bool (!b)) σ)) (putT d undef (setT t (.bool (!b)) τ)) H K)
 | some none=>vcD P E next pend (putS d undef σ) (putT d undef τ) H K
 | none=>False
section
variable {P:Program} {E:Chain→Heap→Prop} {σ:Slots} {τ:List Value} {H:Heap} {Q:Post} {K:Slots→Heap→Prop}
@[go_sem] theorem vc_de (t:DT):vc P E (.de t) σ H Q=vcD P E t [] σ [] H (nrmK Q):=rfl
@[go_sem] theorem vcD_done (pend:Pend):vcD P E .done pend σ τ H K=K σ H:=rfl
@[go_sem] theorem vcD_rd (d:Dst) (s:SOp Opd) (D:List Nat) (next:DT) (pend:Pend):vcD P E (.rd none d s D next) pend σ τ H K=rdD P E next d s D pend σ τ H K (s.rd (evO σ τ) H):=by
  simp only [vcD,rdD,rdK]; cases s.rd (evO σ τ) H <;> rfl
@[go_sem] theorem vcD_rdg (t:Opd) (b:Bool) (d:Dst) (s:SOp Opd) (D:List Nat) (next:DT) (pend:Pend):vcD P E (.rd (some (t,b)) d s D next) pend σ τ H K=gdRd P E t b next d s D pend σ τ H K (guardOf (evO σ τ t)):=by
  simp only [vcD,gdRd,rdD,rdK]
  cases guardOf (evO σ τ t) with
  | none=>rfl
  | some x=>
    cases x with
    | none=>rfl
    | some c=>
      simp only
      congr 1
      cases s.rd (evO (setS t (.bool b) σ) (setT t (.bool b) τ)) H <;> rfl
@[go_sem] theorem vcD_ef (i:Nat) (d:Dst) (s:SOp Opd) (next:DT) (pend:Pend):vcD P E (.ef i none d s next) pend σ τ H K=s.vc P E (evO σ τ) H (efK P E next d (pendDrop i pend) σ τ K):=rfl
@[go_sem] theorem vcD_efg (i:Nat) (t:Opd) (b:Bool) (d:Dst) (s:SOp Opd) (next:DT) (pend:Pend):vcD P E (.ef i (some (t,b)) d s next) pend σ τ H K=gdEf P E t b next d s (pendDrop i pend) σ τ H K (guardOf (evO σ τ t)):=by
  simp only [vcD,gdEf]
  cases guardOf (evO σ τ t) with
  | none=>rfl
  | some x=>cases x <;> rfl
@[go_sem] theorem vcD_br (a b:DT) (pend:Pend):vcD P E (.br a b) pend σ τ H K=(vcD P E a pend σ τ H K∧vcD P E b pend σ τ H K):=rfl
@[go_sem] theorem rdD_some (next:DT) (d:Dst) (s:SOp Opd) (D:List Nat) (pend:Pend) (p:Prop) (v:Value):rdD P E next d s D pend σ τ H K (some (p,v))=(p∧vcD P E next (s.held (evO σ τ) D v pend) (putS d v σ) (putT d v τ) H K):=rfl
@[go_sem] theorem efK_app (next:DT) (d:Dst) (pend:Pend) (v:Value) (H':Heap):efK P E next d pend σ τ K v H'=(pendOk H' pend∧vcD P E next pend (putS d v σ) (putT d v τ) H' K):=rfl
@[go_sem] theorem gdRd_bool (t:Opd) (b:Bool) (next:DT) (d:Dst) (s:SOp Opd) (D:List Nat) (pend:Pend) (c:Bool):gdRd P E t b next d s D pend σ τ H K (some (some c)) =
 ((c=b→rdD P E next d s D pend (setS t (.bool b) σ) (setT t (.bool b) τ) H K (s.rd (evO (setS t (.bool b) σ) (setT t (.bool b) τ)) H))∧(c=(!b)→vcD P E next pend (putS d undef (setS t (.bool (!b)) σ)) (putT d undef (setT t (.bool (!b)) τ)) H K)):=rfl
@[go_sem 2000] theorem gdRd_hit_true (t:Opd) (next:DT) (d:Dst) (s:SOp Opd) (D:List Nat) (pend:Pend):gdRd P E t true next d s D pend σ τ H K (some (some true))=rdD P E next d s D pend (setS t (.bool true) σ) (setT t (.bool true) τ) H K (s.rd (evO (setS t (.bool true) σ) (setT t (.bool true) τ)) H):=by simp [gdRd]
@[go_sem 2000] theorem gdRd_miss_true (t:Opd) (next:DT) (d:Dst) (s:SOp Opd) (D:List Nat) (pend:Pend):gdRd P E t true next d s D pend σ τ H K (some (some false))=vcD P E next pend (putS d undef (setS t (.bool false) σ)) (putT d undef (setT t (.bool false) τ)) H K:=by simp [gdRd]
@[go_sem 2000] theorem gdEf_hit_true (t:Opd) (next:DT) (d:Dst) (s:SOp Opd) (pend:Pend):gdEf P E t true next d s pend σ τ H K (some (some true))=s.vc P E (evO (setS t (.bool true) σ) (setT t (.bool true) τ)) H (efK P E next d pend (setS t (.bool true) σ) (setT t (.bool true) τ) K):=by simp [gdEf]
@[go_sem 2000] theorem gdEf_miss_true (t:Opd) (next:DT) (d:Dst) (s:SOp Opd) (pend:Pend):gdEf P E t true next d s pend σ τ H K (some (some false))=vcD P E next pend (putS d undef (setS t (.bool false) σ)) (putT d undef (setT t (.bool false) τ)) H K:=by simp [gdEf]
@[go_sem 2000] theorem gdRd_hit_false (t:Opd) (next:DT) (d:Dst) (s:SOp Opd) (D:List Nat) (pend:Pend):gdRd P E t false next d s D pend σ τ H K (some (some false))=rdD P E next d s D pend (setS t (.bool false) σ) (setT t (.bool false) τ) H K (s.rd (evO (setS t (.bool false) σ) (setT t (.bool false) τ)) H):=by simp [gdRd]
@[go_sem 2000] theorem gdRd_miss_false (t:Opd) (next:DT) (d:Dst) (s:SOp Opd) (D:List Nat) (pend:Pend):gdRd P E t false next d s D pend σ τ H K (some (some true))=vcD P E next pend (putS d undef (setS t (.bool true) σ)) (putT d undef (setT t (.bool true) τ)) H K:=by simp [gdRd]
@[go_sem 2000] theorem gdEf_hit_false (t:Opd) (next:DT) (d:Dst) (s:SOp Opd) (pend:Pend):gdEf P E t false next d s pend σ τ H K (some (some false))=s.vc P E (evO (setS t (.bool false) σ) (setT t (.bool false) τ)) H (efK P E next d pend (setS t (.bool false) σ) (setT t (.bool false) τ) K):=by simp [gdEf]
@[go_sem 2000] theorem gdEf_miss_false (t:Opd) (next:DT) (d:Dst) (s:SOp Opd) (pend:Pend):gdEf P E t false next d s pend σ τ H K (some (some true))=vcD P E next pend (putS d undef (setS t (.bool true) σ)) (putT d undef (setT t (.bool true) τ)) H K:=by simp [gdEf]
@[go_sem] theorem pendOk_nil:pendOk H []=True:=rfl
@[go_sem] theorem pendOk_cons (D:List Nat) (h:Held) (r:Pend):pendOk H ((D,h) :: r)=(h.ok H∧pendOk H r):=rfl
@[go_sem] theorem pendDrop_nil (i:Nat):pendDrop i []=[]:=rfl
@[go_sem] theorem pendDrop_cons (i:Nat) (D:List Nat) (h:Held) (r:Pend):pendDrop i ((D,h) :: r)=if D.elem i then pendDrop i r else (D,h) :: pendDrop i r:=rfl
@[go_sem] theorem held_ok_ld (sz:Option Nat) (a:Addr) (v:Value):(Held.ld sz a v).ok H=(ldV H sz a=some v):=rfl
@[go_sem] theorem held_ok_b2s (x v:Value):(Held.b2s x v).ok H=(b2sN H (some x)=some v):=rfl
attribute [go_sem] SOp.held
@[go_sem] theorem vc_skip:vc P E .skip σ H Q=Q .nrm σ H:=rfl
@[go_sem] theorem vc_ops (l:List GOp):vc P E (.ops l) σ H Q=vcOps P E l σ [] H (nrmK Q):=rfl
@[go_sem] theorem vc_dq (l:List GOp):vc P E (.dq l) σ H Q=vcOps P E l σ [] H (nrmK Q):=rfl
@[go_sem] theorem vc_seq (a b:SCode):vc P E (.seq a b) σ H Q=vc P E a σ H (seqK (vcK P E b Q) Q):=rfl
@[go_sem] theorem vc_cond (c:Opd) (a b:SCode):vc P E (.cond c a b) σ H Q=condN (vc P E a σ H Q) (vc P E b σ H Q) (evO σ [] c):=rfl
@[go_sem] theorem vc_block (id:Nat) (c:SCode):vc P E (.block id c) σ H Q=vc P E c σ H (blockK id Q):=rfl
@[go_sem] theorem vc_exit (i:Nat):vc P E (.exit i) σ H Q=Q (.ext i) σ H:=rfl
@[go_sem] theorem vc_ret:vc P E .ret σ H Q=Q .ret σ H:=rfl
@[go_sem] theorem vcK_app (b:SCode):vcK P E b Q σ H=vc P E b σ H Q:=rfl
@[go_sem] theorem nrmK_app:nrmK Q σ H=Q .nrm σ H:=rfl
@[go_sem] theorem seqK_nrm (F:Slots→Heap→Prop):seqK F Q .nrm σ H=F σ H:=rfl
@[go_sem] theorem seqK_ext (F:Slots→Heap→Prop) (i:Nat):seqK F Q (.ext i) σ H=Q (.ext i) σ H:=rfl
@[go_sem] theorem seqK_ret (F:Slots→Heap→Prop):seqK F Q .ret σ H=Q .ret σ H:=rfl
@[go_sem] theorem blockK_nrm (i:Nat):blockK i Q .nrm σ H=Q .nrm σ H:=rfl
@[go_sem] theorem blockK_same (i:Nat):blockK i Q (.ext i) σ H=Q .nrm σ H:=if_pos rfl
@[go_sem] theorem blockK_ext (i j:Nat):blockK i Q (.ext j) σ H=if j=i then Q .nrm σ H else Q (.ext j) σ H:=rfl
@[go_sem] theorem blockK_ret (i:Nat):blockK i Q .ret σ H=Q .ret σ H:=rfl
@[go_sem 2000] theorem condN_true (A B:Prop):condN A B (some (.bool true))=A:=by simp [condN]
@[go_sem 2000] theorem condN_false (A B:Prop):condN A B (some (.bool false))=B:=by simp [condN]
@[go_sem] theorem condN_bool (A B:Prop) (t:Bool):condN A B (some (.bool t))=((t=true→A)∧(t=false→B)):=rfl
@[go_sem] theorem vcOps_nil:vcOps P E [] σ τ H K=K σ H:=rfl
@[go_sem] theorem vcOps_op (d:Dst) (s:SOp Opd) (r:List GOp):vcOps P E (.op none d s :: r) σ τ H K=s.vc P E (evO σ τ) H (retK P E d r σ τ K):=rfl
@[go_sem] theorem vcOps_gd (t:Opd) (b fr:Bool) (d:Dst) (s:SOp Opd) (r:List GOp):vcOps P E (.op (some (t,b,fr)) d s :: r) σ τ H K=gdN P E t b fr d s r σ τ H K (guardOf (evO σ τ t)):=by
  simp only [vcOps,gdN]
  cases guardOf (evO σ τ t) with
  | none=>rfl
  | some x=>cases x <;> rfl
@[go_sem] theorem vcOps_sel (t:Opd) (b:Bool) (inner:List In) (d:Dst) (x y:Opd) (r:List GOp) :
 vcOps P E (.sel t b inner d x y :: r) σ τ H K=vN H (retK P E d r σ τ K) (selV σ τ t b x y (innerE H σ inner τ)):=rfl
@[go_sem] theorem retK_app (d:Dst) (r:List GOp) (v:Value) (H':Heap):retK P E d r σ τ K v H'=vcOps P E r (putS d v σ) (putT d v τ) H' K:=rfl
@[go_sem] theorem putS_no (v:Value):putS .no v σ=σ:=rfl
@[go_sem] theorem putS_t (v:Value):putS .t v σ=σ:=rfl
@[go_sem] theorem putS_s (k:Nat) (v:Value):putS (.s k) v σ=σ.set k (some v):=rfl
@[go_sem] theorem putT_no (v:Value):putT .no v τ=τ:=rfl
@[go_sem] theorem putT_t (v:Value):putT .t v τ=v :: τ:=rfl
@[go_sem] theorem putT_s (k:Nat) (v:Value):putT (.s k) v τ=τ:=rfl
@[go_sem] theorem setS_t (k:Nat) (v:Value):setS (.t k) v σ=σ:=rfl
@[go_sem] theorem setT_t (k:Nat) (v:Value):setT (.t k) v τ=τ.set k v:=rfl
@[go_sem] theorem gS_true (x:Opd) (v:Value):gS true x v σ=setS x v σ:=rfl
@[go_sem] theorem gS_false (x:Opd) (v:Value):gS false x v σ=σ:=rfl
@[go_sem] theorem gT_true (x:Opd) (v:Value):gT true x v τ=setT x v τ:=rfl
@[go_sem] theorem gT_false (x:Opd) (v:Value):gT false x v τ=τ:=rfl
@[go_sem 2000] theorem gdN_hit_true (t:Opd) (fr:Bool) (d:Dst) (s:SOp Opd) (r:List GOp):gdN P E t true fr d s r σ τ H K (some (some true))=s.vc P E (evO (gS fr t (.bool true) σ) (gT fr t (.bool true) τ)) H (retK P E d r (gS fr t (.bool true) σ) (gT fr t (.bool true) τ) K):=by simp [gdN]
@[go_sem 2000] theorem gdN_miss_true (t:Opd) (fr:Bool) (d:Dst) (s:SOp Opd) (r:List GOp):gdN P E t true fr d s r σ τ H K (some (some false))=vcOps P E r (putS d undef (gS fr t (.bool false) σ)) (putT d undef (gT fr t (.bool false) τ)) H K:=by simp [gdN]
@[go_sem 2000] theorem gdN_hit_false (t:Opd) (fr:Bool) (d:Dst) (s:SOp Opd) (r:List GOp):gdN P E t false fr d s r σ τ H K (some (some false))=s.vc P E (evO (gS fr t (.bool false) σ) (gT fr t (.bool false) τ)) H (retK P E d r (gS fr t (.bool false) σ) (gT fr t (.bool false) τ) K):=by simp [gdN]
@[go_sem 2000] theorem gdN_miss_false (t:Opd) (fr:Bool) (d:Dst) (s:SOp Opd) (r:List GOp):gdN P E t false fr d s r σ τ H K (some (some true))=vcOps P E r (putS d undef (gS fr t (.bool true) σ)) (putT d undef (gT fr t (.bool true) τ)) H K:=by simp [gdN]
@[go_sem] theorem guardOf_b (c:Bool):guardOf (some (.bool c))=some (some c):=rfl
attribute [go_sem] undef
section
variable {R:Value→Heap→Prop} {O:Type} {ev:O→Option Value}
@[go_sem] theorem svc_v (e:PE O):SOp.vc P E ev H R (.v e)=vN H R (e.val ev):=rfl
@[go_sem] theorem svc_ld (sz:Option Nat) (x:O):SOp.vc P E ev H R (.ld sz x)=rdN H R (ldN H sz (ev x)):=rfl
@[go_sem] theorem svc_st (n:Nat) (a x:O):SOp.vc P E ev H R (.st n a x)=stN H n R (ev a) (ev x):=rfl
@[go_sem] theorem svc_al (t:Nat) (z:List Value):SOp.vc P E ev H R (.al t z)=NewP H t z R:=rfl
@[go_sem] theorem svc_bx (t:Nat) (x:O):SOp.vc P E ev H R (.bx t x)=bxN H t R (ev x):=rfl
@[go_sem] theorem svc_bs (t n:Nat) (z:List Value) (ps:List (Nat × Nat × O)):SOp.vc P E ev H R (.bs t n z ps)=bsN H t n z R (partsE ev ps):=rfl
@[go_sem] theorem svc_ap (t tx:Nat) (s x:O):SOp.vc P E ev H R (.ap t tx s x)=apN P t tx H R (ev s) (ev x):=rfl
@[go_sem] theorem svc_call (f:Nat) (args:List O):SOp.vc P E ev H R (.call f args)=callN P E f H R (evs ev args):=rfl
@[go_sem] theorem svc_cv (f:O) (args:List O):SOp.vc P E ev H R (.cv f args)=cvN P E H R (ev f) (evs ev args):=rfl
@[go_sem] theorem svc_b2s (x:O):SOp.vc P E ev H R (.b2s x)=rdN H R (b2sN H (ev x)):=rfl
@[go_sem] theorem svc_pnc (x:O):SOp.vc P E ev H R (.pnc x)=pncN E H (ev x):=rfl
@[go_sem] theorem pncN_some (t:Nat) (v:Value):pncN E H (some (.iface t v))=E [{ v:=.iface t v,recovered:=false }] H:=rfl
@[go_sem] theorem svc_mks (x:O):SOp.vc P E ev H R (.mks x)=mksN H R (ev x):=rfl
@[go_sem] theorem mksN_some (a:Addr) (n c:Nat):mksN H R (some (.slice (some a) n c))=Mks H a (R (.slice (some a) n c)):=rfl
@[go_sem] theorem vN_some (p:Prop) (v:Value):vN H R (some (p,v))=(p∧R v H):=rfl
@[go_sem] theorem rdN_some (v:Value):rdN H R (some v)=R v H:=rfl
@[go_sem] theorem stN_some (n:Nat) (a:Addr) (v:Value):stN H n R (some (.pointer (some a))) (some v)=(v.cells.size=n∧Sto H a v.cells.toList 0 (R undef)):=rfl
@[go_sem] theorem bxN_some (t:Nat) (v:Value):bxN H t R (some v)=NewP H t v.cells.toList R:=rfl
def bs2N (H:Heap) (t n:Nat) (R:Value→Heap→Prop):Option (List Value)→Prop
 | some cs=>NewS H t n cs R
 | none=>False
@[go_sem] theorem bs2N_some (t n:Nat) (cs:List Value):bs2N H t n R (some cs)=NewS H t n cs R:=rfl
@[go_sem] theorem bsN_some (t n:Nat) (z:List Value) (ps:List (Nat × Nat × Value)):bsN H t n z R (some ps)=bs2N H t n R (fillV z ps):=by
  simp only [bsN,bs2N]; cases fillV z ps <;> rfl
@[go_sem] theorem apN_some (t tx:Nat) (s x:Value):apN P t tx H R (some s) (some x)=App P t tx t H s x R:=rfl
@[go_sem] theorem callN_some (f:Nat) (vs:List Value):callN P E f H R (some vs)=PCalls P f vs.toArray H R E:=rfl
@[go_sem] theorem cvN_some (f:Nat) (first cap:Array Value) (vs:List Value):cvN P E H R (some (.func (.func f) first cap)) (some vs)=(hasBody P f=true∧PCalls P f (first ++ vs.toArray ++ cap) H R E):=rfl
@[go_sem] theorem ldN_some (sz:Option Nat) (a:Addr):ldN H sz (some (.pointer (some a)))=ldV H sz a:=rfl
@[go_sem] theorem ldV_one (a:Addr):ldV H none a=cellAt H a:=rfl
end
def aggN:Option (List Value)→Option Value
 | some vs=>some (.agg vs.toArray)
 | none=>none
@[go_sem] theorem aggN_some (vs:List Value):aggN (some vs)=some (.agg vs.toArray):=rfl
@[go_sem] theorem ldV_agg (n:Nat) (a:Addr):ldV H (some n) a=aggN (cellsFrom H a 0 n):=by
  simp only [ldV]; cases cellsFrom H a 0 n <;> rfl
def consN:Option Value→Option (List Value)→Option (List Value)
 | some v,some vs=>some (v :: vs)
 | _,_=>none
@[go_sem] theorem consN_some (v:Value) (vs:List Value):consN (some v) (some vs)=some (v :: vs):=rfl
@[go_sem] theorem cellsFrom_zero (a:Addr) (i:Nat):cellsFrom H a i 0=some []:=rfl
@[go_sem] theorem cellsFrom_succ (a:Addr) (i n:Nat):cellsFrom H a i (n + 1)=consN (cellAt H (a.add i)) (cellsFrom H a (i + 1) n):=by
  simp only [cellsFrom,consN]; cases cellAt H (a.add i) <;> cases cellsFrom H a (i + 1) n <;> rfl
@[go_sem] theorem evO_t (k:Nat):evO σ τ (.t k)=τ.toArray[k]?:=rfl
@[go_sem] theorem evO_s (k:Nat):evO σ τ (.s k)=jn (σ.toArray[k]?):=rfl
@[go_sem] theorem evO_c (v:Value):evO σ τ (.c v)=some v:=rfl
@[go_sem] theorem evO_f (f:Nat):evO σ τ (.f f)=some (.func (.func f) #[] #[]):=rfl
@[go_sem] theorem jn_some (x:Option Value):jn (some x)=x:=rfl
@[go_sem] theorem evs_nil {O:Type} (ev:O→Option Value):evs ev []=some []:=rfl
@[go_sem] theorem evs_cons {O:Type} (ev:O→Option Value) (x:O) (r:List O):evs ev (x :: r)=consN (ev x) (evs ev r):=by
  simp only [evs,consN]; cases ev x <;> cases evs ev r <;> rfl
def part3 (o s:Nat):Option Value→Option (List (Nat × Nat × Value))→Option (List (Nat × Nat × Value))
 | some v,some r=>some ((o,s,v) :: r)
 | _,_=>none
@[go_sem] theorem part3_some (o s:Nat) (v:Value) (r:List (Nat × Nat × Value)):part3 o s (some v) (some r)=some ((o,s,v) :: r):=rfl
@[go_sem] theorem parts_nil {O:Type} (ev:O→Option Value):partsE ev []=some []:=rfl
@[go_sem] theorem parts_cons {O:Type} (ev:O→Option Value) (o s:Nat) (x:O) (r:List (Nat × Nat × O)):partsE ev ((o,s,x) :: r)=part3 o s (ev x) (partsE ev r):=by
  simp only [partsE,part3]; cases ev x <;> cases partsE ev r <;> rfl
def bndN:Option Value→Option (Option Int)
 | some (.int _ n)=>some (some n)
 | _=>none
@[go_sem] theorem bndN_some (k:IntKind) (n:Int):bndN (some (.int k n))=some (some n):=rfl
@[go_sem] theorem bnd_none' {O:Type} (ev:O→Option Value):bnd ev none=some none:=rfl
@[go_sem] theorem bnd_some' {O:Type} (ev:O→Option Value) (x:O):bnd ev (some x)=bndN (ev x):=by
  simp only [bnd,bndN]
  cases ev x with
  | none=>rfl
  | some v=>cases v <;> rfl
@[go_sem] theorem get_cons (i t:Nat) (v:Value) (r:Env):Env.get ((i,v) :: r) t=if i=t then some v else Env.get r t:=rfl
@[go_sem] theorem get_nil (t:Nat):Env.get [] t=none:=rfl
@[go_sem] theorem mkS_nil (E:Env):mkS [] E=[]:=rfl
@[go_sem] theorem mkS_cons (t:Nat) (r:List Nat) (E:Env):mkS (t :: r) E=Env.get E t :: mkS r E:=rfl
@[go_sem] theorem lookS_cons (k t:Nat) (ks:List Nat) (s:Option Value) (ss:Slots):lookS (k :: ks) (s :: ss) t=if k=t then s else lookS ks ss t:=rfl
@[go_sem] theorem knowsK_nil (keep:List Nat):knowsK keep σ []=True:=rfl
@[go_sem] theorem knowsK_cons (keep:List Nat) (t:Nat) (v:Value) (r:Env):knowsK keep σ ((t,v) :: r)=(lookS keep σ t=some v∧knowsK keep σ r):=rfl
@[go_sem] theorem argS_nil (vs:List Value):argS [] vs=[]:=rfl
@[go_sem] theorem argS_cons (t:Nat) (r:List Nat) (vs:List Value):argS (t :: r) vs=argV vs.toArray[t]? :: argS r vs:=rfl
@[go_sem] theorem argV_some (v:Value):argV (some v)=some v:=rfl
attribute [go_sem] PE.val mvN pickN binN beqN steqN negN stEq leafEq andB isnilN isnilsN unN cviN cvsN faN ixN ixaN sixN slN sslN lenN slenN fld1N fldAN extN mmN ncN mkfN mkiN isnilfN tyaN tybN bldN binV intV strV unV slV sslV fillV SOp.rd resV RV.val finN finQ
attribute [go_sem] List.elem_cons List.elem_nil
@[go_sem] theorem inPush_some' (p:Prop) (v:Value):inPush (some (p,v)) τ=some (p,v :: τ):=rfl
def andN (p:Prop):Option (Prop × List Value)→Option (Prop × List Value)
 | some (q,e)=>some (p∧q,e)
 | none=>none
@[go_sem] theorem andN_some (p q:Prop) (e:List Value):andN p (some (q,e))=some (p∧q,e):=rfl
@[go_sem] theorem innerE_nil:innerE H σ [] τ=some (True,τ):=by simp [innerE]
def inNext (H:Heap) (σ:Slots) (r:List In):Option (Prop × List Value)→Option (Prop × List Value)
 | some (p,τ')=>andN p (innerE H σ r τ')
 | none=>none
@[go_sem] theorem inNext_some (r:List In) (p:Prop) (τ':List Value):inNext H σ r (some (p,τ'))=andN p (innerE H σ r τ'):=rfl
@[go_sem] theorem innerE_cons (i:In) (r:List In):innerE H σ (i :: r) τ=inNext H σ r (inE H σ i τ):=by
  simp only [innerE,inThen,inNext]
  cases inE H σ i τ with
  | none=>rfl
  | some x=>
    obtain ⟨p,τ'⟩:=x
    simp only [andN]
    cases innerE H σ r τ' with
    | none=>rfl
    | some y=>rfl
@[go_sem] theorem inE_op (s:SOp Opd):inE H σ (.op s) τ=inPush (s.rd (evO σ τ) H) τ:=by simp only [inE]
@[go_sem] theorem inE_nst (t:Opd) (b:Bool) (inner:List In) (x y:Opd):inE H σ (.nst t b inner x y) τ=inPush (selV σ τ t b x y (innerE H σ inner τ)) τ:=by simp only [inE]
attribute [go_sem] selV selN
attribute [go_sem] true_and and_true true_imp_iff false_imp_iff implies_true forall_const
end
theorem vc_loop {P:Program} {Ec:Chain→Heap→Prop} {α:Type} {keep:List Nat} {σ:Slots} {H:Heap} {Q:Post} {c:SCode} (I:α→Heap→Prop) (E:α→Env) (μ:α→Nat) (x₀:α) (h₀:I x₀ H) (hk:knowsK keep σ (E x₀))
 (round:∀ x H,I x H→vc P Ec c (mkS keep (E x)) H (seqK (loopK keep I E μ x) Q)):vc P Ec (.loop keep c) σ H Q:=
 ⟨α,I,E,μ,x₀,h₀,hk,round⟩
theorem loopK_intro {α:Type} {keep:List Nat} {I:α→Heap→Prop} {E:α→Env} {μ:α→Nat} {x:α} {σ:Slots} {H:Heap} (y:α) (h1:μ y < μ x) (h2:knowsK keep σ (E y)) (h3:I y H):loopK keep I E μ x σ H:=⟨y,h1,h2,h3⟩
end Gx
