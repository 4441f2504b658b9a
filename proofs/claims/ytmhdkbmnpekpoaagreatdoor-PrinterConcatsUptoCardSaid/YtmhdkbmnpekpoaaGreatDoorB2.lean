import Derived.Test.YtmhdkbmnpekpoaaGreatDoorB1
import Derived.Deep.AppendSrc
import Derived.Test.YtmhdkbmnpekpoaaGreatDoorProg
import Derived.Carry
import Derived.OpenShut
import Derived.Handed
import Derived.Shelf.Strings.Builder1
import Derived.Shelf.Strconv.Itoa0
import Derived.Shelf.Strconv.Itoa1
import Derived.Shelf.LaysM
import Derived.Shelf.Strconv.Itoa2
import Derived.Shelf.Strconv.Itoa3
import Derived.Shelf.Strconv.Itoa4
import Derived.Shelf.Strconv.ParseIntEmpty
import Derived.Shelf.Strconv.Clone
import Derived.Shelf.Strconv.SyntaxError
import Derived.Shelf.LaysC
import Derived.Shelf.Strconv.ToError
import Derived.Shelf.Strconv.Lower
import Derived.Shelf.Strconv.ParseUint10
import Derived.Shelf.Strconv.ParseUint10Empty
import Derived.Shelf.Strconv.ParseUint10Any
import Derived.Shelf.Strconv.ParseInt10
import Derived.Shelf.Strconv.RangeError
import Derived.Shelf.Strconv.ToErrorRange
import Derived.Shelf.Strconv.ParseUintEmpty
import Derived.Shelf.Strconv.ParseUint10b64
import Derived.Shelf.Strconv.ParseUint10b32
import Derived.Shelf.Strconv.ParseUint10b16
import Derived.Shelf.Strconv.ParseUint10b8
import Derived.Shelf.Strconv.ParseUint10At
import Derived.Shelf.Strconv.ParseInt10At64
import Derived.Shelf.Strconv.ParseInt10At32
import Derived.Shelf.Strconv.ParseInt10At16
import Derived.Shelf.Strconv.ParseInt10At8
import Derived.Shelf.Strconv.ParseInt10All
import Derived.Shelf.Strconv.ParseIntPublic10
import Derived.Recover
section
namespace Gx
open Go
def vcK (P:Program) (E:Chain→Heap→Prop) (b:SCode) (Q:Post):Slots→Heap→Prop:=fun σ H=>vc P E b σ H Q
def retK (P:Program) (E:Chain→Heap→Prop) (d:Dst) (r:List GOp) (σ:Slots) (τ:List Value) (K:Slots→Heap→Prop):Value→Heap→Prop:=
 fun v H'=>vcOps P E r (putS d v σ) (putT d v τ) H' K
def gdN (P:Program) (E:Chain→Heap→Prop) (t:Opd) (b fr:Bool) (d:Dst) (s:SOp Opd) (r:List GOp) (σ:Slots) (τ:List Value) (H:Heap) (K:Slots→Heap→Prop):Option (Option Bool)→Prop
 | some (some c)=>(c=b→s.vc P E (evO (gS fr t (.bool b) σ) (gT fr t (.bool b) τ)) H (retK P E d r (gS fr t (.bool b) σ) (gT fr t (.bool b) τ) K))∧
  (c=(!b)→vcOps P E r (putS d undef (gS fr t (.bool (!b)) σ)) (putT d undef (gT fr t (.bool (!b)) τ)) H K)
 | some none=>vcOps P E r (putS d undef σ) (putT d undef τ) H K
 | none=>False
def rdD (P:Program) (E:Chain→Heap→Prop) (next:DT) (d:Dst) (s:SOp Opd) (D:List Nat) (pend:Pend) (σ:Slots) (τ:List Value) (H:Heap) (K:Slots→Heap→Prop):Option (Prop × Value)→Prop
 | some (p,v)=>p∧vcD P E next (s.held (evO σ τ) D v pend) (putS d v σ) (putT d v τ) H K
 | none=>False
def efK (P:Program) (E:Chain→Heap→Prop) (next:DT) (d:Dst) (pend:Pend) (σ:Slots) (τ:List Value) (K:Slots→Heap→Prop):Value→Heap→Prop:=
 fun v H'=>pendOk H' pend∧vcD P E next pend (putS d v σ) (putT d v τ) H' K
def gdRd (P:Program) (E:Chain→Heap→Prop) (t:Opd) (b:Bool) (next:DT) (d:Dst) (s:SOp Opd) (D:List Nat) (pend:Pend) (σ:Slots) (τ:List Value) (H:Heap) (K:Slots→Heap→Prop):Option (Option Bool)→Prop
 | some (some c)=>(c=b→rdD P E next d s D pend (setS t (.bool b) σ) (setT t (.bool b) τ) H K (s.rd (evO (setS t (.bool b) σ) (setT t (.bool b) τ)) H))∧
  (c=(!b)→vcD P E next pend (putS d undef (setS t (.bool (!b)) σ)) (putT d undef (setT t (.bool (!b)) τ)) H K)
 | some none=>vcD P E next pend (putS d undef σ) (putT d undef τ) H K
 | none=>False
def gdEf (P:Program) (E:Chain→Heap→Prop) (t:Opd) (b:Bool) (next:DT) (d:Dst) (s:SOp Opd) (pend:Pend) (σ:Slots) (τ:List Value) (H:Heap) (K:Slots→Heap→Prop):Option (Option Bool)→Prop
 | some (some c)=>(c=b→s.vc P E (evO (setS t (.bool b) σ) (setT t (.bool b) τ)) H (efK P E next d pend (setS t (.bool b) σ) (setT t (.bool b) τ) K))∧
  (c=(!b)→vcD P E next pend (putS d undef (setS t (.bool (!b)) σ)) (putT d undef (setT t (.bool (!b)) τ)) H K)
 | some none=>vcD P E next pend (putS d undef σ) (putT d undef τ) H K
 | none=>False
section
variable {P:Program} {E:Chain→Heap→Prop} {σ:Slots} {τ:List Value} {H:Heap} {Q:Post} {K:Slots→Heap→Prop}
@[go_sem] theorem vc_de (t:DT):vc P E (.de t) σ H Q=vcD P E t [] σ [] H (nrmK Q):=rfl
@[go_sem] theorem vcD_done (pend:Pend):vcD P E .done pend σ τ H K=K σ H:=rfl
@[go_sem] theorem vcD_rd (d:Dst) (s:SOp Opd) (D:List Nat) (next:DT) (pend:Pend):vcD P E (.rd none d s D next) pend σ τ H K=rdD P E next d s D pend σ τ H K (s.rd (evO σ τ) H):=by
  simp only [vcD,rdD,rdK]; cases s.rd (evO σ τ) H <;> rfl
@[go_sem] theorem vcD_rdg (t:Opd) (b:Bool) (d:Dst) (s:SOp Opd) (D:List Nat) (next:DT) (pend:Pend):vcD P E (.rd (some (t,b)) d s D next) pend σ τ H K=gdRd P E t b next d s D pend σ τ H K (guardOf (evO σ τ t)):=by
  simp only [vcD,gdRd,rdD,rdK]
  cases guardOf (evO σ τ t) with
  | none=>rfl
  | some x=>
    cases x with
    | none=>rfl
    | some c=>
      simp only
      congr 1
      cases s.rd (evO (setS t (.bool b) σ) (setT t (.bool b) τ)) H <;> rfl
@[go_sem] theorem vcD_ef (i:Nat) (d:Dst) (s:SOp Opd) (next:DT) (pend:Pend):vcD P E (.ef i none d s next) pend σ τ H K=s.vc P E (evO σ τ) H (efK P E next d (pendDrop i pend) σ τ K):=rfl
@[go_sem] theorem vcD_efg (i:Nat) (t:Opd) (b:Bool) (d:Dst) (s:SOp Opd) (next:DT) (pend:Pend):vcD P E (.ef i (some (t,b)) d s next) pend σ τ H K=gdEf P E t b next d s (pendDrop i pend) σ τ H K (guardOf (evO σ τ t)):=by
  simp only [vcD,gdEf]
  cases guardOf (evO σ τ t) with
  | none=>rfl
  | some x=>cases x <;> rfl
@[go_sem] theorem vcD_br (a b:DT) (pend:Pend):vcD P E (.br a b) pend σ τ H K=(vcD P E a pend σ τ H K∧vcD P E b pend σ τ H K):=rfl
@[go_sem] theorem rdD_some (next:DT) (d:Dst) (s:SOp Opd) (D:List Nat) (pend:Pend) (p:Prop) (v:Value):rdD P E next d s D pend σ τ H K (some (p,v))=(p∧vcD P E next (s.held (evO σ τ) D v pend) (putS d v σ) (putT d v τ) H K):=rfl
@[go_sem] theorem efK_app (next:DT) (d:Dst) (pend:Pend) (v:Value) (H':Heap):efK P E next d pend σ τ K v H'=(pendOk H' pend∧vcD P E next pend (putS d v σ) (putT d v τ) H' K):=rfl
@[go_sem 2000] theorem gdRd_hit_true (t:Opd) (next:DT) (d:Dst) (s:SOp Opd) (D:List Nat) (pend:Pend):gdRd P E t true next d s D pend σ τ H K (some (some true))=rdD P E next d s D pend (setS t (.bool true) σ) (setT t (.bool true) τ) H K (s.rd (evO (setS t (.bool true) σ) (setT t (.bool true) τ)) H):=by simp [gdRd]
@[go_sem 2000] theorem gdRd_miss_true (t:Opd) (next:DT) (d:Dst) (s:SOp Opd) (D:List Nat) (pend:Pend):gdRd P E t true next d s D pend σ τ H K (some (some false))=vcD P E next pend (putS d undef (setS t (.bool false) σ)) (putT d undef (setT t (.bool false) τ)) H K:=by simp [gdRd]
@[go_sem 2000] theorem gdEf_hit_true (t:Opd) (next:DT) (d:Dst) (s:SOp Opd) (pend:Pend):gdEf P E t true next d s pend σ τ H K (some (some true))=s.vc P E (evO (setS t (.bool true) σ) (setT t (.bool true) τ)) H (efK P E next d pend (setS t (.bool true) σ) (setT t (.bool true) τ) K):=by simp [gdEf]
@[go_sem 2000] theorem gdEf_miss_true (t:Opd) (next:DT) (d:Dst) (s:SOp Opd) (pend:Pend):gdEf P E t true next d s pend σ τ H K (some (some false))=vcD P E next pend (putS d undef (setS t (.bool false) σ)) (putT d undef (setT t (.bool false) τ)) H K:=by simp [gdEf]
@[go_sem 2000] theorem gdRd_hit_false (t:Opd) (next:DT) (d:Dst) (s:SOp Opd) (D:List Nat) (pend:Pend):gdRd P E t false next d s D pend σ τ H K (some (some false))=rdD P E next d s D pend (setS t (.bool false) σ) (setT t (.bool false) τ) H K (s.rd (evO (setS t (.bool false) σ) (setT t (.bool false) τ)) H):=by simp [gdRd]
@[go_sem 2000] theorem gdRd_miss_false (t:Opd) (next:DT) (d:Dst) (s:SOp Opd) (D:List Nat) (pend:Pend):gdRd P E t false next d s D pend σ τ H K (some (some true))=vcD P E next pend (putS d undef (setS t (.bool true) σ)) (putT d undef (setT t (.bool true) τ)) H K:=by simp [gdRd]
@[go_sem 2000] theorem gdEf_hit_false (t:Opd) (next:DT) (d:Dst) (s:SOp Opd) (pend:Pend):gdEf P E t false next d s pend σ τ H K (some (some false))=s.vc P E (evO (setS t (.bool false) σ) (setT t (.bool false) τ)) H (efK P E next d pend (setS t (.bool false) σ) (setT t (.bool false) τ) K):=by simp [gdEf]
@[go_sem 2000] theorem gdEf_miss_false (t:Opd) (next:DT) (d:Dst) (s:SOp Opd) (pend:Pend):gdEf P E t false next d s pend σ τ H K (some (some true))=vcD P E next pend (putS d undef (setS t (.bool true) σ)) (putT d undef (setT t (.bool true) τ)) H K:=by simp [gdEf]
@[go_sem] theorem pendOk_nil:pendOk H []=True:=rfl
@[go_sem] theorem pendOk_cons (D:List Nat) (h:Held) (r:Pend):pendOk H ((D,h) :: r)=(h.ok H∧pendOk H r):=rfl
@[go_sem] theorem pendDrop_nil (i:Nat):pendDrop i []=[]:=rfl
@[go_sem] theorem pendDrop_cons (i:Nat) (D:List Nat) (h:Held) (r:Pend):pendDrop i ((D,h) :: r)=if D.elem i then pendDrop i r else (D,h) :: pendDrop i r:=rfl
@[go_sem] theorem held_ok_ld (sz:Option Nat) (a:Addr) (v:Value):(Held.ld sz a v).ok H=(ldV H sz a=some v):=rfl
attribute [go_sem] SOp.held
@[go_sem] theorem vc_skip:vc P E .skip σ H Q=Q .nrm σ H:=rfl
@[go_sem] theorem vc_ops (l:List GOp):vc P E (.ops l) σ H Q=vcOps P E l σ [] H (nrmK Q):=rfl
@[go_sem] theorem vc_dq (l:List GOp):vc P E (.dq l) σ H Q=vcOps P E l σ [] H (nrmK Q):=rfl
@[go_sem] theorem vc_seq (a b:SCode):vc P E (.seq a b) σ H Q=vc P E a σ H (seqK (vcK P E b Q) Q):=rfl
@[go_sem] theorem vc_cond (c:Opd) (a b:SCode):vc P E (.cond c a b) σ H Q=condN (vc P E a σ H Q) (vc P E b σ H Q) (evO σ [] c):=rfl
@[go_sem] theorem vc_block (id:Nat) (c:SCode):vc P E (.block id c) σ H Q=vc P E c σ H (blockK id Q):=rfl
@[go_sem] theorem vc_exit (i:Nat):vc P E (.exit i) σ H Q=Q (.ext i) σ H:=rfl
@[go_sem] theorem vc_ret:vc P E .ret σ H Q=Q .ret σ H:=rfl
@[go_sem] theorem vcK_app (b:SCode):vcK P E b Q σ H=vc P E b σ H Q:=rfl
@[go_sem] theorem nrmK_app:nrmK Q σ H=Q .nrm σ H:=rfl
@[go_sem] theorem seqK_nrm (F:Slots→Heap→Prop):seqK F Q .nrm σ H=F σ H:=rfl
@[go_sem] theorem seqK_ext (F:Slots→Heap→Prop) (i:Nat):seqK F Q (.ext i) σ H=Q (.ext i) σ H:=rfl
@[go_sem] theorem seqK_ret (F:Slots→Heap→Prop):seqK F Q .ret σ H=Q .ret σ H:=rfl
@[go_sem] theorem blockK_nrm (i:Nat):blockK i Q .nrm σ H=Q .nrm σ H:=rfl
@[go_sem] theorem blockK_same (i:Nat):blockK i Q (.ext i) σ H=Q .nrm σ H:=if_pos rfl
@[go_sem] theorem blockK_ret (i:Nat):blockK i Q .ret σ H=Q .ret σ H:=rfl
@[go_sem 2000] theorem condN_true (A B:Prop):condN A B (some (.bool true))=A:=by simp [condN]
@[go_sem 2000] theorem condN_false (A B:Prop):condN A B (some (.bool false))=B:=by simp [condN]
@[go_sem] theorem condN_bool (A B:Prop) (t:Bool):condN A B (some (.bool t))=((t=true→A)∧(t=false→B)):=rfl
@[go_sem] theorem vcOps_nil:vcOps P E [] σ τ H K=K σ H:=rfl
@[go_sem] theorem vcOps_op (d:Dst) (s:SOp Opd) (r:List GOp):vcOps P E (.op none d s :: r) σ τ H K=s.vc P E (evO σ τ) H (retK P E d r σ τ K):=rfl
@[go_sem] theorem vcOps_gd (t:Opd) (b fr:Bool) (d:Dst) (s:SOp Opd) (r:List GOp):vcOps P E (.op (some (t,b,fr)) d s :: r) σ τ H K=gdN P E t b fr d s r σ τ H K (guardOf (evO σ τ t)):=by
  simp only [vcOps,gdN]
  cases guardOf (evO σ τ t) with
  | none=>rfl
  | some x=>cases x <;> rfl
@[go_sem] theorem vcOps_sel (t:Opd) (b:Bool) (inner:List In) (d:Dst) (x y:Opd) (r:List GOp) :
 vcOps P E (.sel t b inner d x y :: r) σ τ H K=vN H (retK P E d r σ τ K) (selV σ τ t b x y (innerE H σ inner τ)):=rfl
@[go_sem] theorem retK_app (d:Dst) (r:List GOp) (v:Value) (H':Heap):retK P E d r σ τ K v H'=vcOps P E r (putS d v σ) (putT d v τ) H' K:=rfl
@[go_sem] theorem putS_no (v:Value):putS .no v σ=σ:=rfl
@[go_sem] theorem putS_t (v:Value):putS .t v σ=σ:=rfl
@[go_sem] theorem putS_s (k:Nat) (v:Value):putS (.s k) v σ=σ.set k (some v):=rfl
@[go_sem] theorem putT_no (v:Value):putT .no v τ=τ:=rfl
@[go_sem] theorem putT_t (v:Value):putT .t v τ=v :: τ:=rfl
@[go_sem] theorem putT_s (k:Nat) (v:Value):putT (.s k) v τ=τ:=rfl
@[go_sem] theorem setS_t (k:Nat) (v:Value):setS (.t k) v σ=σ:=rfl
@[go_sem] theorem setT_t (k:Nat) (v:Value):setT (.t k) v τ=τ.set k v:=rfl
@[go_sem] theorem gS_true (x:Opd) (v:Value):gS true x v σ=setS x v σ:=rfl
@[go_sem] theorem gS_false (x:Opd) (v:Value):gS false x v σ=σ:=rfl
@[go_sem] theorem gT_true (x:Opd) (v:Value):gT true x v τ=setT x v τ:=rfl
@[go_sem] theorem gT_false (x:Opd) (v:Value):gT false x v τ=τ:=rfl
@[go_sem 2000] theorem gdN_hit_true (t:Opd) (fr:Bool) (d:Dst) (s:SOp Opd) (r:List GOp):gdN P E t true fr d s r σ τ H K (some (some true))=s.vc P E (evO (gS fr t (.bool true) σ) (gT fr t (.bool true) τ)) H (retK P E d r (gS fr t (.bool true) σ) (gT fr t (.bool true) τ) K):=by simp [gdN]
@[go_sem 2000] theorem gdN_miss_true (t:Opd) (fr:Bool) (d:Dst) (s:SOp Opd) (r:List GOp):gdN P E t true fr d s r σ τ H K (some (some false))=vcOps P E r (putS d undef (gS fr t (.bool false) σ)) (putT d undef (gT fr t (.bool false) τ)) H K:=by simp [gdN]
@[go_sem 2000] theorem gdN_hit_false (t:Opd) (fr:Bool) (d:Dst) (s:SOp Opd) (r:List GOp):gdN P E t false fr d s r σ τ H K (some (some false))=s.vc P E (evO (gS fr t (.bool false) σ) (gT fr t (.bool false) τ)) H (retK P E d r (gS fr t (.bool false) σ) (gT fr t (.bool false) τ) K):=by simp [gdN]
@[go_sem 2000] theorem gdN_miss_false (t:Opd) (fr:Bool) (d:Dst) (s:SOp Opd) (r:List GOp):gdN P E t false fr d s r σ τ H K (some (some true))=vcOps P E r (putS d undef (gS fr t (.bool true) σ)) (putT d undef (gT fr t (.bool true) τ)) H K:=by simp [gdN]
@[go_sem] theorem guardOf_b (c:Bool):guardOf (some (.bool c))=some (some c):=rfl
attribute [go_sem] undef
section
variable {R:Value→Heap→Prop} {O:Type} {ev:O→Option Value}
@[go_sem] theorem svc_v (e:PE O):SOp.vc P E ev H R (.v e)=vN H R (e.val ev):=rfl
@[go_sem] theorem svc_ld (sz:Option Nat) (x:O):SOp.vc P E ev H R (.ld sz x)=rdN H R (ldN H sz (ev x)):=rfl
@[go_sem] theorem svc_st (n:Nat) (a x:O):SOp.vc P E ev H R (.st n a x)=stN H n R (ev a) (ev x):=rfl
@[go_sem] theorem svc_al (t:Nat) (z:List Value):SOp.vc P E ev H R (.al t z)=NewP H t z R:=rfl
@[go_sem] theorem svc_bx (t:Nat) (x:O):SOp.vc P E ev H R (.bx t x)=bxN H t R (ev x):=rfl
@[go_sem] theorem svc_bs (t n:Nat) (z:List Value) (ps:List (Nat × Nat × O)):SOp.vc P E ev H R (.bs t n z ps)=bsN H t n z R (partsE ev ps):=rfl
@[go_sem] theorem svc_ap (t tx:Nat) (s x:O):SOp.vc P E ev H R (.ap t tx s x)=apN P t tx H R (ev s) (ev x):=rfl
@[go_sem] theorem svc_call (f:Nat) (args:List O):SOp.vc P E ev H R (.call f args)=callN P E f H R (evs ev args):=rfl
@[go_sem] theorem svc_cv (f:O) (args:List O):SOp.vc P E ev H R (.cv f args)=cvN P E H R (ev f) (evs ev args):=rfl
@[go_sem] theorem svc_pnc (x:O):SOp.vc P E ev H R (.pnc x)=pncN E H (ev x):=rfl
@[go_sem] theorem pncN_some (t:Nat) (v:Value):pncN E H (some (.iface t v))=E [{ v:=.iface t v,recovered:=false }] H:=rfl
@[go_sem] theorem svc_mm:SOp.vc P E ev H R .mm=NewM H R:=rfl
@[go_sem] theorem svc_ins (m k x:O):SOp.vc P E ev H R (.ins m k x)=insN H R (ev m) (ev k) (ev x):=rfl
@[go_sem] theorem insN_some (r:Nat) (s:ByteArray) (v:Value):insN H R (some (.map (some r))) (some (.string s)) (some v)=InsM H r s v (R undef):=rfl
@[go_sem] theorem svc_lkp (z:Value) (m k:O):SOp.vc P E ev H R (.lkp z m k)=lkpN H z R (ev m) (ev k):=rfl
@[go_sem] theorem lkpN_some (z:Value) (r:Nat) (s:ByteArray):lkpN H z R (some (.map (some r))) (some (.string s))=LkpM H z r s (fun v=>R v H):=rfl
@[go_sem] theorem svc_ini (kd:IntKind) (m k x:O):SOp.vc P E ev H R (.ini kd m k x)=iniN H kd R (ev m) (ev k) (ev x):=rfl
@[go_sem] theorem iniN_some (kd:IntKind) (r:Nat) (s:Int) (v:Value):iniN H kd R (some (.map (some r))) (some (.int kd s)) (some v)=InsI H r kd s v (R undef):=by simp [iniN]
@[go_sem] theorem svc_lki (kd:IntKind) (z:Value) (m k:O):SOp.vc P E ev H R (.lki kd z m k)=lkiN H kd z R (ev m) (ev k):=rfl
@[go_sem] theorem lkiN_some (kd:IntKind) (z:Value) (r:Nat) (s:Int):lkiN H kd z R (some (.map (some r))) (some (.int kd s))=LkpI H z r kd s (fun v=>R v H):=by simp [lkiN]
@[go_sem] theorem vN_some (p:Prop) (v:Value):vN H R (some (p,v))=(p∧R v H):=rfl
@[go_sem] theorem rdN_some (v:Value):rdN H R (some v)=R v H:=rfl
@[go_sem] theorem stN_some (n:Nat) (a:Addr) (v:Value):stN H n R (some (.pointer (some a))) (some v)=(v.cells.size=n∧Sto H a v.cells.toList 0 (R undef)):=rfl
@[go_sem] theorem bxN_some (t:Nat) (v:Value):bxN H t R (some v)=NewP H t v.cells.toList R:=rfl
def bs2N (H:Heap) (t n:Nat) (R:Value→Heap→Prop):Option (List Value)→Prop
 | some cs=>NewS H t n cs R
 | none=>False
@[go_sem] theorem bs2N_some (t n:Nat) (cs:List Value):bs2N H t n R (some cs)=NewS H t n cs R:=rfl
@[go_sem] theorem bsN_some (t n:Nat) (z:List Value) (ps:List (Nat × Nat × Value)):bsN H t n z R (some ps)=bs2N H t n R (fillV z ps):=by
  simp only [bsN,bs2N]; cases fillV z ps <;> rfl
@[go_sem] theorem apN_some (t tx:Nat) (s x:Value):apN P t tx H R (some s) (some x)=App P t tx t H s x R:=rfl
@[go_sem] theorem callN_some (f:Nat) (vs:List Value):callN P E f H R (some vs)=PCalls P f vs.toArray H R E:=rfl
@[go_sem] theorem cvN_some (f:Nat) (first cap:Array Value) (vs:List Value):cvN P E H R (some (.func (.func f) first cap)) (some vs)=(hasBody P f=true∧PCalls P f (first ++ vs.toArray ++ cap) H R E):=rfl
@[go_sem] theorem ldN_some (sz:Option Nat) (a:Addr):ldN H sz (some (.pointer (some a)))=ldV H sz a:=rfl
@[go_sem] theorem ldV_one (a:Addr):ldV H none a=cellAt H a:=rfl
end
def aggN:Option (List Value)→Option Value
 | some vs=>some (.agg vs.toArray)
 | none=>none
@[go_sem] theorem aggN_some (vs:List Value):aggN (some vs)=some (.agg vs.toArray):=rfl
@[go_sem] theorem ldV_agg (n:Nat) (a:Addr):ldV H (some n) a=aggN (cellsFrom H a 0 n):=by
  simp only [ldV]; cases cellsFrom H a 0 n <;> rfl
def consN:Option Value→Option (List Value)→Option (List Value)
 | some v,some vs=>some (v :: vs)
 | _,_=>none
@[go_sem] theorem consN_some (v:Value) (vs:List Value):consN (some v) (some vs)=some (v :: vs):=rfl
@[go_sem] theorem cellsFrom_zero (a:Addr) (i:Nat):cellsFrom H a i 0=some []:=rfl
@[go_sem] theorem cellsFrom_succ (a:Addr) (i n:Nat):cellsFrom H a i (n + 1)=consN (cellAt H (a.add i)) (cellsFrom H a (i + 1) n):=by
  simp only [cellsFrom,consN]; cases cellAt H (a.add i) <;> cases cellsFrom H a (i + 1) n <;> rfl
@[go_sem] theorem evO_t (k:Nat):evO σ τ (.t k)=τ.toArray[k]?:=rfl
@[go_sem] theorem evO_s (k:Nat):evO σ τ (.s k)=jn (σ.toArray[k]?):=rfl
@[go_sem] theorem evO_c (v:Value):evO σ τ (.c v)=some v:=rfl
@[go_sem] theorem evO_f (f:Nat):evO σ τ (.f f)=some (.func (.func f) #[] #[]):=rfl
@[go_sem] theorem jn_some (x:Option Value):jn (some x)=x:=rfl
@[go_sem] theorem evs_nil {O:Type} (ev:O→Option Value):evs ev []=some []:=rfl
@[go_sem] theorem evs_cons {O:Type} (ev:O→Option Value) (x:O) (r:List O):evs ev (x :: r)=consN (ev x) (evs ev r):=by
  simp only [evs,consN]; cases ev x <;> cases evs ev r <;> rfl
def part3 (o s:Nat):Option Value→Option (List (Nat × Nat × Value))→Option (List (Nat × Nat × Value))
 | some v,some r=>some ((o,s,v) :: r)
 | _,_=>none
@[go_sem] theorem part3_some (o s:Nat) (v:Value) (r:List (Nat × Nat × Value)):part3 o s (some v) (some r)=some ((o,s,v) :: r):=rfl
@[go_sem] theorem parts_nil {O:Type} (ev:O→Option Value):partsE ev []=some []:=rfl
@[go_sem] theorem parts_cons {O:Type} (ev:O→Option Value) (o s:Nat) (x:O) (r:List (Nat × Nat × O)):partsE ev ((o,s,x) :: r)=part3 o s (ev x) (partsE ev r):=by
  simp only [partsE,part3]; cases ev x <;> cases partsE ev r <;> rfl
def bndN:Option Value→Option (Option Int)
 | some (.int _ n)=>some (some n)
 | _=>none
@[go_sem] theorem bndN_some (k:IntKind) (n:Int):bndN (some (.int k n))=some (some n):=rfl
@[go_sem] theorem bnd_none' {O:Type} (ev:O→Option Value):bnd ev none=some none:=rfl
@[go_sem] theorem bnd_some' {O:Type} (ev:O→Option Value) (x:O):bnd ev (some x)=bndN (ev x):=by
  simp only [bnd,bndN]
  cases ev x with
  | none=>rfl
  | some v=>cases v <;> rfl
@[go_sem] theorem get_cons (i t:Nat) (v:Value) (r:Env):Env.get ((i,v) :: r) t=if i=t then some v else Env.get r t:=rfl
@[go_sem] theorem get_nil (t:Nat):Env.get [] t=none:=rfl
@[go_sem] theorem mkS_nil (E:Env):mkS [] E=[]:=rfl
@[go_sem] theorem mkS_cons (t:Nat) (r:List Nat) (E:Env):mkS (t :: r) E=Env.get E t :: mkS r E:=rfl
@[go_sem] theorem lookS_cons (k t:Nat) (ks:List Nat) (s:Option Value) (ss:Slots):lookS (k :: ks) (s :: ss) t=if k=t then s else lookS ks ss t:=rfl
@[go_sem] theorem knowsK_nil (keep:List Nat):knowsK keep σ []=True:=rfl
@[go_sem] theorem knowsK_cons (keep:List Nat) (t:Nat) (v:Value) (r:Env):knowsK keep σ ((t,v) :: r)=(lookS keep σ t=some v∧knowsK keep σ r):=rfl
@[go_sem] theorem argS_nil (vs:List Value):argS [] vs=[]:=rfl
@[go_sem] theorem argS_cons (t:Nat) (r:List Nat) (vs:List Value):argS (t :: r) vs=argV vs.toArray[t]? :: argS r vs:=rfl
@[go_sem] theorem argV_some (v:Value):argV (some v)=some v:=rfl
attribute [go_sem] PE.val mvN pickN binN beqN steqN negN stEq leafEq andB isnilN isnilsN unN cviN cvsN faN ixN ixaN ixeN sixN slN sslN lenN slenN fld1N fldAN extN mmN ncN mkfN mkiN isnilfN tyaN tybN bldN binV intV strV unV slV sslV fillV SOp.rd resV RV.val finN finQ
attribute [go_sem] List.elem_cons List.elem_nil
@[go_sem] theorem inPush_some' (p:Prop) (v:Value):inPush (some (p,v)) τ=some (p,v :: τ):=rfl
def andN (p:Prop):Option (Prop × List Value)→Option (Prop × List Value)
 | some (q,e)=>some (p∧q,e)
 | none=>none
@[go_sem] theorem andN_some (p q:Prop) (e:List Value):andN p (some (q,e))=some (p∧q,e):=rfl
@[go_sem] theorem innerE_nil:innerE H σ [] τ=some (True,τ):=by simp [innerE]
def inNext (H:Heap) (σ:Slots) (r:List In):Option (Prop × List Value)→Option (Prop × List Value)
 | some (p,τ')=>andN p (innerE H σ r τ')
 | none=>none
@[go_sem] theorem inNext_some (r:List In) (p:Prop) (τ':List Value):inNext H σ r (some (p,τ'))=andN p (innerE H σ r τ'):=rfl
@[go_sem] theorem innerE_cons (i:In) (r:List In):innerE H σ (i :: r) τ=inNext H σ r (inE H σ i τ):=by
  simp only [innerE,inThen,inNext]
  cases inE H σ i τ with
  | none=>rfl
  | some x=>
    obtain ⟨p,τ'⟩:=x
    simp only [andN]
    cases innerE H σ r τ' with
    | none=>rfl
    | some y=>rfl
@[go_sem] theorem inE_op (s:SOp Opd):inE H σ (.op s) τ=inPush (s.rd (evO σ τ) H) τ:=by simp only [inE]
@[go_sem] theorem inE_nst (t:Opd) (b:Bool) (inner:List In) (x y:Opd):inE H σ (.nst t b inner x y) τ=inPush (selV σ τ t b x y (innerE H σ inner τ)) τ:=by simp only [inE]
attribute [go_sem] selV selN
attribute [go_sem] true_and and_true true_imp_iff false_imp_iff implies_true forall_const
end
theorem vc_loop {P:Program} {Ec:Chain→Heap→Prop} {α:Type} {keep:List Nat} {σ:Slots} {H:Heap} {Q:Post} {c:SCode} (I:α→Heap→Prop) (E:α→Env) (μ:α→Nat) (x₀:α) (h₀:I x₀ H) (hk:knowsK keep σ (E x₀))
 (round:∀ x H,I x H→vc P Ec c (mkS keep (E x)) H (seqK (loopK keep I E μ x) Q)):vc P Ec (.loop keep c) σ H Q:=
 ⟨α,I,E,μ,x₀,h₀,hk,round⟩
theorem loopK_intro {α:Type} {keep:List Nat} {I:α→Heap→Prop} {E:α→Env} {μ:α→Nat} {x:α} {σ:Slots} {H:Heap} (y:α) (h1:μ y < μ x) (h2:knowsK keep σ (E y)) (h3:I y H):loopK keep I E μ x σ H:=⟨y,h1,h2,h3⟩
end Gx
end
section
namespace Gx
open Go
def cellB (H:Heap) (b o:Nat):Option Value:=
 match H[b]? with
 | some (.cells c _ _)=>c[o]?
 | _=>none
@[go_sem] theorem cellAt_mk (H:Heap) (b o:Nat):cellAt H ⟨b,o,none⟩=cellB H b o:=by
  simp only [cellAt,cellB]; cases H[b]? with
  | none=>rfl
  | some x=>cases x <;> rfl
@[go_sem] theorem add_mk (b o n:Nat):Addr.add ⟨b,o,none⟩ n=⟨b,o + n,none⟩:=Addr.add_lit b o n
def Blk (H:Heap) (b t:Nat) (l:List Value):Prop:=H[b]?=some (.cells l.toArray t (0,0))
theorem Blk.cell {H:Heap} {b t:Nat} {l:List Value} (h:Blk H b t l) (o:Nat):cellB H b o=l[o]?:=by
 unfold Blk at h; simp [cellB,h]
theorem Blk.lt {H:Heap} {b t:Nat} {l:List Value} (h:Blk H b t l):b < H.size:=by
 rcases Nat.lt_or_ge b H.size with h' | h'
 ·exact h'
 ·unfold Blk at h; simp [Array.getElem?_eq_none h'] at h
structure Fr (M:List Nat) (H H':Heap):Prop where
 size:H.size≤H'.size
 same:∀ b,b < H.size→b ∉ M→H'[b]?=H[b]?
theorem Fr.refl (M:List Nat) (H:Heap):Fr M H H:=⟨Nat.le_refl _,fun _ _ _=>rfl⟩
theorem Fr.trans {M:List Nat} {a b c:Heap} (h:Fr M a b) (k:Fr M b c):Fr M a c:=
 ⟨Nat.le_trans h.size k.size,fun i hi hm=>(k.same i (Nat.lt_of_lt_of_le hi h.size) hm).trans (h.same i hi hm)⟩
theorem Fr.mono {M M':List Nat} {H H':Heap} (h:Fr M H H') (hm:∀ b,b ∈ M→b ∈ M'∨H.size≤b):Fr M' H H':=
 ⟨h.size,fun b hb hn=>h.same b hb fun hx=>by rcases hm b hx with h1 | h1; exact hn h1; omega⟩
theorem Fr.trans' {M M':List Nat} {a b c:Heap} (h:Fr M a b) (k:Fr M' b c) (hm:∀ x,x ∈ M'→x ∈ M∨a.size≤x):Fr M a c:=
 ⟨Nat.le_trans h.size k.size,fun i hi hn=>(k.same i (Nat.lt_of_lt_of_le hi h.size) (fun hx=>by rcases hm i hx with h1 | h1; exact hn h1; omega)).trans (h.same i hi hn)⟩
theorem Blk.fr {M:List Nat} {H H':Heap} {b t:Nat} {l:List Value} (h:Blk H b t l) (hf:Fr M H H') (hb:b ∉ M):Blk H' b t l:=by
 have hlt:=h.lt
 unfold Blk at *; rw [hf.same b hlt hb]; exact h
theorem Blk.ext {H H':Heap} {b t:Nat} {l:List Value} (h:Blk H b t l) (hf:Fr [] H H'):Blk H' b t l:=h.fr hf (by simp)
theorem cellB_lt {H:Heap} {b o:Nat} {v:Value} (h:cellB H b o=some v):b < H.size:=by
 rcases Nat.lt_or_ge b H.size with h' | h'
 ·exact h'
 ·simp [cellB,Array.getElem?_eq_none h'] at h
theorem cellB_fr {M:List Nat} {H H':Heap} {b o:Nat} {v:Value} (h:cellB H b o=some v) (hf:Fr M H H') (hb:b ∉ M):cellB H' b o=some v:=by
 have:=hf.same b (cellB_lt h) hb
 unfold cellB at *; rw [this]; exact h
theorem fr_push (M:List Nat) (H:Heap) (o:Obj):Fr M H (H.push o):=
 ⟨by simp,fun b hb _=>by rw [Array.getElem?_push]; simp [show b≠H.size by omega]⟩
theorem NewP_intro {H:Heap} {t:Nat} {cs:List Value} {R:Value→Heap→Prop} (h:∀ H',Blk H' H.size t cs→Fr [] H H'→H'.size=H.size + 1→R (.pointer (some ⟨H.size,0,none⟩)) H'):NewP H t cs R:=
 h _ (by simp [Blk]) (fr_push _ _ _) (by simp)
theorem NewS_intro {H:Heap} {t n:Nat} {cs:List Value} {R:Value→Heap→Prop} (h:∀ H',Blk H' H.size t cs→Fr [] H H'→H'.size=H.size + 1→R (.slice (some ⟨H.size,0,none⟩) n n) H'):NewS H t n cs R:=
 h _ (by simp [Blk]) (fr_push _ _ _) (by simp)
theorem Blk.set {H:Heap} {b t:Nat} {l:List Value} (h:Blk H b t l) (o:Nat) (v:Value):Blk (setCellH H ⟨b,o,none⟩ v) b t (l.set o v):=by
 have hlt:=h.lt
 unfold Blk at *
 have h':H[b]= .cells l.toArray t (0,0):=by simpa [Array.getElem?_eq_getElem hlt] using h
 simp only [setCellH]
 rw [Array.getElem?_eq_getElem (by simpa using hlt),Array.getElem_modify_self,h']
 simp
theorem fr_set (H:Heap) (b o:Nat) (v:Value):Fr [b] H (setCellH H ⟨b,o,none⟩ v):=
 ⟨by simp [setCellH],fun k _ hk=>by simp only [setCellH,Array.getElem?_modify]; rw [if_neg (by simp at hk; omega)]⟩
theorem size_set (H:Heap) (a:Addr) (v:Value):(setCellH H a v).size=H.size:=by simp [setCellH]
def setL (l:List Value) (o:Nat):List Value→List Value
 | []=>l
 | v :: vs=>setL (l.set o v) (o + 1) vs
theorem setL_eq:∀ (vs:List Value) (l:List Value) (o:Nat),o + vs.length≤l.length→setL l o vs=l.take o ++ vs ++ l.drop (o + vs.length)
 | [],l,o,_=>by simp [setL]
 | v :: vs,l,o,h=>by
   simp only [List.length_cons] at h
   rw [setL,setL_eq vs (l.set o v) (o + 1) (by simp; omega)]
   have e2:(l.set o v).take (o + 1)=l.take o ++ [v]:=by
    rw [List.take_add_one,List.take_set_of_le (Nat.le_refl _)]; simp [show o < l.length by omega]
   have e3:(l.set o v).drop (o + 1 + vs.length)=l.drop (o + (vs.length + 1)):=by
    rw [List.drop_set_of_lt (by omega)]; congr 1; omega
   rw [e2,e3]; simp
theorem Sto_blk {R:Heap→Prop} {b t:Nat}:∀ (vs:List Value) (H:Heap) (l:List Value) (o i:Nat),Blk H b t l→o + i + vs.length≤l.length→(∀ v ∈ vs,v.oneCell'=true)→
 (∀ H',Blk H' b t (setL l (o + i) vs)→Fr [b] H H'→H'.size=H.size→R H')→Sto H ⟨b,o,none⟩ vs i R
 | [],H,l,o,i,h,_,_,hR=>hR H h (Fr.refl _ _) rfl
 | v :: vs,H,l,o,i,h,hl,h1,hR=>by
   simp only [List.length_cons] at hl
   have hlt:o + i < l.length:=by omega
   refine ⟨h1 v (by simp),⟨l[o + i],?_⟩,?_,?_⟩
   ·rw [add_mk,cellAt_mk,h.cell]; simp [hlt]
   ·rw [add_mk]; unfold Blk at h; simp [frozenAt,h]
   ·rw [add_mk]
    refine Sto_blk vs _ (l.set (o + i) v) o (i + 1) (h.set (o + i) v) (by simp; omega) (fun v hv=>h1 v (by simp [hv])) fun H' hb hf hs=>?_
    exact hR H' hb ((fr_set H b (o + i) v).trans hf) (hs.trans (size_set _ _ _))
theorem Sto_one {R:Heap→Prop} {b t o:Nat} {H:Heap} {l:List Value} {v:Value} (h:Blk H b t l) (ho:o < l.length) (h1:v.oneCell'=true)
 (hR:∀ H',Blk H' b t (l.set o v)→Fr [b] H H'→H'.size=H.size→R H'):Sto H ⟨b,o,none⟩ [v] 0 R:=
 Sto_blk [v] H l o 0 h (by simp; omega) (by simpa using h1) fun H' hb hf hs=>hR H' (by simpa [setL] using hb) hf hs
def Own (H:Heap) (e size:Nat) (v:Value) (n:Nat) (xs:List Value) (g:Option Nat):Prop:=
 xs.length=n * size∧
 ((g=none∧v= .slice none 0 0∧n=0)∨
  ∃ b cap cur,g=some b∧v= .slice (some ⟨b,0,none⟩) n cap∧H[b]?=some (.cells cur e (0,0))∧n≤cap∧cap≤maxLen∧cur.size=cap * size∧cur.toList.take (n * size)=xs)
theorem Own.nil (H:Heap) (e size:Nat):Own H e size (.slice none 0 0) 0 [] none:=⟨by simp,.inl ⟨rfl,rfl,rfl⟩⟩
theorem Own.lt {H:Heap} {e size:Nat} {v:Value} {n:Nat} {xs:List Value} {g:Option Nat} (h:Own H e size v n xs g) {b:Nat} (hb:g=some b):b < H.size:=by
 rcases h.2 with ⟨h1,_⟩ | ⟨b',cap,cur,h1,_,h2,_⟩
 ·rw [h1] at hb; cases hb
 ·rw [h1] at hb; cases hb
  rcases Nat.lt_or_ge b H.size with h' | h'
  ·exact h'
  ·simp [Array.getElem?_eq_none h'] at h2
theorem Own.fr {M:List Nat} {H H':Heap} {e size:Nat} {v:Value} {n:Nat} {xs:List Value} {g:Option Nat} (h:Own H e size v n xs g) (hf:Fr M H H') (hg:∀ b,g=some b→b ∉ M):Own H' e size v n xs g:=by
 refine ⟨h.1,?_⟩
 rcases h.2 with h1 | ⟨b,cap,cur,h1,h2,h3,r⟩
 ·exact .inl h1
 ·refine .inr ⟨b,cap,cur,h1,h2,?_,r⟩
  rw [hf.same b (h.lt h1) (hg b h1)]; exact h3
theorem Own.cell {H:Heap} {e size:Nat} {v:Value} {n:Nat} {xs:List Value} {b:Nat} (h:Own H e size v n xs (some b)) (j:Nat) (hj:j < n * size):cellB H b j=xs[j]?:=by
 rcases h.2 with ⟨h1,_⟩ | ⟨b',cap,cur,h1,h2,h3,h4,h5,h6,h7⟩
 ·cases h1
 ·cases h1
  rw [← h7]
  have:j < cur.size:=by rw [h6]; exact Nat.lt_of_lt_of_le hj (Nat.mul_le_mul_right _ h4)
  simp [cellB,h3,hj]
theorem Own.of_blk {H:Heap} {b e size n:Nat} {l:List Value} (h:Blk H b e l) (hl:l.length=n * size) (hn:n≤maxLen):Own H e size (.slice (some ⟨b,0,none⟩) n n) n l (some b):=
 ⟨hl,.inr ⟨b,n,l.toArray,rfl,rfl,h,Nat.le_refl _,hn,by simp [hl],by simp [← hl]⟩⟩
structure ElemOk (P:Program) (t e size bytes:Nat) (z:Value):Prop where
 und:P.underlying t=some (.slice e)
 info:(P.info? e).map (fun i=>(i.zero,i.size,i.bytes))=some (some z,size,bytes)
 zs:z.cells.size=size
 pos:0 < size
def SrcH (P:Program) (H:Heap) (size tx:Nat) (x:Value) (m:Nat) (news:List Value):Prop:=∀ w:World,w.heap=H→Src P size tx x m news w
theorem SrcH.cells {P:Program} {H:Heap} {size tx e:Nat} (hk:P.underlying tx=some (.slice e)) {ad:Addr} {m c:Nat} {news:List Value} (hl:news.length=m * size) (hn:∀ j u,news[j]?=some u→cellAt H (ad.add j)=some u) (h1:∀ u ∈ news,u.oneCell'=true) :
 SrcH P H size tx (.slice (some ad) m c) m news:=fun w hw=>Src.ofSlice w hk ad m c news hl (fun j u hj=>by subst hw; exact hn j u hj) h1
theorem SrcH.nil {P:Program} {H:Heap} {size tx e:Nat} (hk:P.underlying tx=some (.slice e)) (c:Nat):SrcH P H size tx (.slice none 0 c) 0 []:=fun w _=>Src.ofNil w hk c
theorem SrcH.str {P:Program} {H:Heap} {tx:Nat} (hk:P.underlying tx=some .string) (l:List UInt8):SrcH P H 1 tx (.string ⟨⟨l⟩⟩) l.length (l.map fun b=>Value.int .u8 b.toNat):=fun w _=>by
 have:=Src.ofString w hk ⟨⟨l⟩⟩
 exact this
theorem SrcH.empty {P:Program} {H:Heap} {size tx e:Nat} (hk:P.underlying tx=some (.slice e)) (ad:Option Addr) (c:Nat):SrcH P H size tx (.slice ad 0 c) 0 []:=by
 cases ad with
 | none=>exact SrcH.nil hk c
 | some ad=>exact SrcH.cells hk (by simp) (by simp) (by simp)
theorem SrcH.blk {P:Program} {H:Heap} {size tx e:Nat} (hk:P.underlying tx=some (.slice e)) {b t m c:Nat} {l:List Value} (h:Blk H b t l) (hl:l.length=m * size) (h1:∀ u ∈ l,u.oneCell'=true) :
 SrcH P H size tx (.slice (some ⟨b,0,none⟩) m c) m l:=
 SrcH.cells hk hl (fun j u hj=>by rw [add_mk,cellAt_mk,Nat.zero_add,h.cell]; exact hj) h1
theorem Own.ne {H:Heap} {e size:Nat} {v:Value} {n:Nat} {xs:List Value} {g:Option Nat} {b t:Nat} {l:List Value} (h:Own H e size v n xs g) (hb:Blk H b t l) (ht:e≠t):b ∉ g.toList:=by
 intro hm
 have hg:g=some b:=by simpa using hm
 rcases h.2 with ⟨h1,_⟩ | ⟨b',cap,cur,h1,_,h3,_⟩
 ·rw [h1] at hg; cases hg
 ·rw [h1] at hg; cases hg
  unfold Blk at hb
  rw [h3] at hb
  simp at hb
  exact ht hb.2
theorem setCells_blk {b e:Nat}:∀ (vs:List Value) (o:Nat) (w:World) (l:List Value),Blk w.heap b e l→Blk (w.setCells b o vs).heap b e (setL l o vs)∧Fr [b] w.heap (w.setCells b o vs).heap∧Same w (w.setCells b o vs)
 | [],o,w,l,h=>⟨h,Fr.refl _ _,Same.refl _⟩
 | v :: vs,o,w,l,h=>by
   obtain ⟨h1,h2,h3⟩:=setCells_blk vs (o + 1) (w.setCell ⟨b,o,none⟩ v) (l.set o v) (h.set o v)
   exact ⟨h1,(fr_set _ _ _ _).trans h2,⟨h3.os,h3.tape,h3.output⟩⟩
theorem App_own {P:Program} {t tx e size bytes:Nat} {z:Value} (hE:ElemOk P t e size bytes z) {H:Heap} {v x:Value} {n:Nat} {xs:List Value} {g:Option Nat} (hown:Own H e size v n xs g)
 {m:Nat} {news:List Value} (hsrc:SrcH P H size tx x m news) (h63:n + m≤maxLen) (hb:(n + m) * bytes≤140737488355328) {R:Value→Heap→Prop}
 (hR:∀ a c H' g',Own H' e size (.slice a (n + m) c) (n + m) (xs ++ news) g'→Fr g.toList H H'→(∀ b,g'=some b→g=some b∨H.size≤b)→R (.slice a (n + m) c) H'):App P t tx t H v x R:=by
 intro w hw
 have hs:=hsrc w hw
 subst hw
 have hinfo:=hE.info
 simp only [Option.map_eq_some_iff,Prod.mk.injEq] at hinfo
 obtain ⟨i,hi,hz,hsz,hbt⟩:=hinfo
 subst hsz; subst hbt
 have hlen:(xs ++ news).length=(n + m) * i.size:=by rw [List.length_append,hown.1,hs.newsLen,Nat.add_mul]
 have h63':((n + m:Nat):Int)≤9223372036854775807:=by simp only [maxLen] at h63; omega
 have grow:∀ (base:Option Addr) (cap:Nat),cap < n + m→v= .slice base n cap→(Builtin.firstCells i.size n (.slice base n cap)).run P w.drew= .ok xs.toArray w.drew→
  ∃ v' w',(Builtin.append_ #[t,tx] t #[v,x]).run P w= .ok v' w'∧R v' w'.heap∧Same w w':=by
  intro base cap hc hv hold
  subst hv
  have hr:=run_append_grow_src (P:=P) w t tx t e i z hE.und hi hz base n cap xs hold x m news hs hc h63' (growslice_fits hc hb)
  refine ⟨_,_,hr,hR _ _ _ (some w.heap.size) ⟨hlen,.inr ⟨w.heap.size,_,_,rfl,rfl,heap_alloc_new w.drew _,grownCap_ge _ _ _ _,grownCap_le_maxLen _ _ _ _ h63,?_,?_⟩⟩ ?_ ?_,⟨rfl,rfl,rfl⟩⟩
  ·have hge:=grownCap_ge w (n + m) cap e
   rw [Array.size_append,size_zeroCells,hE.zs]
   simp only [List.size_toArray,hlen,← Nat.add_mul]
   congr 1; omega
  ·simp only [Array.toList_append]
   rw [← hlen]; exact List.take_left
  ·exact fr_push _ _ _
  ·intro b hb; simp at hb; exact .inr (by omega)
 rcases hown.2 with ⟨rfl,rfl,rfl⟩ | ⟨b,cap,cur,rfl,rfl,hg,hnc,hcm,hcs,htake⟩
 ·have hx:xs=[]:=List.eq_nil_of_length_eq_zero (by simpa using hown.1)
  subst hx
  by_cases hm:m=0
  ·subst hm
   have hn:news=[]:=List.eq_nil_of_length_eq_zero (by simpa using hs.newsLen)
   subst hn
   refine ⟨.slice none 0 0,w,?_,hR none 0 _ none (Own.nil _ _ _) (Fr.refl _ _) (by simp),Same.refl _⟩
   rcases hs.kind with ⟨e',hk⟩ | hk <;> simp [Builtin.append_,run_underlying hE.und,run_underlying hk,Go.sizeOf,typeInfo,hi,hs.len,hs.cells]
  ·exact grow none 0 (by omega) rfl (run_firstCells_none _ _ _ _ _)
 ·by_cases hroom:n + m≤cap
  ·have hfit:n * i.size + news.length≤cur.size:=by rw [hs.newsLen,hcs,← Nat.add_mul]; exact Nat.mul_le_mul_right _ hroom
   have hblk:Blk w.heap b e cur.toList:=by simpa [Blk] using hg
   have hr:=run_append_room_src (P:=P) w t tx t e i hE.und hi b 0 n cap x m news hs hroom
    (fun j hj=>by
     have:w.cell? ⟨b,0 + n * i.size + j,none⟩=cellB w.heap b (0 + n * i.size + j):=(cell?_eq w _).trans (cellAt_mk _ _ _)
     rw [this,hblk.cell]; simp; omega)
    (fun j hj=>by
     show frozenAt w.heap _=false
     simp [frozenAt,hg])
   rw [Nat.zero_add] at hr
   obtain ⟨h1,h2,h3⟩:=setCells_blk news (n * i.size) w cur.toList hblk
   rw [setL_eq _ _ _ (by simpa using hfit)] at h1
   refine ⟨_,_,hr,hR _ _ _ (some b) ⟨hlen,.inr ⟨b,cap,_,rfl,rfl,h1,hroom,hcm,?_,?_⟩⟩ h2 (fun b' hb=>by simp at hb; exact .inl (by rw [hb])),h3⟩
   ·simp; omega
   ·rw [htake,← hlen]; exact List.take_left
  ·refine grow (some ⟨b,0,none⟩) cap (by omega) rfl ?_
   refine run_firstCells_some w.drew i.size n ⟨b,0,none⟩ n cap xs hown.1 fun j u hj=>?_
   have hlt:j < n * i.size:=by
    rw [← hown.1]
    rcases Nat.lt_or_ge j xs.length with h | h
    ·exact h
    ·rw [List.getElem?_eq_none h] at hj; cases hj
   show cellAt w.heap _=_
   rw [add_mk,cellAt_mk,Nat.zero_add,hown.cell j hlt,hj]
end Gx
end
section
namespace Gx
open Go
def bv (b:UInt8):Value:=.int .u8 b.toNat
theorem wrap_i64_id (x:Int) (h:-9223372036854775808≤x) (h':x < 9223372036854775808):IntKind.i64.wrap x=x:=by
 rw [IntKind.wrap_i64]; omega
theorem Own.cap_le {H:Heap} {e z n c:Nat} {a:Option Addr} {xs:List Value} {g:Option Nat} (h:Own H e z (.slice a n c) n xs g):n≤c:=by
 rcases h.2 with ⟨_,h2,_⟩ | ⟨b,cap,cur,h1,h2,h3,h4,_⟩
 ·simp at h2; omega
 ·simp at h2; omega
end Gx
end
section
namespace Gx
open Go
abbrev I (n:Int):Value:=.int .i64 n
abbrev C (n:Int):Opd:=.c (.int .i64 n)
abbrev Z:Value:=.slice none 0 0
abbrev oT (s:SOp Opd):GOp:=.op none .t s
abbrev oN (s:SOp Opd):GOp:=.op none .no s
abbrev oS (k:Nat) (s:SOp Opd):GOp:=.op none (.s k) s
abbrev mT (x:Opd):GOp:=.op none .t (.v (.mv x))
abbrev fT (n:Nat) (x:Opd):GOp:=.op none .t (.v (.fa n x))
abbrev lT (x:Opd):GOp:=.op none .t (.ld none x)
abbrev nT (x:Opd):GOp:=.op none .t (.v (.len x))
abbrev mS (k:Nat) (x:Opd):GOp:=.op none (.s k) (.v (.mv x))
abbrev rm (x:Opd) (D:List Nat) (n:DT):DT:=.rd none .t (.v (.mv x)) D n
abbrev rf (k:Nat) (x:Opd) (D:List Nat) (n:DT):DT:=.rd none .t (.v (.fa k x)) D n
abbrev rl (x:Opd) (D:List Nat) (n:DT):DT:=.rd none .t (.ld none x) D n
abbrev U (a b:SCode):Prop:=∀ (P:Program) (E:Chain→Heap→Prop) (σ:Slots) (H:Heap) (Q:Post),vc P E a σ H Q=vc P E b σ H Q
abbrev S0:Opd:=.s 0
abbrev T0:Opd:=.t 0
abbrev S1:Opd:=.s 1
abbrev T1:Opd:=.t 1
abbrev S2:Opd:=.s 2
abbrev T2:Opd:=.t 2
abbrev S3:Opd:=.s 3
abbrev T3:Opd:=.t 3
abbrev S4:Opd:=.s 4
abbrev T4:Opd:=.t 4
abbrev S5:Opd:=.s 5
abbrev T5:Opd:=.t 5
abbrev S6:Opd:=.s 6
abbrev T6:Opd:=.t 6
abbrev S7:Opd:=.s 7
abbrev T7:Opd:=.t 7
abbrev S8:Opd:=.s 8
abbrev T8:Opd:=.t 8
abbrev S9:Opd:=.s 9
abbrev T9:Opd:=.t 9
abbrev S10:Opd:=.s 10
abbrev T10:Opd:=.t 10
abbrev S11:Opd:=.s 11
abbrev T11:Opd:=.t 11
abbrev S12:Opd:=.s 12
abbrev T12:Opd:=.t 12
abbrev S13:Opd:=.s 13
abbrev T13:Opd:=.t 13
abbrev S14:Opd:=.s 14
abbrev T14:Opd:=.t 14
abbrev S15:Opd:=.s 15
abbrev T15:Opd:=.t 15
abbrev S16:Opd:=.s 16
abbrev T16:Opd:=.t 16
abbrev S17:Opd:=.s 17
abbrev S18:Opd:=.s 18
abbrev S19:Opd:=.s 19
abbrev S20:Opd:=.s 20
abbrev S21:Opd:=.s 21
abbrev S22:Opd:=.s 22
abbrev S23:Opd:=.s 23
abbrev S24:Opd:=.s 24
abbrev S25:Opd:=.s 25
end Gx
end
section
namespace Go.Proofs.YtmhdkbmnpekpoaaGreatDoor
open Gx Go
@[go_sem] def c51k:List Nat:=[0,2,3,4,5,6,7,8,18,26]
@[go_sem] def c51r0:List GOp:=[mS 1 (.c Z),oS 2 (.al 31 [(I 0),(I 0)])]
@[go_sem] def c51r1:List GOp:=[mS 3 (.c Z)]
@[go_sem] def c51r2:List GOp:=[mS 4 (C 0)]
@[go_sem] def c51r3:List GOp:=[mT S0,mT S4,oT (.call 95 [T1,T0]),mT T0,oT (.v (.ext T0 0)),oT (.v (.ext T1 1)),oT (.v (.ext T2 2)),oS 5 (.al 58 [(I 0),(.string ⟨⟨[]⟩⟩),(I 0),(I 0)]),oS 7 (.al 31 [(I 0),(I 0)]),oN (.st 4 S5 T2),mS 6 T1,oN (.st 2 S7 T0)]
@[go_sem] def c51r4:List GOp:=[fT 0 S7,lT T0,oS 8 (.v (.bin .neq T0 (C 0)))]
@[go_sem] def c51d5:DT:=(.rd none .t (.ld (some 2) S7) [2] (.rd none (.s 1) (.v (.mv (.c Z))) [2] (.ef 2 none .no (.st 2 S2 T0) .done)))
abbrev c51s6:SCode:=(.cond S8 (.seq (.de c51d5) .ret) .skip)
@[go_sem] def c51r7:List GOp:=[mT S3,oT (.ld (some 4) S5),oT (.bs 58 1 [(I 0),(.string ⟨⟨[]⟩⟩),(I 0),(I 0)] [(0,(4,T0))]),oT (.ap 70 70 T2 T0),mS 3 T0]
@[go_sem] def c51r8:List GOp:=[fT 0 S5,lT T0,oS 9 (.v (.bin .eql T0 (C 6)))]
@[go_sem] def c51r9:List GOp:=[mT S3,oT (.v (.bld [(I 0),(I 0)] [])),mS 1 T1,oN (.st 2 S2 T0)]
abbrev c51s10:SCode:=(.seq (.ops c51r9) .ret)
@[go_sem] def c51r11:List GOp:=[mT S6,mS 4 T0]
abbrev c51s12:SCode:=(.ops c51r11)
abbrev c51s13:SCode:=(.seq (.seq (.ops c51r8) (.cond S9 c51s10 .skip)) c51s12)
abbrev c51s14:SCode:=(.seq (.ops c51r7) c51s13)
abbrev c51s15:SCode:=(.seq (.seq (.ops c51r4) c51s6) c51s14)
abbrev c51s16:SCode:=(.block 1 (.seq (.ops c51r3) c51s15))
abbrev c51s17:SCode:=(.block 0 (.loop c51k c51s16))
abbrev c51s18:SCode:=(.seq (.ops c51r2) c51s17)
abbrev c51s19:SCode:=(.seq (.ops c51r1) c51s18)
def c51:Gx.Fn:=⟨30,c51k,(.seq (.ops c51r0) c51s19),[(.tmp S1),(.cell S2 (some 2))]⟩
theorem c51ok:stripFn Tryz.prog c51k Tryz.f51=some c51:=by kernel_rfl
@[go_sem] def c95k:List Nat:=[0,1,4,5,6,7,8,9,10,13,23,37]
@[go_sem] def c95r0:List GOp:=[oS 2 (.al 58 [(I 0),(.string ⟨⟨[]⟩⟩),(I 0),(I 0)]),mS 3 (C 0),oS 4 (.al 31 [(I 0),(I 0)])]
@[go_sem] def c95r1:List GOp:=[mT S0,oT (.v (.slen T0)),oS 9 (.v (.bin .gtr T0 (C 65536)))]
@[go_sem] def c95r2:List GOp:=[oT (.v (.bld [(I 0),(.string ⟨⟨[]⟩⟩),(I 0),(I 0)] [])),oT (.v (.bld [(I 0),(I 0)] [(0,(1,(C 6))),(1,(1,(C 65536)))])),oN (.st 4 S2 T1),mS 3 (C 0),oN (.st 2 S4 T0)]
abbrev c95s3:SCode:=(.seq (.ops c95r2) .ret)
@[go_sem] def c95r4:List GOp:=[mT S1,oT (.v (.bin .lss T0 (C 0))),mT T0,(.sel T0 false [(.op (.v (.mv S1))),(.op (.v (.mv S0))),(.op (.v (.slen T0))),(.op (.v (.bin .gtr T2 T0)))] (.s 10) (.c (.bool true)) T0)]
@[go_sem] def c95r5:List GOp:=[oT (.v (.bld [(I 0),(.string ⟨⟨[]⟩⟩),(I 0),(I 0)] [])),oT (.v (.bld [(I 0),(I 0)] [(0,(1,(C 1)))])),oN (.st 4 S2 T1),mS 3 (C 0),oN (.st 2 S4 T0)]
abbrev c95s6:SCode:=(.seq (.ops c95r5) .ret)
@[go_sem] def c95r7:List GOp:=[mT S0,mT S1,oT (.v (.bld [(.string ⟨⟨[]⟩⟩),(I 0)] [(0,(1,T1)),(1,(1,T0))])),oS 5 (.al 115 [(.string ⟨⟨[]⟩⟩),(I 0)]),oN (.st 2 S5 T0)]
@[go_sem] def c95r8:List GOp:=[oT (.call 113 [S5])]
@[go_sem] def c95r9:List GOp:=[fT 1 S5,lT T0,mS 6 T0]
@[go_sem] def c95r10:List GOp:=[oT (.call 114 [S5]),mT T0,oT (.v (.ext T0 0)),oT (.v (.ext T1 1)),oS 7 (.al 58 [(I 0),(.string ⟨⟨[]⟩⟩),(I 0),(I 0)]),oN (.st 4 S7 T1),mS 8 T0]
@[go_sem] def c95r11:List GOp:=[mT S8,oS 11 (.v (.bin .neq T0 (C 0)))]
@[go_sem] def c95r12:List GOp:=[oT (.v (.bld [(I 0),(.string ⟨⟨[]⟩⟩),(I 0),(I 0)] [])),mT S8,mT S6,oT (.v (.bld [(I 0),(I 0)] [(0,(1,T1)),(1,(1,T0))])),oN (.st 4 S2 T3),mS 3 (C 0),oN (.st 2 S4 T0)]
abbrev c95s13:SCode:=(.seq (.ops c95r12) .ret)
abbrev c95s14:SCode:=(.cond S11 c95s13 .skip)
@[go_sem] def c95d15:DT:=(.rd none .t (.ld (some 4) S7) [4,6] (rf 1 S5 [6] (rl T0 [6] (.rd none .t (.v (.bld [(I 0),(I 0)] [])) [6] (.ef 4 none .no (.st 4 S2 T3) (.rd none (.s 3) (.v (.mv T1)) [6] (.ef 6 none .no (.st 2 S4 T0) .done)))))))
abbrev c95s16:SCode:=(.seq (.de c95d15) .ret)
abbrev c95s17:SCode:=(.seq (.seq (.ops c95r11) c95s14) c95s16)
abbrev c95s18:SCode:=(.seq (.ops c95r10) c95s17)
abbrev c95s19:SCode:=(.seq (.ops c95r9) c95s18)
abbrev c95s20:SCode:=(.seq (.ops c95r8) c95s19)
abbrev c95s21:SCode:=(.seq (.ops c95r7) c95s20)
abbrev c95s22:SCode:=(.seq (.seq (.ops c95r4) (.cond S10 c95s6 .skip)) c95s21)
abbrev c95s23:SCode:=(.seq (.seq (.ops c95r1) (.cond S9 c95s3 .skip)) c95s22)
def c95:Gx.Fn:=⟨46,c95k,(.seq (.ops c95r0) c95s23),[(.cell S2 (some 4)),(.tmp S3),(.cell S4 (some 2))]⟩
theorem c95ok:stripFn Tryz.prog c95k Tryz.f95=some c95:=by kernel_rfl
@[go_sem] def c113k:List Nat:=[0,25]
@[go_sem] def c113r0:List GOp:=[mT S0,oT (.call 122 [T0,(.f 123)])]
@[go_sem] def c113r1:List GOp:=[mT S0,oT (.v (.nc T0)),fT 1 T0,lT T0,mT S0,oT (.v (.nc T0)),fT 0 T0,lT T0,oT (.v (.slen T0)),oT (.v (.bin .geq T5 T0)),mT T0,(.op (some (T0,(false,true))) .t (.v (.mv S0))),(.op (some (T1,(false,false))) .t (.v (.nc T0))),(.op (some (T2,(false,false))) .t (.v (.fa 0 T0))),(.op (some (T3,(false,false))) .t (.ld none T0)),(.op (some (T4,(false,false))) .t (.v (.mv S0))),(.op (some (T5,(false,false))) .t (.v (.nc T0))),(.op (some (T6,(false,false))) .t (.v (.fa 1 T0))),(.op (some (T7,(false,false))) .t (.ld none T0)),(.op (some (T8,(false,false))) .t (.v (.six T4 T0))),(.op (some (T9,(false,false))) .t (.v (.bin .neq T0 (.c (.int .u8 35))))),oS 1 (.v (.pick T10 (.c (.bool true)) T0))]
@[go_sem] def c113r2:List GOp:=[mT S0,oT (.call 122 [T0,(.f 124)])]
abbrev c113s3:SCode:=(.ops c113r2)
abbrev c113s4:SCode:=(.seq (.seq (.dq c113r1) (.cond S1 .ret .skip)) c113s3)
abbrev c113s5:SCode:=(.block 1 (.seq (.ops c113r0) c113s4))
def c113:Gx.Fn:=⟨28,c113k,(.block 0 (.loop c113k c113s5)),[]⟩
theorem c113ok:stripFn Tryz.prog c113k Tryz.f113=some c113:=by kernel_rfl
@[go_sem] def c114k:List Nat:=[0,2,3,4,5,6,7,8,9,24,64,85,95,105,109,111,123,135,140,174,186]
@[go_sem] def c114r0:List GOp:=[oS 1 (.al 58 [(I 0),(.string ⟨⟨[]⟩⟩),(I 0),(I 0)]),mS 2 (C 0)]
@[go_sem] def c114r1:List GOp:=[mT S0,oT (.v (.nc T0)),fT 1 T0,lT T0,oT (.v (.bld [(I 0),(.string ⟨⟨[]⟩⟩),(I 0),(I 0)] [(3,(1,T0))])),oS 3 (.al 58 [(I 0),(.string ⟨⟨[]⟩⟩),(I 0),(I 0)]),oN (.st 4 S3 T0)]
@[go_sem] def c114r2:List GOp:=[mT S0,oT (.v (.nc T0)),fT 1 T0,lT T0,mT S0,oT (.v (.nc T0)),fT 0 T0,lT T0,oT (.v (.slen T0)),oS 9 (.v (.bin .eql T5 T0))]
@[go_sem] def c114r3:List GOp:=[fT 0 S3,oN (.st 1 T0 (C 6))]
@[go_sem] def c114r4:List GOp:=[oT (.ld (some 4) S3),oN (.st 4 S1 T0),mS 2 (C 0)]
abbrev c114s5:SCode:=(.seq (.ops c114r4) .ret)
abbrev c114s6:SCode:=(.seq (.ops c114r3) c114s5)
@[go_sem] def c114r7:List GOp:=[mT S0,oT (.v (.nc T0)),fT 0 T0,lT T0,mT S0,oT (.v (.nc T0)),fT 1 T0,lT T0,oT (.v (.six T4 T0)),mS 4 T0]
@[go_sem] def c114r8:List GOp:=[mT S4,oT (.call 125 [T0]),mS 12 T0]
@[go_sem] def c114r9:List GOp:=[mT S0,oT (.call 122 [T0,(.f 126)]),fT 1 S3,oN (.st 1 T0 T1)]
@[go_sem] def c114r10:List GOp:=[fT 0 S3,oN (.st 1 T0 (C 1))]
@[go_sem] def c114r11:List GOp:=[fT 1 S3,lT T0,oT (.v (.slen T0)),oS 13 (.v (.bin .gtr T0 (C 16)))]
@[go_sem] def c114r12:List GOp:=[oT (.ld (some 4) S3),oN (.st 4 S1 T0),mS 2 (C 3)]
abbrev c114s13:SCode:=(.seq (.ops c114r12) .ret)
abbrev c114s14:SCode:=(.cond S13 c114s13 .skip)
@[go_sem] def c114r15:List GOp:=[fT 1 S3,lT T0,oS 14 (.call 92 [T0])]
@[go_sem] def c114r16:List GOp:=[fT 0 S3,oN (.st 1 T0 (C 2))]
abbrev c114s17:SCode:=(.cond S14 (.ops c114r16) .skip)
abbrev c114s18:SCode:=(.seq (.ops c114r15) c114s17)
abbrev c114s19:SCode:=(.seq (.seq (.ops c114r11) c114s14) c114s18)
abbrev c114s20:SCode:=(.seq (.ops c114r10) c114s19)
abbrev c114s21:SCode:=(.seq (.ops c114r9) c114s20)
@[go_sem] def c114r22:List GOp:=[mT S4,oT (.call 127 [T0]),mS 15 T0]
@[go_sem] def c114r23:List GOp:=[mT S0,oT (.call 122 [T0,(.f 127)]),mS 5 T0]
@[go_sem] def c114r24:List GOp:=[mT S5,oT (.v (.slen T0)),oT (.v (.bin .gtr T0 (C 1))),mT T0,(.op (some (T0,(true,true))) .t (.v (.mv S5))),(.op (some (T1,(true,false))) .t (.v (.six T0 (C 0)))),(.op (some (T2,(true,false))) .t (.v (.bin .eql T0 (.c (.int .u8 48))))),oS 16 (.v (.pick T3 T0 (.c (.bool false))))]
@[go_sem] def c114r25:List GOp:=[oT (.ld (some 4) S3),oN (.st 4 S1 T0),mS 2 (C 2)]
abbrev c114s26:SCode:=(.seq (.ops c114r25) .ret)
abbrev c114s27:SCode:=(.cond S16 c114s26 .skip)
@[go_sem] def c114r28:List GOp:=[mT S5,oT (.call 128 [T0,(C 10),(C 64)]),mT T0,oT (.v (.ext T0 0)),oT (.v (.ext T1 1)),mS 6 T1,mS 7 T0]
@[go_sem] def c114r29:List GOp:=[mT S7,oT (.v (.isnilf true T0)),mT T0,(.sel T0 false [(.op (.v (.mv S6))),(.op (.v (.bin .gtr T0 (C 1000000000000000))))] (.s 17) (.c (.bool true)) T0)]
@[go_sem] def c114r30:List GOp:=[oT (.ld (some 4) S3),oN (.st 4 S1 T0),mS 2 (C 5)]
abbrev c114s31:SCode:=(.seq (.ops c114r30) .ret)
abbrev c114s32:SCode:=(.cond S17 c114s31 .skip)
@[go_sem] def c114r33:List GOp:=[mT S6,fT 0 S3,oN (.st 1 T0 (C 3)),fT 2 S3,oN (.st 1 T0 T2)]
abbrev c114s34:SCode:=(.ops c114r33)
abbrev c114s35:SCode:=(.seq (.seq (.ops c114r29) c114s32) c114s34)
abbrev c114s36:SCode:=(.seq (.ops c114r28) c114s35)
abbrev c114s37:SCode:=(.seq (.seq (.ops c114r24) c114s27) c114s36)
abbrev c114s38:SCode:=(.seq (.ops c114r23) c114s37)
@[go_sem] def c114r39:List GOp:=[mT S4,oT (.v (.bin .eql T0 (.c (.int .u8 39)))),mS 18 T0]
@[go_sem] def c114r40:List GOp:=[mT S0,oT (.v (.nc T0)),fT 1 T0,lT T0,oT (.v (.bin .add T0 (C 1))),oT (.v (.nc T4)),fT 1 T0,oN (.st 1 T0 T2)]
@[go_sem] def c114r41:List GOp:=[mT S0,oT (.call 122 [T0,(.f 126)]),fT 1 S3,oN (.st 1 T0 T1)]
@[go_sem] def c114r42:List GOp:=[mT S0,oT (.v (.nc T0)),fT 1 T0,lT T0,mT S0,oT (.v (.nc T0)),fT 0 T0,lT T0,oT (.v (.slen T0)),oT (.v (.bin .eql T5 T0)),mT T0,(.op (some (T0,(false,true))) .t (.v (.mv S0))),(.op (some (T1,(false,false))) .t (.v (.nc T0))),(.op (some (T2,(false,false))) .t (.v (.fa 0 T0))),(.op (some (T3,(false,false))) .t (.ld none T0)),(.op (some (T4,(false,false))) .t (.v (.mv S0))),(.op (some (T5,(false,false))) .t (.v (.nc T0))),(.op (some (T6,(false,false))) .t (.v (.fa 1 T0))),(.op (some (T7,(false,false))) .t (.ld none T0)),(.op (some (T8,(false,false))) .t (.v (.six T4 T0))),(.op (some (T9,(false,false))) .t (.v (.bin .neq T0 (.c (.int .u8 39))))),oS 19 (.v (.pick T10 (.c (.bool true)) T0))]
@[go_sem] def c114r43:List GOp:=[oT (.ld (some 4) S3),oN (.st 4 S1 T0),mS 2 (C 2)]
abbrev c114s44:SCode:=(.seq (.ops c114r43) .ret)
abbrev c114s45:SCode:=(.cond S19 c114s44 .skip)
@[go_sem] def c114r46:List GOp:=[mT S0,oT (.v (.nc T0)),fT 1 T0,lT T0,oT (.v (.bin .add T0 (C 1))),oT (.v (.nc T4)),fT 1 T0,oN (.st 1 T0 T2)]
@[go_sem] def c114r47:List GOp:=[fT 1 S3,lT T0,oT (.call 91 [T0]),oS 20 (.v (.un .not T0))]
@[go_sem] def c114r48:List GOp:=[oT (.ld (some 4) S3),oN (.st 4 S1 T0),mS 2 (C 3)]
abbrev c114s49:SCode:=(.seq (.ops c114r48) .ret)
abbrev c114s50:SCode:=(.cond S20 c114s49 .skip)
@[go_sem] def c114r51:List GOp:=[fT 0 S3,oN (.st 1 T0 (C 4))]
abbrev c114s52:SCode:=(.ops c114r51)
abbrev c114s53:SCode:=(.seq (.seq (.ops c114r47) c114s50) c114s52)
abbrev c114s54:SCode:=(.seq (.ops c114r46) c114s53)
abbrev c114s55:SCode:=(.seq (.seq (.dq c114r42) c114s45) c114s54)
abbrev c114s56:SCode:=(.seq (.ops c114r41) c114s55)
abbrev c114s57:SCode:=(.seq (.ops c114r40) c114s56)
@[go_sem] def c114r58:List GOp:=[mS 8 (C 2)]
@[go_sem] def c114d59:DT:=(rm S0 [26] (.rd none .t (.v (.nc T0)) [26] (rf 1 T0 [26] (rl T0 [26] (.rd none .t (.v (.bin .add T0 (C 2))) [26] (rm S0 [26] (.rd none .t (.v (.nc T0)) [26] (rf 0 T0 [26] (rl T0 [26] (.rd none .t (.v (.slen T0)) [26] (.rd none .t (.v (.bin .gtr T5 T0)) [26] (rm T0 [26] (.rd (some (T0,false)) .t (.v (.mv S0)) [26] (.rd (some (T1,false)) .t (.v (.nc T0)) [26] (.rd (some (T2,false)) .t (.v (.fa 0 T0)) [26] (.rd (some (T3,false)) .t (.ld none T0) [26] (.rd (some (T4,false)) .t (.v (.mv S0)) [26] (.rd (some (T5,false)) .t (.v (.nc T0)) [26] (.rd (some (T6,false)) .t (.v (.fa 1 T0)) [26] (.rd (some (T7,false)) .t (.ld none T0) [26] (.rd (some (T8,false)) .t (.v (.mv S0)) [26] (.rd (some (T9,false)) .t (.v (.nc T0)) [26] (.rd (some (T10,false)) .t (.v (.fa 1 T0)) [26] (.rd (some (T11,false)) .t (.ld none T0) [26] (.rd (some (T12,false)) .t (.v (.bin .add T0 (C 2))) [26] (.rd (some (T13,false)) .t (.v (.ssl T9 (some T5) (some T0))) [26] (.ef 26 (some (T14,false)) .t (.call 129 [T0]) (.rd (some (T15,false)) .t (.v (.un .not T0)) [] (.rd none (.s 10) (.v (.pick T16 (.c (.bool true)) T0)) [] .done)))))))))))))))))))))))))))))
@[go_sem] def c114r60:List GOp:=[mS 8 (C 1)]
abbrev c114s61:SCode:=(.cond S10 (.ops c114r60) .skip)
@[go_sem] def c114d62:DT:=(rm S0 [18] (.rd none .t (.v (.nc T0)) [18] (rf 0 T0 [18] (rl T0 [18] (rm S0 [18] (.rd none .t (.v (.nc T0)) [18] (rf 1 T0 [18] (rl T0 [18] (rm S0 [18] (.rd none .t (.v (.nc T0)) [18] (rf 1 T0 [18] (rl T0 [18] (rm S8 [18] (.rd none .t (.v (.bin .add T1 T0)) [18] (.rd none .t (.v (.ssl T10 (some T6) (some T0))) [18] (rf 0 S3 [16,18] (.ef 16 none .no (.st 1 T0 (C 5)) (rf 1 S3 [18] (.ef 18 none .no (.st 1 T0 T2) .done)))))))))))))))))))
@[go_sem] def c114r63:List GOp:=[fT 1 S3,lT T0,oT (.call 129 [T0]),oS 11 (.v (.un .not T0))]
@[go_sem] def c114r64:List GOp:=[oT (.ld (some 4) S3),oN (.st 4 S1 T0),mS 2 (C 2)]
abbrev c114s65:SCode:=(.seq (.ops c114r64) .ret)
abbrev c114s66:SCode:=(.cond S11 c114s65 .skip)
@[go_sem] def c114r67:List GOp:=[mT S0,oT (.v (.nc T0)),fT 1 T0,lT T0,mT S8,oT (.v (.bin .add T1 T0)),oT (.v (.nc T5)),fT 1 T0,oN (.st 1 T0 T2)]
abbrev c114s68:SCode:=(.ops c114r67)
abbrev c114s69:SCode:=(.seq (.seq (.ops c114r63) c114s66) c114s68)
abbrev c114s70:SCode:=(.seq (.de c114d62) c114s69)
abbrev c114s71:SCode:=(.seq (.seq (.de c114d59) c114s61) c114s70)
abbrev c114s72:SCode:=(.seq (.ops c114r58) c114s71)
abbrev c114s73:SCode:=(.cond S18 c114s57 c114s72)
abbrev c114s74:SCode:=(.seq (.ops c114r39) c114s73)
abbrev c114s75:SCode:=(.cond S15 c114s38 c114s74)
abbrev c114s76:SCode:=(.seq (.ops c114r22) c114s75)
abbrev c114s77:SCode:=(.cond S12 c114s21 c114s76)
@[go_sem] def c114r78:List GOp:=[oT (.ld (some 4) S3),oN (.st 4 S1 T0),mS 2 (C 0)]
abbrev c114s79:SCode:=(.seq (.ops c114r78) .ret)
abbrev c114s80:SCode:=(.seq (.block 0 (.seq (.ops c114r8) c114s77)) c114s79)
abbrev c114s81:SCode:=(.seq (.dq c114r7) c114s80)
abbrev c114s82:SCode:=(.seq (.seq (.dq c114r2) (.cond S9 c114s6 .skip)) c114s81)
abbrev c114s83:SCode:=(.seq (.ops c114r1) c114s82)
def c114:Gx.Fn:=⟨190,c114k,(.seq (.ops c114r0) c114s83),[(.cell S1 (some 4)),(.tmp S2)]⟩
theorem c114ok:stripFn Tryz.prog c114k Tryz.f114=some c114:=by kernel_rfl
@[go_sem] def c91k:List Nat:=[0,2,3,21,23,24,25,31]
@[go_sem] def c91r0:List GOp:=[mS 1 (.c (.bool false))]
@[go_sem] def c91r1:List GOp:=[mT S0,oT (.v (.slen T0)),oT (.v (.bin .eql T0 (C 0))),mT T0,(.sel T0 false [(.op (.v (.mv S0))),(.op (.v (.slen T0))),(.op (.v (.bin .gtr T0 (C 16))))] .t (.c (.bool true)) T0),mT T0,(.op (some (T0,(false,true))) .t (.v (.mv S0))),(.op (some (T1,(false,false))) .t (.v (.six T0 (C 0)))),(.op (some (T2,(false,false))) .t (.v (.bin .lss T0 (.c (.int .u8 97))))),oT (.v (.pick T3 (.c (.bool true)) T0)),mT T0,(.op (some (T0,(false,true))) .t (.v (.mv S0))),(.op (some (T1,(false,false))) .t (.v (.six T0 (C 0)))),(.op (some (T2,(false,false))) .t (.v (.bin .gtr T0 (.c (.int .u8 122))))),oS 3 (.v (.pick T3 (.c (.bool true)) T0))]
@[go_sem] def c91r2:List GOp:=[mS 1 (.c (.bool false))]
abbrev c91s3:SCode:=(.seq (.ops c91r2) .ret)
@[go_sem] def c91r4:List GOp:=[mT S0,oS 4 (.v (.slen T0)),mS 5 (C 0)]
@[go_sem] def c91r5:List GOp:=[oS 6 (.v (.bin .lss S5 S4))]
@[go_sem] def c91r6:List GOp:=[mT S5,mS 2 T0]
@[go_sem] def c91r7:List GOp:=[mT S0,mT S2,oT (.v (.six T1 T0)),oT (.call 110 [T0]),oS 7 (.v (.un .not T0))]
@[go_sem] def c91r8:List GOp:=[mS 1 (.c (.bool false))]
abbrev c91s9:SCode:=(.seq (.ops c91r8) .ret)
abbrev c91s10:SCode:=(.seq (.ops c91r7) (.cond S7 c91s9 .skip))
@[go_sem] def c91r11:List GOp:=[oT (.v (.bin .add S5 (C 1))),mS 5 T0]
abbrev c91s12:SCode:=(.ops c91r11)
abbrev c91s13:SCode:=(.seq (.block 1 (.seq (.ops c91r6) c91s10)) c91s12)
abbrev c91s14:SCode:=(.seq (.cond S6 .skip (.exit 0)) c91s13)
abbrev c91s15:SCode:=(.seq (.ops c91r5) c91s14)
abbrev c91s16:SCode:=(.block 0 (.loop c91k c91s15))
@[go_sem] def c91r17:List GOp:=[mS 1 (.c (.bool true))]
abbrev c91s18:SCode:=(.seq (.ops c91r17) .ret)
abbrev c91s19:SCode:=(.seq (.seq (.ops c91r4) c91s16) c91s18)
abbrev c91s20:SCode:=(.seq (.seq (.ops c91r1) (.cond S3 c91s3 .skip)) c91s19)
def c91:Gx.Fn:=⟨33,c91k,(.seq (.ops c91r0) c91s20),[(.tmp S1)]⟩
theorem c91ok:stripFn Tryz.prog c91k Tryz.f91=some c91:=by kernel_rfl
@[go_sem] def c92k:List Nat:=[0,2,3]
@[go_sem] def c92r0:List GOp:=[mS 1 (.c (.bool false))]
@[go_sem] def c92r1:List GOp:=[oT (.bs 9 44 [(.string ⟨⟨[]⟩⟩),(.string ⟨⟨[]⟩⟩),(.string ⟨⟨[]⟩⟩),(.string ⟨⟨[]⟩⟩),(.string ⟨⟨[]⟩⟩),(.string ⟨⟨[]⟩⟩),(.string ⟨⟨[]⟩⟩),(.string ⟨⟨[]⟩⟩),(.string ⟨⟨[]⟩⟩),(.string ⟨⟨[]⟩⟩),(.string ⟨⟨[]⟩⟩),(.string ⟨⟨[]⟩⟩),(.string ⟨⟨[]⟩⟩),(.string ⟨⟨[]⟩⟩),(.string ⟨⟨[]⟩⟩),(.string ⟨⟨[]⟩⟩),(.string ⟨⟨[]⟩⟩),(.string ⟨⟨[]⟩⟩),(.string ⟨⟨[]⟩⟩),(.string ⟨⟨[]⟩⟩),(.string ⟨⟨[]⟩⟩),(.string ⟨⟨[]⟩⟩),(.string ⟨⟨[]⟩⟩),(.string ⟨⟨[]⟩⟩),(.string ⟨⟨[]⟩⟩),(.string ⟨⟨[]⟩⟩),(.string ⟨⟨[]⟩⟩),(.string ⟨⟨[]⟩⟩),(.string ⟨⟨[]⟩⟩),(.string ⟨⟨[]⟩⟩),(.string ⟨⟨[]⟩⟩),(.string ⟨⟨[]⟩⟩),(.string ⟨⟨[]⟩⟩),(.string ⟨⟨[]⟩⟩),(.string ⟨⟨[]⟩⟩),(.string ⟨⟨[]⟩⟩),(.string ⟨⟨[]⟩⟩),(.string ⟨⟨[]⟩⟩),(.string ⟨⟨[]⟩⟩),(.string ⟨⟨[]⟩⟩),(.string ⟨⟨[]⟩⟩),(.string ⟨⟨[]⟩⟩),(.string ⟨⟨[]⟩⟩),(.string ⟨⟨[]⟩⟩)] [(0,(1,(.c (.string ⟨⟨[97,110,100]⟩⟩)))),(1,(1,(.c (.string ⟨⟨[98,111,111,108]⟩⟩)))),(2,(1,(.c (.string ⟨⟨[98,111,116,116,111,109]⟩⟩)))),(3,(1,(.c (.string ⟨⟨[99,108,111,115,101,100]⟩⟩)))),(4,(1,(.c (.string ⟨⟨[99,111,110,102,108,105,99,116]⟩⟩)))),(5,(1,(.c (.string ⟨⟨[101,108,115,101]⟩⟩)))),(6,(1,(.c (.string ⟨⟨[102,97,108,115,101]⟩⟩)))),(7,(1,(.c (.string ⟨⟨[102,105,114,115,116]⟩⟩)))),(8,(1,(.c (.string ⟨⟨[102,108,97,103]⟩⟩)))),(9,(1,(.c (.string ⟨⟨[102,108,97,116]⟩⟩)))),(10,(1,(.c (.string ⟨⟨[105,102]⟩⟩)))),(11,(1,(.c (.string ⟨⟨[105,110]⟩⟩)))),(12,(1,(.c (.string ⟨⟨[105,110,116]⟩⟩)))),(13,(1,(.c (.string ⟨⟨[106,111,105,110]⟩⟩)))),(14,(1,(.c (.string ⟨⟨[107,101,121,115]⟩⟩)))),(15,(1,(.c (.string ⟨⟨[108,97,116,116,105,99,101]⟩⟩)))),(16,(1,(.c (.string ⟨⟨[108,101,113]⟩⟩)))),(17,(1,(.c (.string ⟨⟨[108,101,120]⟩⟩)))),(18,(1,(.c (.string ⟨⟨[109,97,112]⟩⟩)))),(19,(1,(.c (.string ⟨⟨[109,97,120]⟩⟩)))),(20,(1,(.c (.string ⟨⟨[109,105,110]⟩⟩)))),(21,(1,(.c (.string ⟨⟨[110,97,109,101]⟩⟩)))),(22,(1,(.c (.string ⟨⟨[110,97,109,101,115]⟩⟩)))),(23,(1,(.c (.string ⟨⟨[110,111,116]⟩⟩)))),(24,(1,(.c (.string ⟨⟨[110,117,109]⟩⟩)))),(25,(1,(.c (.string ⟨⟨[110,117,109,98,101,114]⟩⟩)))),(26,(1,(.c (.string ⟨⟨[111,98,106,101,99,116]⟩⟩)))),(27,(1,(.c (.string ⟨⟨[111,110]⟩⟩)))),(28,(1,(.c (.string ⟨⟨[111,110,101]⟩⟩)))),(29,(1,(.c (.string ⟨⟨[111,114]⟩⟩)))),(30,(1,(.c (.string ⟨⟨[112,97,105,114]⟩⟩)))),(31,(1,(.c (.string ⟨⟨[113,117,101,114,121]⟩⟩)))),(32,(1,(.c (.string ⟨⟨[114,101,99]⟩⟩)))),(33,(1,(.c (.string ⟨⟨[114,101,103,105,115,116,101,114]⟩⟩)))),(34,(1,(.c (.string ⟨⟨[115]⟩⟩)))),(35,(1,(.c (.string ⟨⟨[115,101,99,111,110,100]⟩⟩)))),(36,(1,(.c (.string ⟨⟨[115,101,116]⟩⟩)))),(37,(1,(.c (.string ⟨⟨[115,105,122,101]⟩⟩)))),(38,(1,(.c (.string ⟨⟨[115,117,109]⟩⟩)))),(39,(1,(.c (.string ⟨⟨[116,104,101,110]⟩⟩)))),(40,(1,(.c (.string ⟨⟨[116,114,117,101]⟩⟩)))),(41,(1,(.c (.string ⟨⟨[117,112,100,97,116,101]⟩⟩)))),(42,(1,(.c (.string ⟨⟨[118,97,108,117,101,115]⟩⟩)))),(43,(1,(.c (.string ⟨⟨[119,114,105,116,101]⟩⟩))))]),mS 2 T0]
@[go_sem] def c92r2:List GOp:=[mT S2,mT S0,oT (.call 111 [T1,T0]),mS 1 T0]
abbrev c92s3:SCode:=(.seq (.ops c92r2) .ret)
abbrev c92s4:SCode:=(.seq (.ops c92r1) c92s3)
def c92:Gx.Fn:=⟨8,c92k,(.seq (.ops c92r0) c92s4),[(.tmp S1)]⟩
theorem c92ok:stripFn Tryz.prog c92k Tryz.f92=some c92:=by kernel_rfl
@[go_sem] def c129k:List Nat:=[0,2,3]
@[go_sem] def c129r0:List GOp:=[mS 1 (.c (.bool false))]
@[go_sem] def c129r1:List GOp:=[oT (.bs 9 17 [(.string ⟨⟨[]⟩⟩),(.string ⟨⟨[]⟩⟩),(.string ⟨⟨[]⟩⟩),(.string ⟨⟨[]⟩⟩),(.string ⟨⟨[]⟩⟩),(.string ⟨⟨[]⟩⟩),(.string ⟨⟨[]⟩⟩),(.string ⟨⟨[]⟩⟩),(.string ⟨⟨[]⟩⟩),(.string ⟨⟨[]⟩⟩),(.string ⟨⟨[]⟩⟩),(.string ⟨⟨[]⟩⟩),(.string ⟨⟨[]⟩⟩),(.string ⟨⟨[]⟩⟩),(.string ⟨⟨[]⟩⟩),(.string ⟨⟨[]⟩⟩),(.string ⟨⟨[]⟩⟩)] [(0,(1,(.c (.string ⟨⟨[61]⟩⟩)))),(1,(1,(.c (.string ⟨⟨[58]⟩⟩)))),(2,(1,(.c (.string ⟨⟨[59]⟩⟩)))),(3,(1,(.c (.string ⟨⟨[44]⟩⟩)))),(4,(1,(.c (.string ⟨⟨[40]⟩⟩)))),(5,(1,(.c (.string ⟨⟨[41]⟩⟩)))),(6,(1,(.c (.string ⟨⟨[123]⟩⟩)))),(7,(1,(.c (.string ⟨⟨[125]⟩⟩)))),(8,(1,(.c (.string ⟨⟨[91]⟩⟩)))),(9,(1,(.c (.string ⟨⟨[93]⟩⟩)))),(10,(1,(.c (.string ⟨⟨[46]⟩⟩)))),(11,(1,(.c (.string ⟨⟨[43]⟩⟩)))),(12,(1,(.c (.string ⟨⟨[45]⟩⟩)))),(13,(1,(.c (.string ⟨⟨[60]⟩⟩)))),(14,(1,(.c (.string ⟨⟨[60,61]⟩⟩)))),(15,(1,(.c (.string ⟨⟨[61,61]⟩⟩)))),(16,(1,(.c (.string ⟨⟨[61,62]⟩⟩))))]),mS 2 T0]
@[go_sem] def c129r2:List GOp:=[mT S2,mT S0,oT (.call 111 [T1,T0]),mS 1 T0]
abbrev c129s3:SCode:=(.seq (.ops c129r2) .ret)
abbrev c129s4:SCode:=(.seq (.ops c129r1) c129s3)
def c129:Gx.Fn:=⟨8,c129k,(.seq (.ops c129r0) c129s4),[(.tmp S1)]⟩
theorem c129ok:stripFn Tryz.prog c129k Tryz.f129=some c129:=by kernel_rfl
@[go_sem] def c122k:List Nat:=[0,1,4,5,32]
@[go_sem] def c122r0:List GOp:=[mS 2 (.c (.string ⟨⟨[]⟩⟩))]
@[go_sem] def c122r1:List GOp:=[mT S0,oT (.v (.nc T0)),fT 1 T0,lT T0,mS 3 T0]
@[go_sem] def c122d2:DT:=(rm S0 [21] (.rd none .t (.v (.nc T0)) [21] (rf 1 T0 [21] (rl T0 [21] (rm S0 [21] (.rd none .t (.v (.nc T0)) [21] (rf 0 T0 [21] (rl T0 [21] (.rd none .t (.v (.slen T0)) [21] (.rd none .t (.v (.bin .lss T5 T0)) [21] (rm T0 [21] (.rd (some (T0,true)) .t (.v (.mv S1)) [21] (.rd (some (T1,true)) .t (.v (.mv S0)) [21] (.rd (some (T2,true)) .t (.v (.nc T0)) [21] (.rd (some (T3,true)) .t (.v (.fa 0 T0)) [21] (.rd (some (T4,true)) .t (.ld none T0) [21] (.rd (some (T5,true)) .t (.v (.mv S0)) [21] (.rd (some (T6,true)) .t (.v (.nc T0)) [21] (.rd (some (T7,true)) .t (.v (.fa 1 T0)) [21] (.rd (some (T8,true)) .t (.ld none T0) [21] (.rd (some (T9,true)) .t (.v (.six T4 T0)) [21] (.ef 21 (some (T10,true)) .t (.cv T9 [T0]) (.rd none (.s 4) (.v (.pick T11 T0 (.c (.bool false)))) [] .done)))))))))))))))))))))))
abbrev c122s3:SCode:=(.cond S4 .skip (.exit 0))
@[go_sem] def c122r4:List GOp:=[mT S0,oT (.v (.nc T0)),fT 1 T0,lT T0,oT (.v (.bin .add T0 (C 1))),oT (.v (.nc T4)),fT 1 T0,oN (.st 1 T0 T2)]
abbrev c122s5:SCode:=(.block 1 (.ops c122r4))
abbrev c122s6:SCode:=(.seq (.seq (.de c122d2) c122s3) c122s5)
@[go_sem] def c122r7:List GOp:=[mT S0,oT (.v (.nc T0)),fT 0 T0,lT T0,mT S3,mT S0,oT (.v (.nc T0)),fT 1 T0,lT T0,oT (.v (.ssl T5 (some T4) (some T0))),mS 2 T0]
abbrev c122s8:SCode:=(.seq (.dq c122r7) .ret)
abbrev c122s9:SCode:=(.seq (.block 0 (.loop c122k c122s6)) c122s8)
abbrev c122s10:SCode:=(.seq (.ops c122r1) c122s9)
def c122:Gx.Fn:=⟨50,c122k,(.seq (.ops c122r0) c122s10),[(.tmp S2)]⟩
theorem c122ok:stripFn Tryz.prog c122k Tryz.f122=some c122:=by kernel_rfl
@[go_sem] def c123k:List Nat:=[0,2]
@[go_sem] def c123r0:List GOp:=[mS 1 (.c (.bool false))]
@[go_sem] def c123r1:List GOp:=[mT S0,oT (.v (.bin .eql T0 (.c (.int .u8 32)))),mT T0,(.sel T0 false [(.op (.v (.mv S0))),(.op (.v (.bin .eql T0 (.c (.int .u8 9)))))] .t (.c (.bool true)) T0),mT T0,(.sel T0 false [(.op (.v (.mv S0))),(.op (.v (.bin .eql T0 (.c (.int .u8 10)))))] .t (.c (.bool true)) T0),mT T0,(.sel T0 false [(.op (.v (.mv S0))),(.op (.v (.bin .eql T0 (.c (.int .u8 13)))))] .t (.c (.bool true)) T0),mS 1 T0]
abbrev c123s2:SCode:=(.seq (.ops c123r1) .ret)
def c123:Gx.Fn:=⟨17,c123k,(.seq (.ops c123r0) c123s2),[(.tmp S1)]⟩
theorem c123ok:stripFn Tryz.prog c123k Tryz.f123=some c123:=by kernel_rfl
@[go_sem] def c124k:List Nat:=[0,2]
@[go_sem] def c124r0:List GOp:=[mS 1 (.c (.bool false))]
@[go_sem] def c124r1:List GOp:=[mT S0,oT (.v (.bin .neq T0 (.c (.int .u8 10)))),mS 1 T0]
abbrev c124s2:SCode:=(.seq (.ops c124r1) .ret)
def c124:Gx.Fn:=⟨5,c124k,(.seq (.ops c124r0) c124s2),[(.tmp S1)]⟩
theorem c124ok:stripFn Tryz.prog c124k Tryz.f124=some c124:=by kernel_rfl
@[go_sem] def c125k:List Nat:=[0,2]
@[go_sem] def c125r0:List GOp:=[mS 1 (.c (.bool false))]
@[go_sem] def c125r1:List GOp:=[mT S0,oT (.v (.bin .geq T0 (.c (.int .u8 97)))),mT T0,(.sel T0 true [(.op (.v (.mv S0))),(.op (.v (.bin .leq T0 (.c (.int .u8 122)))))] .t T0 (.c (.bool false))),mS 1 T0]
abbrev c125s2:SCode:=(.seq (.ops c125r1) .ret)
def c125:Gx.Fn:=⟨9,c125k,(.seq (.ops c125r0) c125s2),[(.tmp S1)]⟩
theorem c125ok:stripFn Tryz.prog c125k Tryz.f125=some c125:=by kernel_rfl
@[go_sem] def c126k:List Nat:=[0,2]
@[go_sem] def c126r0:List GOp:=[mS 1 (.c (.bool false))]
@[go_sem] def c126r1:List GOp:=[mT S0,oT (.call 125 [T0]),mT T0,(.op (some (T0,(false,true))) .t (.v (.mv S0))),(.op (some (T1,(false,false))) .t (.call 127 [T0])),oT (.v (.pick T2 (.c (.bool true)) T0)),mT T0,(.sel T0 false [(.op (.v (.mv S0))),(.op (.v (.bin .eql T0 (.c (.int .u8 45)))))] .t (.c (.bool true)) T0),mS 1 T0]
abbrev c126s2:SCode:=(.seq (.ops c126r1) .ret)
def c126:Gx.Fn:=⟨13,c126k,(.seq (.ops c126r0) c126s2),[(.tmp S1)]⟩
theorem c126ok:stripFn Tryz.prog c126k Tryz.f126=some c126:=by kernel_rfl
@[go_sem] def c127k:List Nat:=[0,2]
@[go_sem] def c127r0:List GOp:=[mS 1 (.c (.bool false))]
@[go_sem] def c127r1:List GOp:=[mT S0,oT (.v (.bin .geq T0 (.c (.int .u8 48)))),mT T0,(.sel T0 true [(.op (.v (.mv S0))),(.op (.v (.bin .leq T0 (.c (.int .u8 57)))))] .t T0 (.c (.bool false))),mS 1 T0]
abbrev c127s2:SCode:=(.seq (.ops c127r1) .ret)
def c127:Gx.Fn:=⟨9,c127k,(.seq (.ops c127r0) c127s2),[(.tmp S1)]⟩
theorem c127ok:stripFn Tryz.prog c127k Tryz.f127=some c127:=by kernel_rfl
@[go_sem] def c110k:List Nat:=[0,2]
@[go_sem] def c110r0:List GOp:=[mS 1 (.c (.bool false))]
@[go_sem] def c110r1:List GOp:=[mT S0,oT (.v (.bin .leq (.c (.int .u8 97)) T0)),mT T0,(.sel T0 true [(.op (.v (.mv S0))),(.op (.v (.bin .leq T0 (.c (.int .u8 122)))))] .t T0 (.c (.bool false))),mT T0,(.sel T0 false [(.op (.v (.mv S0))),(.op (.v (.bin .leq (.c (.int .u8 48)) T0))),(.op (.v (.mv T0))),(.nst T0 true [(.op (.v (.mv S0))),(.op (.v (.bin .leq T0 (.c (.int .u8 57)))))] T0 (.c (.bool false)))] .t (.c (.bool true)) T0),mT T0,(.sel T0 false [(.op (.v (.mv S0))),(.op (.v (.bin .eql T0 (.c (.int .u8 45)))))] .t (.c (.bool true)) T0),mS 1 T0]
abbrev c110s2:SCode:=(.seq (.ops c110r1) .ret)
def c110:Gx.Fn:=⟨21,c110k,(.seq (.ops c110r0) c110s2),[(.tmp S1)]⟩
theorem c110ok:stripFn Tryz.prog c110k Tryz.f110=some c110:=by kernel_rfl
@[go_sem] def c111k:List Nat:=[0,1,4]
@[go_sem] def c111r0:List GOp:=[mS 2 (.c (.bool false))]
@[go_sem] def c111r1:List GOp:=[mT S0,mT S1,oT (.call 121 [T1,T0]),oT (.v (.bin .geq T0 (C 0))),mS 2 T0]
abbrev c111s2:SCode:=(.seq (.ops c111r1) .ret)
def c111:Gx.Fn:=⟨9,c111k,(.seq (.ops c111r0) c111s2),[(.tmp S2)]⟩
theorem c111ok:stripFn Tryz.prog c111k Tryz.f111=some c111:=by kernel_rfl
@[go_sem] def c121k:List Nat:=[0,1,4,5,7,8,9,16]
@[go_sem] def c121r0:List GOp:=[mS 2 (C 0)]
@[go_sem] def c121r1:List GOp:=[mT S0,oS 4 (.v (.len T0)),mS 5 (C 0)]
@[go_sem] def c121r2:List GOp:=[oS 6 (.v (.bin .lss S5 S4))]
@[go_sem] def c121r3:List GOp:=[mT S5,mS 3 T0]
@[go_sem] def c121r4:List GOp:=[mT S1,mT S0,mT S3,oT (.v (.ix 1 T1 T0)),lT T0,oS 7 (.v (.bin .eql T4 T0))]
@[go_sem] def c121r5:List GOp:=[mT S3,mS 2 T0]
abbrev c121s6:SCode:=(.seq (.ops c121r5) .ret)
abbrev c121s7:SCode:=(.seq (.ops c121r4) (.cond S7 c121s6 .skip))
@[go_sem] def c121r8:List GOp:=[oT (.v (.bin .add S5 (C 1))),mS 5 T0]
abbrev c121s9:SCode:=(.ops c121r8)
abbrev c121s10:SCode:=(.seq (.block 1 (.seq (.ops c121r3) c121s7)) c121s9)
abbrev c121s11:SCode:=(.seq (.cond S6 .skip (.exit 0)) c121s10)
abbrev c121s12:SCode:=(.seq (.ops c121r2) c121s11)
abbrev c121s13:SCode:=(.block 0 (.loop c121k c121s12))
@[go_sem] def c121r14:List GOp:=[mS 2 (C (-1))]
abbrev c121s15:SCode:=(.seq (.ops c121r14) .ret)
abbrev c121s16:SCode:=(.seq (.seq (.ops c121r1) c121s13) c121s15)
def c121:Gx.Fn:=⟨19,c121k,(.seq (.ops c121r0) c121s16),[(.tmp S2)]⟩
theorem c121ok:stripFn Tryz.prog c121k Tryz.f121=some c121:=by kernel_rfl
end Go.Proofs.YtmhdkbmnpekpoaaGreatDoor
end
section
namespace Gx
open Go Go.ChangeShapes Go.WideShapes Go.RowKit
theorem below_of {w w':World} (hs:Same w w') (hf:Fr [] w.heap w'.heap):Below w.heap.size w w':=
 ⟨hs.os,hs.tape,hs.output,hf.size,fun k hk=>hf.same k hk (by simp)⟩
section
variable {H:Type} {enc:TypeId × Value→H} {P:Program}
theorem trodAll_stays (hl:laidOutB P=true) {W W':World} (hb:Below W.heap.size W W') {sp:Nat→Bool}:∀ {ts:List TypeId} {vs:List Value} {ds:List (DataW H)} {ps:List MemPlace},
 ts.all (fun t=>P.readableRec t && decide (t < P.types.size))=true→DataW.TrodAll enc P W 0 (fun _=>true) true ts vs ds ps→(∀ x ∈ ps,x.block < W.heap.size)→(∀ x ∈ ps,sp x.block=true)→
 DataW.TrodAll enc P W' 0 sp true ts vs ds ps
 | [],[],[],_,_,h,_,_=>h
 | t :: ts,v :: vs,d :: ds,ps,ht,⟨p,q,h,hs,e⟩,hlt,hsp=>by
   simp only [List.all_cons,Bool.and_eq_true,decide_eq_true_eq] at ht
   subst e
   exact ⟨p,q,WideElems.Trod_stays hl ht.1.1 ht.1.2 h (fun x hx=>hb.same (hlt x (by simp [hx]))) (fun x hx=>hsp x (by simp [hx])),
    trodAll_stays hl hb ht.2 hs (fun x hx=>hlt x (by simp [hx])) (fun x hx=>hsp x (by simp [hx])),rfl⟩
theorem trodAll_len {w:World} {base:Nat} {spare:Nat→Bool} {held:Bool}:∀ {ts:List TypeId} {vs:List Value} {ds:List (DataW H)} {ps:List MemPlace},DataW.TrodAll enc P w base spare held ts vs ds ps→ds.length=ts.length
 | [],[],[],_,_=>rfl
 | _ :: _,_ :: _,_ :: _,_,⟨_,_,_,hs,_⟩=>congrArg (· + 1) (trodAll_len hs)
theorem law_post {f:Func} {s:ChangeSpec} {tb:TypeId} {W W':World} {args:Array Value} {ds gs:List (DataW H)} {before:List MemPlace}
 (hl:laidOutB P=true) (hpar:f.params.toList.all (fun t=>P.readableRec t && decide (t < P.types.size))=true) (hres:f.resultTypes=#[tb]) (htb:P.underlying tb=some .bool) (hv:s.vars=[])
 (hfn:s.fn H (ds ++ gs)={ results:=[.lit (.bool true)],args:=ds })
 (hW:DataW.Whole enc P f.params.toList s.vars false W args.toList ds gs before) (hb:Below W.heap.size W W') :
 s.post enc P f false true false false W args (.bool true) W':=by
 have hW':=hW
 obtain ⟨p,q,hA,hV,rfl,hz,hn⟩:=hW
 rw [hv] at hV
 obtain ⟨rfl,rfl⟩:=trodVars_none hV
 rw [List.append_nil] at hW'
 refine ⟨ds,[],p,[],p,[],hW',?_,?_,?_,hb.frame _,fun h=>by cases h⟩
 ·rw [hfn,hres]
  exact trodAll_cons_mk (shut_bool htb _) trodAll_mk0
 ·rw [hfn]
  exact trodAll_stays hl hb hpar hA (fun x hx=>hW'.lt x hx) (fun x hx=>by simpa using hW'.lt x hx)
 ·rw [hfn,hv]; rfl
variable {W:World} {base:Nat} {sp:Nat→Bool} {held:Bool}
def ElR {α:Type} (R:α→List Value→Heap→Prop) (m:Nat) (H:Heap) (a:Option Addr) (l:List α):Prop:=
 l=[]∨∃ b o,a=some ⟨b,o,none⟩∧∀ j (h:j < l.length),∃ vs,vs.length=m∧(∀ i,i < m→cellB H b (o + j * m + i)=vs[i]?)∧R l[j] vs H
def SlR {α:Type} (R:α→List Value→Heap→Prop) (m:Nat) (l:List α) (cs:List Value) (H:Heap):Prop:=
 ∃ a c,cs=[.slice a l.length c]∧l.length≤c∧c≤maxLen∧ElR R m H a l
theorem list_of {α β:Type} {n:Nat} {Q:Nat→α→Prop} (h:∀ i,i < n→∃ a,Q i a):∃ l:List α,l.length=n∧∀ i (hi:i < l.length),Q i l[i]:=by
 induction n with
 | zero=>exact ⟨[],rfl,fun i hi=>by simp at hi⟩
 | succ n ih=>
   obtain ⟨l,h1,h2⟩:=ih (fun i hi=>h i (by omega))
   obtain ⟨a,ha⟩:=h n (by omega)
   refine ⟨l ++ [a],by simp [h1],fun i hi=>?_⟩
   rcases Nat.lt_or_ge i l.length with h' | h'
   ·rw [List.getElem_append_left h']; exact h2 i h'
   ·have:i=l.length:=by simp at hi; omega
    subst this
    simp; rw [h1]; exact ha
end
end Gx
end
section
namespace Gx
open Go
def CsR (H:Heap) (a:Option Addr) (l:List Value):Prop:=
 l=[]∨∃ b o,a=some ⟨b,o,none⟩∧∀ j (h:j < l.length),cellB H b (o + j)=some l[j]
theorem CsR.fr {M:List Nat} {H H':Heap} {a:Option Addr} {l:List Value} (h:CsR H a l) (hf:Fr M H H') (hm:∀ b o,a=some ⟨b,o,none⟩→b ∉ M):CsR H' a l:=by
 rcases h with h | ⟨b,o,h1,h2⟩
 ·exact .inl h
 ·exact .inr ⟨b,o,h1,fun j hj=>cellB_fr (h2 j hj) hf (hm b o h1)⟩
theorem CsR.ext {H H':Heap} {a:Option Addr} {l:List Value} (h:CsR H a l) (hf:Fr [] H H'):CsR H' a l:=h.fr hf (by simp)
section
variable {α:Type} {f:α→List Value} {m:Nat}
def RowR (f:α→List Value) (H:Heap) (a:Option Addr) (l:List α):Prop:=CsR H a (l.flatMap f)
theorem RowR.fr {M:List Nat} {H H':Heap} {a:Option Addr} {l:List α} (h:RowR f H a l) (hf:Fr M H H') (hm:∀ b o,a=some ⟨b,o,none⟩→b ∉ M):RowR f H' a l:=CsR.fr h hf hm
theorem RowR.ext {H H':Heap} {a:Option Addr} {l:List α} (h:RowR f H a l) (hf:Fr [] H H'):RowR f H' a l:=CsR.ext h hf
theorem length_cells (hm:∀ x,(f x).length=m):∀ l:List α,(l.flatMap f).length=l.length * m
 | []=>by simp
 | x :: l=>by simp [length_cells hm l,hm,Nat.add_mul,Nat.add_comm]
theorem drop_cells (hm:∀ x,(f x).length=m):∀ (l:List α) (n:Nat),(l.flatMap f).drop (n * m)=(l.drop n).flatMap f
 | [],n=>by simp
 | x :: l,0=>by simp
 | x :: l,n + 1=>by
   rw [List.flatMap_cons,List.drop_succ_cons,← drop_cells hm l n,List.drop_append,List.drop_eq_nil_of_le (by rw [hm,Nat.add_mul]; omega),hm]
   simp [Nat.add_mul]
theorem get_cells (hm:∀ x,(f x).length=m) (l:List α) (j i:Nat) (hj:j < l.length) (hi:i < m):(l.flatMap f)[j * m + i]?=(f l[j])[i]?:=by
 have h1:=drop_cells hm l j
 have h2:(l.flatMap f)[j * m + i]?=((l.flatMap f).drop (j * m))[i]?:=by simp
 rw [h2,h1,List.drop_eq_getElem_cons hj,List.flatMap_cons,List.getElem?_append_left (by rw [hm]; exact hi)]
theorem RowR.get {H:Heap} {a:Option Addr} {l:List α} (h:RowR f H a l) (hm:∀ x,(f x).length=m) (j:Nat) (hj:j < l.length) (h0:0 < m):∃ b o,a=some ⟨b,o,none⟩∧∀ i,i < m→cellB H b (o + j * m + i)=(f l[j])[i]?:=by
 have hlen:=length_cells hm l
 have hle:(j + 1) * m≤l.length * m:=Nat.mul_le_mul_right _ hj
 rcases h with h | ⟨b,o,h1,h2⟩
 ·rw [h] at hlen; simp at hlen; rw [Nat.add_mul] at hle; omega
 ·refine ⟨b,o,h1,fun i hi=>?_⟩
  have hlt:j * m + i < (l.flatMap f).length:=by rw [hlen]; rw [Nat.add_mul] at hle; omega
  rw [Nat.add_assoc,h2 _ hlt,← get_cells hm l j i hj hi,List.getElem?_eq_getElem hlt]
theorem Own.csR {H:Heap} {a:Option Addr} {n c e:Nat} {xs:List Value} {g:Option Nat} (h:Own H e m (.slice a n c) n xs g):CsR H a xs:=by
 rcases h.2 with ⟨h1,h2,h3⟩ | ⟨b,cap,cur,h1,h2,h3,h4,h5,h6,h7⟩
 ·subst h3; refine .inl (List.eq_nil_of_length_eq_zero ?_); have:=h.1; omega
 ·refine .inr ⟨b,0,by simp at h2; exact h2.1,fun j hj=>?_⟩
  subst h1
  rw [Nat.zero_add,h.cell j (by have:=h.1; omega)]
  simp [hj]
theorem Own.rowR {H:Heap} {a:Option Addr} {n c e:Nat} {l:List α} {g:Option Nat} (h:Own H e m (.slice a n c) n (l.flatMap f) g):RowR f H a l:=Own.csR h
end
theorem Sto_all {b t:Nat} {l vs:List Value} {H:Heap} {R:Heap→Prop} (h:Blk H b t l) (hl:vs.length=l.length) (h1:∀ v ∈ vs,v.oneCell'=true)
 (hR:∀ H',Blk H' b t vs→Fr [b] H H'→H'.size=H.size→R H'):Sto H ⟨b,0,none⟩ vs 0 R:=
 Sto_blk vs H l 0 0 h (by omega) h1 fun H' hb hf hs=>hR H' (by
  rw [setL_eq _ _ _ (by omega)] at hb
  rw [List.drop_eq_nil_of_le (by omega)] at hb
  simpa using hb) hf hs
end Gx
end
section
namespace Gx
open Go
def CsA (H:Heap) (M:List Nat) (a:Option Addr) (l:List Value):Prop:=
 l=[]∨∃ b o,a=some ⟨b,o,none⟩∧b ∉ M∧∀ j (h:j < l.length),cellB H b (o + j)=some l[j]
theorem CsA.csR {H:Heap} {M:List Nat} {a:Option Addr} {l:List Value} (h:CsA H M a l):CsR H a l:=by
 rcases h with h | ⟨b,o,h1,_,h2⟩
 ·exact .inl h
 ·exact .inr ⟨b,o,h1,h2⟩
def Stays (H:Heap) (M:List Nat) (H':Heap) (M':List Nat):Prop:=∀ b,b < H.size→b ∉ M→b ∉ M'∧H'[b]?=H[b]?
theorem Stays.fr {H H':Heap} {M M':List Nat} (hf:Fr M' H H') (hm:∀ x,x ∈ M'→x ∈ M∨H.size≤x):Stays H M H' M:=fun b hb hn=>
 ⟨hn,hf.same b hb fun h=>by rcases hm b h with q | q; exact hn q; omega⟩
theorem Stays.ext {H H':Heap} {M:List Nat} (hf:Fr [] H H'):Stays H M H' M:=Stays.fr hf (by simp)
theorem CsA.to {H H':Heap} {M M':List Nat} {a:Option Addr} {l:List Value} (h:CsA H M a l) (hs:Stays H M H' M'):CsA H' M' a l:=by
 rcases h with h | ⟨b,o,h1,h2,h3⟩
 ·exact .inl h
 ·rcases Nat.eq_zero_or_pos l.length with h0 | h0
  ·exact .inl (List.eq_nil_of_length_eq_zero h0)
  ·have hlt:=cellB_lt (h3 0 h0)
   obtain ⟨q1,q2⟩:=hs b hlt h2
   refine .inr ⟨b,o,h1,q1,fun j hj=>?_⟩
   have:=h3 j hj
   unfold cellB at *
   rw [q2]; exact this
inductive Dat where
 | v (x:Value)
 | list (m:Nat) (l:List Dat)
 | agg (l:List Dat)
mutual
def Rep (H:Heap) (M:List Nat):Dat→List Value→Prop
 | .v x,cs=>cs=[x]
 | .list m l,cs=>∃ a c css,cs=[.slice a l.length c]∧l.length≤c∧c≤maxLen∧Reps H M l css∧(∀ x ∈ css,x.length=m)∧CsA H M a css.flatten
 | .agg l,cs=>∃ css,cs=css.flatten∧Reps H M l css
def Reps (H:Heap) (M:List Nat):List Dat→List (List Value)→Prop
 | [],css=>css=[]
 | d :: ds,css=>∃ x xs,css=x :: xs∧Rep H M d x∧Reps H M ds xs
end
section
variable {H H':Heap} {M M':List Nat} {α:Type}
mutual
theorem Rep.to (hs:Stays H M H' M'):∀ (d:Dat) (cs:List Value),Rep H M d cs→Rep H' M' d cs
 | .v x,cs,h=>by simpa [Rep] using h
 | .list m l,cs,h=>by
   simp only [Rep] at h ⊢
   obtain ⟨a,c,css,h1,h2,h3,h4,h5,h6⟩:=h
   exact ⟨a,c,css,h1,h2,h3,Reps.to hs l css h4,h5,h6.to hs⟩
 | .agg l,cs,h=>by
   simp only [Rep] at h ⊢
   obtain ⟨css,h1,h2⟩:=h
   exact ⟨css,h1,Reps.to hs l css h2⟩
theorem Reps.to (hs:Stays H M H' M'):∀ (l:List Dat) (css:List (List Value)),Reps H M l css→Reps H' M' l css
 | [],css,h=>by simpa [Reps] using h
 | d :: ds,css,h=>by
   simp only [Reps] at h ⊢
   obtain ⟨x,xs,h1,h2,h3⟩:=h
   exact ⟨x,xs,h1,Rep.to hs d x h2,Reps.to hs ds xs h3⟩
end
theorem Rep.ext {d:Dat} {cs:List Value} (h:Rep H M d cs) (hf:Fr [] H H'):Rep H' M d cs:=Rep.to (Stays.ext hf) d cs h
theorem Rep.stay {d:Dat} {cs:List Value} (h:Rep H M d cs) (hs:Stays H M H' M'):Rep H' M' d cs:=Rep.to hs d cs h
theorem Reps.length:∀ {l:List Dat} {css:List (List Value)},Reps H M l css→css.length=l.length
 | [],css,h=>by simp only [Reps] at h; subst h; rfl
 | d :: ds,css,h=>by
   simp only [Reps] at h
   obtain ⟨x,xs,rfl,_,h3⟩:=h
   simp [Reps.length h3]
theorem Reps.get:∀ {l:List Dat} {css:List (List Value)},Reps H M l css→∀ (j:Nat) (hj:j < l.length),∃ x,css[j]?=some x∧Rep H M l[j] x
 | [],css,h,j,hj=>by simp at hj
 | d :: ds,css,h,j,hj=>by
   simp only [Reps] at h
   obtain ⟨x,xs,rfl,h2,h3⟩:=h
   cases j with
   | zero=>exact ⟨x,rfl,h2⟩
   | succ j=>simpa using Reps.get h3 j (by simpa using hj)
theorem Reps.append:∀ {l l':List Dat} {css css':List (List Value)},Reps H M l css→Reps H M l' css'→Reps H M (l ++ l') (css ++ css')
 | [],l',css,css',h,h'=>by simp only [Reps] at h; subst h; exact h'
 | d :: ds,l',css,css',h,h'=>by
   simp only [Reps] at h
   obtain ⟨x,xs,rfl,h2,h3⟩:=h
   exact ⟨x,xs ++ css',rfl,h2,Reps.append h3 h'⟩
theorem Reps.take:∀ {l:List Dat} {css:List (List Value)} (n:Nat),Reps H M l css→Reps H M (l.take n) (css.take n)
 | [],css,n,h=>by simp only [Reps] at h; subst h; simp [Reps]
 | d :: ds,css,0,h=>by simp [Reps]
 | d :: ds,css,n + 1,h=>by
   simp only [Reps] at h
   obtain ⟨x,xs,rfl,h2,h3⟩:=h
   exact ⟨x,xs.take n,rfl,h2,Reps.take n h3⟩
theorem Reps.drop:∀ {l:List Dat} {css:List (List Value)} (n:Nat),Reps H M l css→Reps H M (l.drop n) (css.drop n)
 | [],css,n,h=>by simp only [Reps] at h; subst h; simp [Reps]
 | d :: ds,css,0,h=>h
 | d :: ds,css,n + 1,h=>by
   simp only [Reps] at h
   obtain ⟨x,xs,rfl,h2,h3⟩:=h
   exact Reps.drop n h3
theorem flatten_len {m:Nat}:∀ {css:List (List Value)},(∀ x ∈ css,x.length=m)→css.flatten.length=css.length * m
 | [],_=>by simp
 | x :: css,h=>by
   have:=flatten_len (css:=css) fun y hy=>h y (by simp [hy])
   simp [this,h x (by simp),Nat.add_mul,Nat.add_comm]
theorem flatten_take {m:Nat}:∀ {css:List (List Value)} (n:Nat),(∀ x ∈ css,x.length=m)→css.flatten.take (n * m)=(css.take n).flatten
 | [],n,_=>by simp
 | x :: css,0,h=>by simp
 | x :: css,n + 1,h=>by
   rw [List.flatten_cons,List.take_succ_cons,List.flatten_cons,← flatten_take n (fun y hy=>h y (by simp [hy])),List.take_append,List.take_of_length_le (by rw [h x (by simp),Nat.add_mul]; omega),h x (by simp)]
   simp [Nat.add_mul]
theorem flatten_drop {m:Nat}:∀ {css:List (List Value)} (n:Nat),(∀ x ∈ css,x.length=m)→css.flatten.drop (n * m)=(css.drop n).flatten
 | [],n,_=>by simp
 | x :: css,0,h=>by simp
 | x :: css,n + 1,h=>by
   rw [List.flatten_cons,List.drop_succ_cons,← flatten_drop n (fun y hy=>h y (by simp [hy])),List.drop_append,List.drop_eq_nil_of_le (by rw [h x (by simp),Nat.add_mul]; omega),h x (by simp)]
   simp [Nat.add_mul]
theorem Rep.at {m:Nat} {l:List Dat} {v:Value} (h:Rep H M (.list m l) [v]) (j:Nat) (hj:j < l.length) (h0:0 < m) :
 ∃ b o c x,v= .slice (some ⟨b,o,none⟩) l.length c∧b ∉ M∧x.length=m∧(∀ i,i < m→cellB H b (o + j * m + i)=x[i]?)∧Rep H M l[j] x:=by
 simp only [Rep] at h
 obtain ⟨a,c,css,h1,h2,h3,h4,h5,h6⟩:=h
 simp only [List.cons.injEq,and_true] at h1
 have hlen:=Reps.length h4
 obtain ⟨x,hx,hr⟩:=Reps.get h4 j hj
 have hxm:x ∈ css:=List.mem_of_getElem? hx
 have hxl:=h5 x hxm
 have hfl:=flatten_len h5
 have hle:(j + 1) * m≤l.length * m:=Nat.mul_le_mul_right _ hj
 rw [Nat.add_mul,Nat.one_mul] at hle
 rcases h6 with h6 | ⟨b,o,h7,h8,h9⟩
 ·rw [h6,hlen] at hfl
  simp only [List.length_nil] at hfl
  omega
 ·refine ⟨b,o,c,x,by rw [h1,h7],h8,hxl,fun i hi=>?_,hr⟩
  have hlt:j * m + i < css.flatten.length:=by rw [hfl,hlen]; omega
  rw [Nat.add_assoc,h9 _ hlt,← List.getElem?_eq_getElem hlt]
  have e1:css.flatten[j * m + i]?=(css.flatten.drop (j * m))[i]?:=by simp
  have hj':j < css.length:=by omega
  rw [e1,flatten_drop j h5,List.drop_eq_getElem_cons hj',List.flatten_cons,List.getElem?_append_left (by
   rw [List.getElem?_eq_getElem hj'] at hx; cases hx; omega)]
  rw [List.getElem?_eq_getElem hj'] at hx; cases hx; rfl
theorem Rep.slice {m:Nat} {l:List Dat} {v:Value} (h:Rep H M (.list m l) [v]):∃ a c,v= .slice a l.length c∧l.length≤c∧c≤maxLen:=by
 simp only [Rep] at h
 obtain ⟨a,c,css,h1,h2,h3,_⟩:=h
 simp only [List.cons.injEq,and_true] at h1
 exact ⟨a,c,h1,h2,h3⟩
theorem Rep.nil (m:Nat):Rep H M (.list m []) [.slice none 0 0]:=by
 simp only [Rep]
 exact ⟨none,0,[],rfl,Nat.le_refl _,by decide,rfl,by simp,.inl rfl⟩
theorem Rep.takeL {m:Nat} {l:List Dat} {a:Option Addr} {n c:Nat} (h:Rep H M (.list m l) [.slice a n c]) {k:Nat} (hk:k≤l.length):Rep H M (.list m (l.take k)) [.slice a k c]:=by
 simp only [Rep] at h ⊢
 obtain ⟨a',c',css,h1,h2,h3,h4,h5,h6⟩:=h
 simp only [List.cons.injEq,and_true,Value.slice.injEq] at h1
 obtain ⟨rfl,rfl,rfl⟩:=h1
 refine ⟨a,c,css.take k,by rw [List.length_take,Nat.min_eq_left hk],by rw [List.length_take]; omega,h3,Reps.take k h4,fun x hx=>h5 x (List.mem_of_mem_take hx),?_⟩
 rw [← flatten_take k h5]
 rcases h6 with h6 | ⟨b,o,h7,h8,h9⟩
 ·exact .inl (by rw [h6]; simp)
 ·refine .inr ⟨b,o,h7,h8,fun j hj=>?_⟩
  simp only [List.length_take] at hj
  rw [h9 j (by omega)]; simp
def leaf (f:α→List Value) (x:α):Dat:=.agg ((f x).map .v)
end
end Gx
end
section
namespace Go.Proofs
def Tryz.laysM173_ren:Go.Shelf.Ren:=⟨fun | 173=>100 | 246=>117 | 283=>131 | 284=>132 | 285=>133 | 286=>134 | 129=>139 | 317=>138 | 318=>140 | 319=>141 | 320=>142 | 337=>149 | 338=>150 | n=>n,fun | 2=>2 | 3=>3 | 9=>9 | 4=>4 | 171=>128 | 0=>0 | 53=>129 | 37=>41 | 5=>5 | 173=>132 | 212=>137 | 51=>138 | 20=>20 | 213=>139 | 46=>141 | 232=>154 | 233=>155 | n=>n,fun | 17=>0 | 18=>3 | 19=>4 | n=>n⟩
theorem Tryz.laysM173:Go.Proofs.LaysM.n173 Tryz.prog Tryz.laysM173_ren:={
 mixed:=by kernel_rfl
 f129:=Tryz.func139.trans (congrArg some (by kernel_rfl))
 f173:=Tryz.func100.trans (congrArg some (by kernel_rfl))
 f246:=Tryz.func117.trans (congrArg some (by kernel_rfl))
 f283:=Tryz.func131.trans (congrArg some (by kernel_rfl))
 f284:=Tryz.func132.trans (congrArg some (by kernel_rfl))
 f285:=Tryz.func133.trans (congrArg some (by kernel_rfl))
 f286:=Tryz.func134.trans (congrArg some (by kernel_rfl))
 f317:=Tryz.func138.trans (congrArg some (by kernel_rfl))
 f318:=Tryz.func140.trans (congrArg some (by kernel_rfl))
 f319:=Tryz.func141.trans (congrArg some (by kernel_rfl))
 f320:=Tryz.func142.trans (congrArg some (by kernel_rfl))
 f337:=Tryz.func149.trans (congrArg some (by kernel_rfl))
 f338:=Tryz.func150.trans (congrArg some (by kernel_rfl))
 t0:=Tryz.underlying0
 a0:=Tryz.isAgg0
 z0:=Tryz.sizeOf0
 v0:=Tryz.zeroValue0
 t2:=Tryz.underlying2
 a2:=Tryz.isAgg2
 z2:=Tryz.sizeOf2
 v2:=Tryz.zeroValue2
 t3:=Tryz.underlying3
 a3:=Tryz.isAgg3
 z3:=Tryz.sizeOf3
 v3:=Tryz.zeroValue3
 t4:=Tryz.underlying4
 a4:=Tryz.isAgg4
 z4:=Tryz.sizeOf4
 v4:=Tryz.zeroValue4
 t5:=Tryz.underlying5
 a5:=Tryz.isAgg5
 z5:=Tryz.sizeOf5
 v5:=Tryz.zeroValue5
 t9:=Tryz.underlying9
 a9:=Tryz.isAgg9
 z9:=Tryz.sizeOf9
 v9:=Tryz.zeroValue9
 t20:=Tryz.underlying20
 a20:=Tryz.isAgg20
 z20:=Tryz.sizeOf20
 v20:=Tryz.zeroValue20
 t37:=Tryz.underlying41
 a37:=Tryz.isAgg41
 z37:=Tryz.sizeOf41
 v37:=Tryz.zeroValue41
 t46:=Tryz.underlying141
 a46:=Tryz.isAgg141
 z46:=Tryz.sizeOf141
 v46:=Tryz.zeroValue141
 t51:=Tryz.underlying138
 a51:=Tryz.isAgg138
 z51:=Tryz.sizeOf138
 v51:=Tryz.zeroValue138
 t53:=Tryz.underlying129
 a53:=Tryz.isAgg129
 z53:=Tryz.sizeOf129
 v53:=Tryz.zeroValue129
 t171:=Tryz.underlying128
 a171:=Tryz.isAgg128
 z171:=Tryz.sizeOf128
 v171:=Tryz.zeroValue128
 t173:=Tryz.underlying132
 a173:=Tryz.isAgg132
 z173:=Tryz.sizeOf132
 v173:=Tryz.zeroValue132
 t212:=Tryz.underlying137
 a212:=Tryz.isAgg137
 z212:=Tryz.sizeOf137
 v212:=Tryz.zeroValue137
 t213:=Tryz.underlying139
 a213:=Tryz.isAgg139
 z213:=Tryz.sizeOf139
 t232:=Tryz.underlying154
 a232:=Tryz.isAgg154
 z232:=Tryz.sizeOf154
 v232:=Tryz.zeroValue154
 t233:=Tryz.underlying155
 a233:=Tryz.isAgg155
 z233:=Tryz.sizeOf155
 v233:=Tryz.zeroValue155
 g17:=by kernel_rfl
 g18:=by kernel_rfl
 g19:=by kernel_rfl
 i0:=by kernel_rfl
 i2:=by kernel_rfl
 i3:=by kernel_rfl
 i4:=by kernel_rfl
 i5:=by kernel_rfl
 i9:=by kernel_rfl
 i20:=by kernel_rfl
 i37:=by kernel_rfl
 i46:=by kernel_rfl
 i51:=by kernel_rfl
 i53:=by kernel_rfl
 i171:=by kernel_rfl
 i173:=by kernel_rfl
 i212:=by kernel_rfl
 i232:=by kernel_rfl
 i233:=by kernel_rfl
 m17:=by kernel_rfl
 m18:=by kernel_rfl
 m19:=by kernel_rfl }
open Go.RowKit Go.Sort Go.Lib in
theorem Tryz.strconv_FormatInt_10 (n:Int) (h0:-9223372036854775808≤n) (h1:n≤9223372036854775807) (w:World) (htab:Lib.TabIs Tryz.prog w "internal/strconv.uint64pow10" .u64 Lib.pow10Tab) :
 Calls Tryz.prog 100 #[.int .i64 n,.int .i64 10] w fun e w'=>e= .returned (.string ⟨(Lib.itoa n).toArray⟩)∧∃ k os,w'=grow (w.drewN k) os:=Any.strconv_FormatInt_10 Tryz.laysM173 n h0 h1 w htab
def Tryz.laysC174_ren:Go.Shelf.Ren:=⟨fun | 174=>128 | 247=>135 | 245=>136 | 287=>143 | 279=>144 | 280=>145 | 281=>146 | 282=>147 | 321=>151 | 322=>152 | 316=>153 | 171=>155 | 205=>154 | 243=>157 | 246=>117 | 283=>131 | 284=>132 | 285=>133 | 286=>134 | 129=>139 | 317=>138 | 318=>140 | 319=>141 | 320=>142 | 337=>149 | 338=>150 | n=>n,fun | 9=>9 | 3=>3 | 2=>2 | 75=>79 | 85=>125 | 4=>4 | 167=>143 | 5=>5 | 53=>129 | 175=>144 | 46=>141 | 168=>146 | 37=>41 | 0=>0 | 210=>152 | 21=>21 | 127=>102 | 145=>158 | 143=>156 | 171=>128 | 173=>132 | 212=>137 | 51=>138 | 20=>20 | 213=>139 | 232=>154 | 233=>155 | 80=>69 | n=>n,fun | 15=>1 | 16=>2 | 17=>0 | 18=>3 | 19=>4 | n=>n⟩
theorem Tryz.laysC174:Go.Proofs.LaysC.n174 Tryz.prog Tryz.laysC174_ren:={
 mixed:=by kernel_rfl
 f129:=Tryz.func139.trans (congrArg some (by kernel_rfl))
 f171:=Tryz.func155.trans (congrArg some (by kernel_rfl))
 f174:=Tryz.func128.trans (congrArg some (by kernel_rfl))
 f205:=Tryz.func154.trans (congrArg some (by kernel_rfl))
 f243:=Tryz.func157.trans (congrArg some (by kernel_rfl))
 f245:=Tryz.func136.trans (congrArg some (by kernel_rfl))
 f246:=Tryz.func117.trans (congrArg some (by kernel_rfl))
 f247:=Tryz.func135.trans (congrArg some (by kernel_rfl))
 f279:=Tryz.func144.trans (congrArg some (by kernel_rfl))
 f280:=Tryz.func145.trans (congrArg some (by kernel_rfl))
 f281:=Tryz.func146.trans (congrArg some (by kernel_rfl))
 f282:=Tryz.func147.trans (congrArg some (by kernel_rfl))
 f283:=Tryz.func131.trans (congrArg some (by kernel_rfl))
 f284:=Tryz.func132.trans (congrArg some (by kernel_rfl))
 f285:=Tryz.func133.trans (congrArg some (by kernel_rfl))
 f286:=Tryz.func134.trans (congrArg some (by kernel_rfl))
 f287:=Tryz.func143.trans (congrArg some (by kernel_rfl))
 f316:=Tryz.func153.trans (congrArg some (by kernel_rfl))
 f317:=Tryz.func138.trans (congrArg some (by kernel_rfl))
 f318:=Tryz.func140.trans (congrArg some (by kernel_rfl))
 f319:=Tryz.func141.trans (congrArg some (by kernel_rfl))
 f320:=Tryz.func142.trans (congrArg some (by kernel_rfl))
 f321:=Tryz.func151.trans (congrArg some (by kernel_rfl))
 f322:=Tryz.func152.trans (congrArg some (by kernel_rfl))
 f337:=Tryz.func149.trans (congrArg some (by kernel_rfl))
 f338:=Tryz.func150.trans (congrArg some (by kernel_rfl))
 t0:=Tryz.underlying0
 a0:=Tryz.isAgg0
 z0:=Tryz.sizeOf0
 v0:=Tryz.zeroValue0
 t2:=Tryz.underlying2
 a2:=Tryz.isAgg2
 z2:=Tryz.sizeOf2
 v2:=Tryz.zeroValue2
 t3:=Tryz.underlying3
 a3:=Tryz.isAgg3
 z3:=Tryz.sizeOf3
 v3:=Tryz.zeroValue3
 t4:=Tryz.underlying4
 a4:=Tryz.isAgg4
 z4:=Tryz.sizeOf4
 v4:=Tryz.zeroValue4
 t5:=Tryz.underlying5
 a5:=Tryz.isAgg5
 z5:=Tryz.sizeOf5
 v5:=Tryz.zeroValue5
 t9:=Tryz.underlying9
 a9:=Tryz.isAgg9
 z9:=Tryz.sizeOf9
 v9:=Tryz.zeroValue9
 t20:=Tryz.underlying20
 a20:=Tryz.isAgg20
 z20:=Tryz.sizeOf20
 v20:=Tryz.zeroValue20
 t21:=Tryz.underlying21
 a21:=Tryz.isAgg21
 z21:=Tryz.sizeOf21
 v21:=Tryz.zeroValue21
 t37:=Tryz.underlying41
 a37:=Tryz.isAgg41
 z37:=Tryz.sizeOf41
 v37:=Tryz.zeroValue41
 t46:=Tryz.underlying141
 a46:=Tryz.isAgg141
 z46:=Tryz.sizeOf141
 v46:=Tryz.zeroValue141
 t51:=Tryz.underlying138
 a51:=Tryz.isAgg138
 z51:=Tryz.sizeOf138
 v51:=Tryz.zeroValue138
 t53:=Tryz.underlying129
 a53:=Tryz.isAgg129
 z53:=Tryz.sizeOf129
 v53:=Tryz.zeroValue129
 t75:=Tryz.underlying79
 a75:=Tryz.isAgg79
 z75:=Tryz.sizeOf79
 v75:=Tryz.zeroValue79
 t85:=Tryz.underlying125
 a85:=Tryz.isAgg125
 z85:=Tryz.sizeOf125
 v85:=Tryz.zeroValue125
 t127:=Tryz.underlying102
 a127:=Tryz.isAgg102
 z127:=Tryz.sizeOf102
 v127:=Tryz.zeroValue102
 t143:=Tryz.underlying156
 a143:=Tryz.isAgg156
 z143:=Tryz.sizeOf156
 v143:=Tryz.zeroValue156
 t145:=Tryz.underlying158
 a145:=Tryz.isAgg158
 z145:=Tryz.sizeOf158
 v145:=Tryz.zeroValue158
 t167:=Tryz.underlying143
 a167:=Tryz.isAgg143
 z167:=Tryz.sizeOf143
 v167:=Tryz.zeroValue143
 t168:=Tryz.underlying146
 a168:=Tryz.isAgg146
 z168:=Tryz.sizeOf146
 v168:=Tryz.zeroValue146
 t171:=Tryz.underlying128
 a171:=Tryz.isAgg128
 z171:=Tryz.sizeOf128
 v171:=Tryz.zeroValue128
 t173:=Tryz.underlying132
 a173:=Tryz.isAgg132
 z173:=Tryz.sizeOf132
 v173:=Tryz.zeroValue132
 t175:=Tryz.underlying144
 a175:=Tryz.isAgg144
 z175:=Tryz.sizeOf144
 v175:=Tryz.zeroValue144
 t210:=Tryz.underlying152
 a210:=Tryz.isAgg152
 z210:=Tryz.sizeOf152
 v210:=Tryz.zeroValue152
 t212:=Tryz.underlying137
 a212:=Tryz.isAgg137
 z212:=Tryz.sizeOf137
 v212:=Tryz.zeroValue137
 t213:=Tryz.underlying139
 a213:=Tryz.isAgg139
 z213:=Tryz.sizeOf139
 t232:=Tryz.underlying154
 a232:=Tryz.isAgg154
 z232:=Tryz.sizeOf154
 v232:=Tryz.zeroValue154
 t233:=Tryz.underlying155
 a233:=Tryz.isAgg155
 z233:=Tryz.sizeOf155
 v233:=Tryz.zeroValue155
 g15:=by kernel_rfl
 g16:=by kernel_rfl
 g17:=by kernel_rfl
 g18:=by kernel_rfl
 g19:=by kernel_rfl
 t80:=Tryz.underlying69
 a80:=Tryz.isAgg69
 z80:=Tryz.sizeOf69
 v80:=Tryz.zeroValue69
 i0:=by kernel_rfl
 i2:=by kernel_rfl
 i3:=by kernel_rfl
 i4:=by kernel_rfl
 i5:=by kernel_rfl
 i9:=by kernel_rfl
 i20:=by kernel_rfl
 i21:=by kernel_rfl
 i37:=by kernel_rfl
 i46:=by kernel_rfl
 i51:=by kernel_rfl
 i53:=by kernel_rfl
 i75:=by kernel_rfl
 i80:=by kernel_rfl
 i85:=by kernel_rfl
 i127:=by kernel_rfl
 i143:=by kernel_rfl
 i145:=by kernel_rfl
 i167:=by kernel_rfl
 i168:=by kernel_rfl
 i171:=by kernel_rfl
 i173:=by kernel_rfl
 i175:=by kernel_rfl
 i210:=by kernel_rfl
 i212:=by kernel_rfl
 i232:=by kernel_rfl
 i233:=by kernel_rfl
 m15:=by kernel_rfl
 m16:=by kernel_rfl
 m17:=by kernel_rfl
 m18:=by kernel_rfl
 m19:=by kernel_rfl
 c0:=by kernel_rfl
 c2:=by kernel_rfl
 c3:=by kernel_rfl
 c4:=by kernel_rfl
 c5:=by kernel_rfl
 c9:=by kernel_rfl
 c20:=by kernel_rfl
 c21:=by kernel_rfl
 c37:=by kernel_rfl
 c46:=by kernel_rfl
 c51:=by kernel_rfl
 c53:=by kernel_rfl
 c75:=by kernel_rfl
 c80:=by kernel_rfl
 c85:=by kernel_rfl
 c127:=by kernel_rfl
 c143:=by kernel_rfl
 c145:=by kernel_rfl
 c167:=by kernel_rfl
 c168:=by kernel_rfl
 c171:=by kernel_rfl
 c173:=by kernel_rfl
 c175:=by kernel_rfl
 c210:=by kernel_rfl
 c212:=by kernel_rfl
 c213:=by kernel_rfl
 c232:=by kernel_rfl
 c233:=by kernel_rfl }
open Go.RowKit in
theorem Tryz.strconv_ParseInt_10_at64_ok (s:ByteArray) (hmax:s.size≤9223372036854775806) (v:Int) (h:Lib.parseIntB 64 s.data.toList= .ok v) (w:World) :
 Calls Tryz.prog 128 #[.string s,.int .i64 10,.int .i64 64] w fun e w'=>e= .returned (.tuple #[.int .i64 v,.nilIface])∧(w'=w∨∃ t,w'=Lib.bytesWorld w 5 t):=Any.strconv_ParseInt_10_at64_ok Tryz.laysC174 s hmax v h w
open Go.RowKit in
theorem Tryz.strconv_ParseInt_10_at64_range (s:ByteArray) (hlim:s.size≤281474976710656) (h:Lib.parseIntB 64 s.data.toList= .range) (ev:Value) (w:World) (hv:w.cell? ⟨2,0,none⟩=some ev) (hev:ev= .nilIface∨∃ te pe,ev= .iface te pe) :
 Calls Tryz.prog 128 #[.string s,.int .i64 10,.int .i64 64] w fun e w'=>∃ N,e= .returned (.tuple #[.int .i64 (Lib.intSat 64 s.data.toList),.iface 146 (.pointer (some ⟨N,0,none⟩))])∧w.heap.size≤N∧w'.heap[N]?=some (.cells #[.string ⟨#[80,97,114,115,101,73,110,116]⟩,.string s,ev] 152 (0,0))∧Below w.heap.size w w':=Any.strconv_ParseInt_10_at64_range Tryz.laysC174 s hlim h ev w hv hev
end Go.Proofs
end
section
namespace Go.Proofs.YtmhdkbmnpekpoaaGreatDoor
open Gx Go
@[go_sem] def c27k:List Nat:=[0,2]
@[go_sem] def c27r0:List GOp:=[oS 1 (.al 24 [(I 0),(.string ⟨⟨[]⟩⟩),(I 0),(I 0),Z])]
@[go_sem] def c27r1:List GOp:=[mT S0,oT (.call 28 [T0]),oN (.st 5 S1 T0)]
abbrev c27s2:SCode:=(.seq (.ops c27r1) .ret)
def c27:Gx.Fn:=⟨5,c27k,(.seq (.ops c27r0) c27s2),[(.cell S1 (some 5))]⟩
theorem c27ok:stripFn Tryz.prog c27k Tryz.f27=some c27:=by kernel_rfl
@[go_sem] def c28k:List Nat:=[0,2,3,4,5,8]
@[go_sem] def c28r0:List GOp:=[oS 1 (.al 24 [(I 0),(.string ⟨⟨[]⟩⟩),(I 0),(I 0),Z])]
@[go_sem] def c28r1:List GOp:=[mT S0,oT (.call 54 [T0,(.c (.string ⟨⟨[105,102]⟩⟩))]),oS 5 (.v (.un .not T0))]
@[go_sem] def c28r2:List GOp:=[mT S0,oT (.call 55 [T0]),oN (.st 5 S1 T0)]
abbrev c28s3:SCode:=(.seq (.ops c28r2) .ret)
@[go_sem] def c28r4:List GOp:=[mT S0,oT (.call 56 [T0,(.c (.string ⟨⟨[105,102]⟩⟩))]),oT (.v (.bld [(I 0),(.string ⟨⟨[]⟩⟩),(I 0),(I 0),Z] [(0,(1,(C 30))),(3,(1,T0))])),oS 2 (.al 24 [(I 0),(.string ⟨⟨[]⟩⟩),(I 0),(I 0),Z]),oN (.st 5 S2 T0)]
@[go_sem] def c28r5:List GOp:=[mT S0,oT (.call 28 [T0]),oS 3 (.al 24 [(I 0),(.string ⟨⟨[]⟩⟩),(I 0),(I 0),Z]),oN (.st 5 S3 T0)]
@[go_sem] def c28r6:List GOp:=[mT S0,oT (.call 57 [T0,(.c (.string ⟨⟨[116,104,101,110]⟩⟩))])]
@[go_sem] def c28r7:List GOp:=[mT S0,oT (.call 28 [T0]),oS 4 (.al 24 [(I 0),(.string ⟨⟨[]⟩⟩),(I 0),(I 0),Z]),oN (.st 5 S4 T0)]
@[go_sem] def c28r8:List GOp:=[mT S0,oT (.call 57 [T0,(.c (.string ⟨⟨[101,108,115,101]⟩⟩))])]
@[go_sem] def c28d9:DT:=(.rd none .t (.ld (some 5) S3) [4,6] (.rd none .t (.ld (some 5) S4) [4,6] (rm S0 [3,4,6] (.ef 3 none .t (.call 28 [T0]) (.ef 4 none .t (.bs 24 3 [(I 0),(.string ⟨⟨[]⟩⟩),(I 0),(I 0),Z,(I 0),(.string ⟨⟨[]⟩⟩),(I 0),(I 0),Z,(I 0),(.string ⟨⟨[]⟩⟩),(I 0),(I 0),Z] [(0,(5,T3)),(5,(5,T2)),(10,(5,T0))]) (rf 4 S2 [6] (.ef 6 none .no (.st 1 T0 T1) .done)))))))
@[go_sem] def c28r10:List GOp:=[mT S0,oT (.call 58 [T0])]
@[go_sem] def c28r11:List GOp:=[oT (.ld (some 5) S2),oN (.st 5 S1 T0)]
abbrev c28s12:SCode:=(.seq (.ops c28r11) .ret)
abbrev c28s13:SCode:=(.seq (.ops c28r10) c28s12)
abbrev c28s14:SCode:=(.seq (.de c28d9) c28s13)
abbrev c28s15:SCode:=(.seq (.ops c28r8) c28s14)
abbrev c28s16:SCode:=(.seq (.ops c28r7) c28s15)
abbrev c28s17:SCode:=(.seq (.ops c28r6) c28s16)
abbrev c28s18:SCode:=(.seq (.ops c28r5) c28s17)
abbrev c28s19:SCode:=(.seq (.ops c28r4) c28s18)
abbrev c28s20:SCode:=(.seq (.seq (.ops c28r1) (.cond S5 c28s3 .skip)) c28s19)
def c28:Gx.Fn:=⟨31,c28k,(.seq (.ops c28r0) c28s20),[(.cell S1 (some 5))]⟩
theorem c28ok:stripFn Tryz.prog c28k Tryz.f28=some c28:=by kernel_rfl
@[go_sem] def c34k:List Nat:=[0,2,3,8]
@[go_sem] def c34r0:List GOp:=[oS 1 (.al 24 [(I 0),(.string ⟨⟨[]⟩⟩),(I 0),(I 0),Z])]
@[go_sem] def c34r1:List GOp:=[oT (.v (.bld [(I 0),(.string ⟨⟨[]⟩⟩),(I 0),(I 0),Z] [(0,(1,(C 1)))])),oS 2 (.al 24 [(I 0),(.string ⟨⟨[]⟩⟩),(I 0),(I 0),Z]),oN (.st 5 S2 T0)]
@[go_sem] def c34r2:List GOp:=[mT S0,oT (.call 35 [T0]),oT (.v (.fld1 0 T0)),oS 3 (.v (.bin .neq T0 (C 6)))]
abbrev c34s3:SCode:=(.cond S3 .skip (.exit 0))
@[go_sem] def c34d4:DT:=(rf 4 S2 [5,7] (rl T0 [5,7] (rm S0 [3,4,5,7] (.ef 3 none .t (.call 36 [T0]) (.ef 4 none .t (.bs 24 1 [(I 0),(.string ⟨⟨[]⟩⟩),(I 0),(I 0),Z] [(0,(5,T0))]) (.ef 5 none .t (.ap 22 22 T3 T0) (rf 4 S2 [7] (.ef 7 none .no (.st 1 T0 T1) .done))))))))
abbrev c34s5:SCode:=(.seq (.seq (.ops c34r2) c34s3) (.block 1 (.de c34d4)))
@[go_sem] def c34r6:List GOp:=[oT (.ld (some 5) S2),oN (.st 5 S1 T0)]
abbrev c34s7:SCode:=(.seq (.ops c34r6) .ret)
abbrev c34s8:SCode:=(.seq (.block 0 (.loop c34k c34s5)) c34s7)
abbrev c34s9:SCode:=(.seq (.ops c34r1) c34s8)
def c34:Gx.Fn:=⟨17,c34k,(.seq (.ops c34r0) c34s9),[(.cell S1 (some 5))]⟩
theorem c34ok:stripFn Tryz.prog c34k Tryz.f34=some c34:=by kernel_rfl
@[go_sem] def c35k:List Nat:=[0,2]
@[go_sem] def c35r0:List GOp:=[oS 1 (.al 58 [(I 0),(.string ⟨⟨[]⟩⟩),(I 0),(I 0)])]
@[go_sem] def c35d1:DT:=(rm S0 [10] (.rd none .t (.v (.nc T0)) [10] (rf 0 T0 [10] (rl T0 [10] (rm S0 [10] (.rd none .t (.v (.nc T0)) [10] (rf 1 T0 [10] (rl T0 [10] (.rd none .t (.v (.ix 4 T4 T0)) [10] (.rd none .t (.ld (some 4) T0) [10] (.ef 10 none .no (.st 4 S1 T0) .done)))))))))))
def c35:Gx.Fn:=⟨13,c35k,(.seq (.ops c35r0) (.seq (.de c35d1) .ret)),[(.cell S1 (some 4))]⟩
theorem c35ok:stripFn Tryz.prog c35k Tryz.f35=some c35:=by kernel_rfl
@[go_sem] def c36k:List Nat:=[0,2,3,4,11,15,19,23,32,38,59,74,82]
@[go_sem] def c36r0:List GOp:=[oS 1 (.al 24 [(I 0),(.string ⟨⟨[]⟩⟩),(I 0),(I 0),Z])]
@[go_sem] def c36r1:List GOp:=[mT S0,oT (.call 35 [T0]),oT (.v (.fld1 3 T0)),oT (.v (.bld [(I 0),(.string ⟨⟨[]⟩⟩),(I 0),(I 0),Z] [(3,(1,T0))])),oS 2 (.al 24 [(I 0),(.string ⟨⟨[]⟩⟩),(I 0),(I 0),Z]),oN (.st 5 S2 T0)]
@[go_sem] def c36r2:List GOp:=[mT S0,oT (.call 61 [T0,(.c (.string ⟨⟨[108,97,116,116,105,99,101]⟩⟩))]),mS 4 T0]
@[go_sem] def c36r3:List GOp:=[fT 0 S2,oN (.st 1 T0 (C 2))]
@[go_sem] def c36r4:List GOp:=[mT S0,oT (.call 61 [T0,(.c (.string ⟨⟨[111,98,106,101,99,116]⟩⟩))]),mS 5 T0]
@[go_sem] def c36r5:List GOp:=[fT 0 S2,oN (.st 1 T0 (C 3))]
@[go_sem] def c36r6:List GOp:=[mT S0,oT (.call 61 [T0,(.c (.string ⟨⟨[117,112,100,97,116,101]⟩⟩))]),mS 6 T0]
@[go_sem] def c36r7:List GOp:=[fT 0 S2,oN (.st 1 T0 (C 4))]
@[go_sem] def c36r8:List GOp:=[mT S0,oT (.call 61 [T0,(.c (.string ⟨⟨[113,117,101,114,121]⟩⟩))]),mS 7 T0]
@[go_sem] def c36r9:List GOp:=[fT 0 S2,oN (.st 1 T0 (C 5))]
@[go_sem] def c36r10:List GOp:=[mT S0,oT (.call 53 [T0,(C 2)])]
abbrev c36s11:SCode:=(.cond S7 (.ops c36r9) (.ops c36r10))
abbrev c36s12:SCode:=(.seq (.ops c36r8) c36s11)
abbrev c36s13:SCode:=(.cond S6 (.ops c36r7) c36s12)
abbrev c36s14:SCode:=(.seq (.ops c36r6) c36s13)
abbrev c36s15:SCode:=(.cond S5 (.ops c36r5) c36s14)
abbrev c36s16:SCode:=(.seq (.ops c36r4) c36s15)
abbrev c36s17:SCode:=(.cond S4 (.ops c36r3) c36s16)
@[go_sem] def c36r18:List GOp:=[mT S0,oT (.call 62 [T0,(C 1)]),oT (.v (.fld1 1 T0)),fT 1 S2,oN (.st 1 T0 T1)]
@[go_sem] def c36r19:List GOp:=[fT 0 S2,oS 8 (.ld none T0)]
@[go_sem] def c36r20:List GOp:=[oT (.v (.bin .eql S8 (C 2))),mS 11 T0]
@[go_sem] def c36r21:List GOp:=[mT S0,oT (.call 57 [T0,(.c (.string ⟨⟨[61]⟩⟩))])]
@[go_sem] def c36r22:List GOp:=[mT S0,oT (.call 40 [T0]),oT (.bs 24 1 [(I 0),(.string ⟨⟨[]⟩⟩),(I 0),(I 0),Z] [(0,(5,T0))]),fT 4 S2,oN (.st 1 T0 T1)]
abbrev c36s23:SCode:=(.ops c36r22)
abbrev c36s24:SCode:=(.seq (.ops c36r21) c36s23)
@[go_sem] def c36r25:List GOp:=[oT (.v (.bin .eql S8 (C 3))),mS 12 T0]
@[go_sem] def c36r26:List GOp:=[mT S0,oT (.call 57 [T0,(.c (.string ⟨⟨[58]⟩⟩))])]
@[go_sem] def c36r27:List GOp:=[mT S0,oT (.call 40 [T0]),oT (.bs 24 1 [(I 0),(.string ⟨⟨[]⟩⟩),(I 0),(I 0),Z] [(0,(5,T0))]),fT 4 S2,oN (.st 1 T0 T1)]
abbrev c36s28:SCode:=(.ops c36r27)
abbrev c36s29:SCode:=(.seq (.ops c36r26) c36s28)
@[go_sem] def c36r30:List GOp:=[mT S0,oT (.call 57 [T0,(.c (.string ⟨⟨[40]⟩⟩))])]
@[go_sem] def c36r31:List GOp:=[mT S0,oT (.call 61 [T0,(.c (.string ⟨⟨[41]⟩⟩))]),oT (.v (.un .not T0)),mS 3 T0]
@[go_sem] def c36r32:List GOp:=[mS 9 S3]
abbrev c36s33:SCode:=(.cond S9 .skip (.exit 2))
@[go_sem] def c36d34:DT:=(rf 4 S2 [5,7] (rl T0 [5,7] (rm S0 [3,4,5,7] (.ef 3 none .t (.call 64 [T0]) (.ef 4 none .t (.bs 24 1 [(I 0),(.string ⟨⟨[]⟩⟩),(I 0),(I 0),Z] [(0,(5,T0))]) (.ef 5 none .t (.ap 22 22 T3 T0) (rf 4 S2 [7] (.ef 7 none .no (.st 1 T0 T1) .done))))))))
@[go_sem] def c36r35:List GOp:=[mT S0,oT (.call 63 [T0]),mS 3 T0]
abbrev c36s36:SCode:=(.ops c36r35)
abbrev c36s37:SCode:=(.seq (.block 3 (.de c36d34)) c36s36)
abbrev c36s38:SCode:=(.seq (.seq (.ops c36r32) c36s33) c36s37)
abbrev c36s39:SCode:=(.block 2 (.loop c36k c36s38))
@[go_sem] def c36r40:List GOp:=[mT S0,oT (.call 57 [T0,(.c (.string ⟨⟨[111,110]⟩⟩))])]
@[go_sem] def c36d41:DT:=(rf 4 S2 [5,7] (rl T0 [5,7] (rm S0 [3,4,5,7] (.ef 3 none .t (.call 65 [T0,(C 48)]) (.ef 4 none .t (.bs 24 1 [(I 0),(.string ⟨⟨[]⟩⟩),(I 0),(I 0),Z] [(0,(5,T0))]) (.ef 5 none .t (.ap 22 22 T3 T0) (rf 4 S2 [7] (.ef 7 none .no (.st 1 T0 T1) .done))))))))
@[go_sem] def c36r42:List GOp:=[fT 0 S2,lT T0,oS 10 (.v (.bin .eql T0 (C 5)))]
@[go_sem] def c36r43:List GOp:=[mT S0,oT (.call 57 [T0,(.c (.string ⟨⟨[58]⟩⟩))])]
@[go_sem] def c36r44:List GOp:=[mT S0,oT (.call 66 [T0]),fT 2 S2,oN (.st 1 T0 T1)]
abbrev c36s45:SCode:=(.ops c36r44)
abbrev c36s46:SCode:=(.seq (.ops c36r43) c36s45)
abbrev c36s47:SCode:=(.cond S10 c36s46 .skip)
@[go_sem] def c36r48:List GOp:=[mT S0,oT (.call 57 [T0,(.c (.string ⟨⟨[61]⟩⟩))])]
@[go_sem] def c36d49:DT:=(rf 4 S2 [5,7] (rl T0 [5,7] (rm S0 [3,4,5,7] (.ef 3 none .t (.call 28 [T0]) (.ef 4 none .t (.bs 24 1 [(I 0),(.string ⟨⟨[]⟩⟩),(I 0),(I 0),Z] [(0,(5,T0))]) (.ef 5 none .t (.ap 22 22 T3 T0) (rf 4 S2 [7] (.ef 7 none .no (.st 1 T0 T1) .done))))))))
abbrev c36s50:SCode:=(.de c36d49)
def c36s51:SCode:=(.seq (.ops c36r48) c36s50)
theorem c36s51eq:U c36s51 (.seq (.ops c36r48) c36s50):=fun _ _ _ _ _=>rfl
abbrev c36s52:SCode:=(.seq (.seq (.ops c36r42) c36s47) c36s51)
abbrev c36s53:SCode:=(.seq (.de c36d41) c36s52)
abbrev c36s54:SCode:=(.seq (.ops c36r40) c36s53)
abbrev c36s55:SCode:=(.seq (.seq (.ops c36r31) c36s39) c36s54)
def c36s56:SCode:=(.seq (.ops c36r30) c36s55)
theorem c36s56eq:U c36s56 (.seq (.ops c36r30) c36s55):=fun _ _ _ _ _=>rfl
abbrev c36s57:SCode:=(.cond S12 c36s29 c36s56)
abbrev c36s58:SCode:=(.seq (.ops c36r25) c36s57)
abbrev c36s59:SCode:=(.cond S11 c36s24 c36s58)
abbrev c36s60:SCode:=(.block 1 (.seq (.ops c36r20) c36s59))
@[go_sem] def c36r61:List GOp:=[mT S0,oT (.call 57 [T0,(.c (.string ⟨⟨[59]⟩⟩))])]
@[go_sem] def c36r62:List GOp:=[oT (.ld (some 5) S2),oN (.st 5 S1 T0)]
abbrev c36s63:SCode:=(.seq (.ops c36r62) .ret)
abbrev c36s64:SCode:=(.seq (.ops c36r61) c36s63)
abbrev c36s65:SCode:=(.seq (.seq (.ops c36r19) c36s60) c36s64)
abbrev c36s66:SCode:=(.seq (.ops c36r18) c36s65)
abbrev c36s67:SCode:=(.seq (.block 0 (.seq (.ops c36r2) c36s17)) c36s66)
abbrev c36s68:SCode:=(.seq (.ops c36r1) c36s67)
def c36:Gx.Fn:=⟨93,c36k,(.seq (.ops c36r0) c36s68),[(.cell S1 (some 5))]⟩
theorem c36ok:stripFn Tryz.prog c36k Tryz.f36=some c36:=by kernel_rfl
@[go_sem] def c40k:List Nat:=[0,2,3,4,5,6,14,20,24,28,35,42,60,69,78,91,97,118]
@[go_sem] def c40r0:List GOp:=[oS 1 (.al 24 [(I 0),(.string ⟨⟨[]⟩⟩),(I 0),(I 0),Z])]
@[go_sem] def c40r1:List GOp:=[mT S0,oT (.call 35 [T0]),oS 2 (.al 58 [(I 0),(.string ⟨⟨[]⟩⟩),(I 0),(I 0)]),oN (.st 4 S2 T0)]
@[go_sem] def c40r2:List GOp:=[fT 3 S2,lT T0,oT (.v (.bld [(I 0),(.string ⟨⟨[]⟩⟩),(I 0),(I 0),Z] [(3,(1,T0))])),oS 3 (.al 24 [(I 0),(.string ⟨⟨[]⟩⟩),(I 0),(I 0),Z]),oN (.st 5 S3 T0)]
@[go_sem] def c40r3:List GOp:=[fT 0 S2,lT T0,oT (.v (.bin .eql T0 (C 1))),mS 6 T0]
@[go_sem] def c40r4:List GOp:=[mT S0,oT (.call 65 [T0,(C 21)]),oN (.st 5 S1 T0)]
abbrev c40s5:SCode:=(.seq (.ops c40r4) .ret)
@[go_sem] def c40r6:List GOp:=[mT S0,oT (.call 61 [T0,(.c (.string ⟨⟨[102,108,97,103]⟩⟩))]),mS 7 T0]
@[go_sem] def c40r7:List GOp:=[fT 0 S3,oN (.st 1 T0 (C 10))]
@[go_sem] def c40r8:List GOp:=[mT S0,oT (.call 61 [T0,(.c (.string ⟨⟨[114,101,103,105,115,116,101,114]⟩⟩))]),mS 8 T0]
@[go_sem] def c40r9:List GOp:=[fT 0 S3,oN (.st 1 T0 (C 18))]
@[go_sem] def c40r10:List GOp:=[mT S0,oT (.call 61 [T0,(.c (.string ⟨⟨[115,101,116]⟩⟩))]),mS 9 T0]
@[go_sem] def c40r11:List GOp:=[mT S0,oT (.call 71 [T0]),fT 0 S3,oN (.st 1 T0 (C 13)),fT 4 S3,oN (.st 1 T0 T2)]
@[go_sem] def c40r12:List GOp:=[mT S0,oT (.call 61 [T0,(.c (.string ⟨⟨[102,108,97,116]⟩⟩))]),mS 10 T0]
@[go_sem] def c40r13:List GOp:=[mT S0,oT (.call 71 [T0]),fT 0 S3,oN (.st 1 T0 (C 17)),fT 4 S3,oN (.st 1 T0 T2)]
@[go_sem] def c40r14:List GOp:=[mT S0,oT (.call 54 [T0,(.c (.string ⟨⟨[109,97,112]⟩⟩))]),mS 11 T0]
@[go_sem] def c40r15:List GOp:=[mT S0,oT (.call 56 [T0,(.c (.string ⟨⟨[109,97,112]⟩⟩))])]
@[go_sem] def c40r16:List GOp:=[mT S0,oT (.call 71 [T0]),fT 0 S3,oN (.st 1 T0 (C 14)),fT 4 S3,oN (.st 1 T0 T2)]
@[go_sem] def c40d17:DT:=(rf 4 S3 [5,7] (rl T0 [5,7] (rm S0 [3,4,5,7] (.ef 3 none .t (.call 40 [T0]) (.ef 4 none .t (.bs 24 1 [(I 0),(.string ⟨⟨[]⟩⟩),(I 0),(I 0),Z] [(0,(5,T0))]) (.ef 5 none .t (.ap 22 22 T3 T0) (rf 4 S3 [7] (.ef 7 none .no (.st 1 T0 T1) .done))))))))
@[go_sem] def c40r18:List GOp:=[mT S0,oT (.call 58 [T0])]
abbrev c40s19:SCode:=(.ops c40r18)
abbrev c40s20:SCode:=(.seq (.de c40d17) c40s19)
abbrev c40s21:SCode:=(.seq (.ops c40r16) c40s20)
abbrev c40s22:SCode:=(.seq (.ops c40r15) c40s21)
@[go_sem] def c40r23:List GOp:=[mT S0,oT (.call 61 [T0,(.c (.string ⟨⟨[109,97,120]⟩⟩))]),mS 12 T0]
@[go_sem] def c40r24:List GOp:=[mT S0,mT S0,oT (.v (.mkf 73 [T0] [])),oT (.call 72 [T2,T0]),fT 0 S3,oN (.st 1 T0 (C 11)),fT 4 S3,oN (.st 1 T0 T2)]
@[go_sem] def c40r25:List GOp:=[mT S0,oT (.call 61 [T0,(.c (.string ⟨⟨[109,105,110]⟩⟩))]),mS 13 T0]
@[go_sem] def c40r26:List GOp:=[mT S0,mT S0,oT (.v (.mkf 73 [T0] [])),oT (.call 72 [T2,T0]),fT 0 S3,oN (.st 1 T0 (C 12)),fT 4 S3,oN (.st 1 T0 T2)]
@[go_sem] def c40r27:List GOp:=[mT S0,oT (.call 54 [T0,(.c (.string ⟨⟨[108,101,120]⟩⟩))]),mS 14 T0]
@[go_sem] def c40r28:List GOp:=[mT S0,oT (.call 56 [T0,(.c (.string ⟨⟨[108,101,120]⟩⟩))])]
@[go_sem] def c40r29:List GOp:=[mT S0,mT S0,oT (.v (.mkf 40 [T0] [])),oT (.call 72 [T2,T0]),fT 0 S3,oN (.st 1 T0 (C 16)),fT 4 S3,oN (.st 1 T0 T2)]
@[go_sem] def c40r30:List GOp:=[mT S0,oT (.call 58 [T0])]
abbrev c40s31:SCode:=(.ops c40r30)
abbrev c40s32:SCode:=(.seq (.ops c40r29) c40s31)
abbrev c40s33:SCode:=(.seq (.ops c40r28) c40s32)
@[go_sem] def c40r34:List GOp:=[mT S0,oT (.call 54 [T0,(.c (.string ⟨⟨[123]⟩⟩))]),mS 15 T0]
@[go_sem] def c40r35:List GOp:=[mT S0,oT (.call 56 [T0,(.c (.string ⟨⟨[123]⟩⟩))])]
@[go_sem] def c40r36:List GOp:=[fT 0 S3,oN (.st 1 T0 (C 15))]
@[go_sem] def c40r37:List GOp:=[mS 4 (.c (.bool true))]
@[go_sem] def c40r38:List GOp:=[mS 16 S4]
abbrev c40s39:SCode:=(.cond S16 .skip (.exit 1))
@[go_sem] def c40r40:List GOp:=[mT S0,oT (.call 65 [T0,(C 22)]),oS 5 (.al 24 [(I 0),(.string ⟨⟨[]⟩⟩),(I 0),(I 0),Z]),oN (.st 5 S5 T0)]
@[go_sem] def c40r41:List GOp:=[mT S0,oT (.call 57 [T0,(.c (.string ⟨⟨[58]⟩⟩))])]
@[go_sem] def c40r42:List GOp:=[mT S0,oT (.call 40 [T0]),oT (.bs 24 1 [(I 0),(.string ⟨⟨[]⟩⟩),(I 0),(I 0),Z] [(0,(5,T0))]),fT 4 S5,oN (.st 1 T0 T1)]
@[go_sem] def c40r43:List GOp:=[fT 4 S3,lT T0,oT (.ld (some 5) S5),oT (.bs 24 1 [(I 0),(.string ⟨⟨[]⟩⟩),(I 0),(I 0),Z] [(0,(5,T0))]),oT (.ap 22 22 T2 T0),fT 4 S3,oN (.st 1 T0 T1)]
abbrev c40s44:SCode:=(.ops c40r43)
abbrev c40s45:SCode:=(.seq (.ops c40r42) c40s44)
abbrev c40s46:SCode:=(.seq (.ops c40r41) c40s45)
@[go_sem] def c40r47:List GOp:=[mT S0,oT (.call 61 [T0,(.c (.string ⟨⟨[44]⟩⟩))]),mS 4 T0]
abbrev c40s48:SCode:=(.ops c40r47)
abbrev c40s49:SCode:=(.seq (.block 2 (.seq (.ops c40r40) c40s46)) c40s48)
abbrev c40s50:SCode:=(.seq (.seq (.ops c40r38) c40s39) c40s49)
abbrev c40s51:SCode:=(.block 1 (.loop c40k c40s50))
@[go_sem] def c40r52:List GOp:=[mT S0,oT (.call 57 [T0,(.c (.string ⟨⟨[125]⟩⟩))])]
@[go_sem] def c40r53:List GOp:=[mT S0,oT (.call 58 [T0])]
abbrev c40s54:SCode:=(.ops c40r53)
abbrev c40s55:SCode:=(.seq (.ops c40r52) c40s54)
abbrev c40s56:SCode:=(.seq (.seq (.ops c40r37) c40s51) c40s55)
abbrev c40s57:SCode:=(.seq (.ops c40r36) c40s56)
abbrev c40s58:SCode:=(.seq (.ops c40r35) c40s57)
@[go_sem] def c40r59:List GOp:=[mT S0,oT (.call 61 [T0,(.c (.string ⟨⟨[99,108,111,115,101,100]⟩⟩))]),mS 17 T0]
@[go_sem] def c40r60:List GOp:=[mT S0,oT (.call 74 [T0]),fT 0 S3,oN (.st 1 T0 (C 19)),fT 4 S3,oN (.st 1 T0 T2)]
@[go_sem] def c40r61:List GOp:=[mT S0,oT (.call 53 [T0,(C 2)])]
abbrev c40s62:SCode:=(.cond S17 (.ops c40r60) (.ops c40r61))
abbrev c40s63:SCode:=(.seq (.ops c40r59) c40s62)
abbrev c40s64:SCode:=(.cond S15 c40s58 c40s63)
abbrev c40s65:SCode:=(.seq (.ops c40r34) c40s64)
abbrev c40s66:SCode:=(.cond S14 c40s33 c40s65)
abbrev c40s67:SCode:=(.seq (.ops c40r27) c40s66)
abbrev c40s68:SCode:=(.cond S13 (.ops c40r26) c40s67)
abbrev c40s69:SCode:=(.seq (.ops c40r25) c40s68)
abbrev c40s70:SCode:=(.cond S12 (.ops c40r24) c40s69)
abbrev c40s71:SCode:=(.seq (.ops c40r23) c40s70)
abbrev c40s72:SCode:=(.cond S11 c40s22 c40s71)
abbrev c40s73:SCode:=(.seq (.ops c40r14) c40s72)
abbrev c40s74:SCode:=(.cond S10 (.ops c40r13) c40s73)
abbrev c40s75:SCode:=(.seq (.ops c40r12) c40s74)
abbrev c40s76:SCode:=(.cond S9 (.ops c40r11) c40s75)
abbrev c40s77:SCode:=(.seq (.ops c40r10) c40s76)
abbrev c40s78:SCode:=(.cond S8 (.ops c40r9) c40s77)
abbrev c40s79:SCode:=(.seq (.ops c40r8) c40s78)
abbrev c40s80:SCode:=(.cond S7 (.ops c40r7) c40s79)
abbrev c40s81:SCode:=(.seq (.ops c40r6) c40s80)
@[go_sem] def c40r82:List GOp:=[oT (.ld (some 5) S3),oN (.st 5 S1 T0)]
abbrev c40s83:SCode:=(.seq (.ops c40r82) .ret)
abbrev c40s84:SCode:=(.seq (.block 0 (.seq (.ops c40r3) (.cond S6 c40s5 c40s81))) c40s83)
abbrev c40s85:SCode:=(.seq (.ops c40r2) c40s84)
abbrev c40s86:SCode:=(.seq (.ops c40r1) c40s85)
def c40:Gx.Fn:=⟨126,c40k,(.seq (.ops c40r0) c40s86),[(.cell S1 (some 5))]⟩
theorem c40ok:stripFn Tryz.prog c40k Tryz.f40=some c40:=by kernel_rfl
@[go_sem] def c53k:List Nat:=[0,1]
@[go_sem] def c53r0:List GOp:=[mT S1,mT S0,oT (.call 35 [T0]),oT (.v (.fld1 3 T0)),oT (.v (.bld [(I 0),(I 0)] [(0,(1,T3)),(1,(1,T0))])),oT (.v (.mki 31 T0)),oN (.pnc T0)]
def c53:Gx.Fn:=⟨10,c53k,(.ops c53r0),[]⟩
theorem c53ok:stripFn Tryz.prog c53k Tryz.f53=some c53:=by kernel_rfl
@[go_sem] def c54k:List Nat:=[0,1,4,5]
@[go_sem] def c54r0:List GOp:=[mS 2 (.c (.bool false))]
@[go_sem] def c54r1:List GOp:=[mT S0,oT (.call 35 [T0]),oS 3 (.al 58 [(I 0),(.string ⟨⟨[]⟩⟩),(I 0),(I 0)]),oN (.st 4 S3 T0)]
@[go_sem] def c54r2:List GOp:=[fT 0 S3,lT T0,oT (.v (.bin .eql T0 (C 2))),mT T0,(.sel T0 false [(.op (.v (.fa 0 S3))),(.op (.ld none T0)),(.op (.v (.bin .eql T0 (C 5))))] .t (.c (.bool true)) T0),mT T0,(.sel T0 true [(.op (.v (.fa 1 S3))),(.op (.ld none T0)),(.op (.v (.mv S1))),(.op (.v (.bin .eql T1 T0)))] .t T0 (.c (.bool false))),mS 2 T0]
abbrev c54s3:SCode:=(.seq (.ops c54r2) .ret)
abbrev c54s4:SCode:=(.seq (.ops c54r1) c54s3)
def c54:Gx.Fn:=⟨22,c54k,(.seq (.ops c54r0) c54s4),[(.tmp S2)]⟩
theorem c54ok:stripFn Tryz.prog c54k Tryz.f54=some c54:=by kernel_rfl
@[go_sem] def c55k:List Nat:=[0,2]
@[go_sem] def c55r0:List GOp:=[oS 1 (.al 24 [(I 0),(.string ⟨⟨[]⟩⟩),(I 0),(I 0),Z])]
@[go_sem] def c55r1:List GOp:=[mT S0,mT S0,oT (.v (.mkf 97 [T0] [])),oT .mm,oN (.ins T0 (.c (.string ⟨⟨[111,114]⟩⟩)) (C 31)),mT T0,oT (.call 96 [T4,T2,T0]),oN (.st 5 S1 T0)]
abbrev c55s2:SCode:=(.seq (.ops c55r1) .ret)
def c55:Gx.Fn:=⟨9,c55k,(.seq (.ops c55r0) c55s2),[(.cell S1 (some 5))]⟩
theorem c55ok:stripFn Tryz.prog c55k Tryz.f55=some c55:=by kernel_rfl
@[go_sem] def c56k:List Nat:=[0,1,4,5,15]
@[go_sem] def c56r0:List GOp:=[mS 2 (C 0)]
@[go_sem] def c56r1:List GOp:=[mT S0,mT S1,oT (.call 54 [T1,T0]),mT T0,(.sel T0 true [(.op (.v (.mv S0))),(.op (.v (.nc T0))),(.op (.v (.fa 2 T0))),(.op (.ld none T0)),(.op (.v (.bin .eql T0 (C 64))))] (.s 4) T0 (.c (.bool false)))]
@[go_sem] def c56r2:List GOp:=[mT S0,oT (.call 53 [T0,(C 6)])]
abbrev c56s3:SCode:=(.cond S4 (.ops c56r2) .skip)
@[go_sem] def c56r4:List GOp:=[mT S0,mT S1,oT (.call 57 [T1,T0]),mS 3 T0]
@[go_sem] def c56r5:List GOp:=[mT S0,oT (.v (.nc T0)),fT 2 T0,lT T0,oT (.v (.bin .add T0 (C 1))),oT (.v (.nc T4)),fT 2 T0,oN (.st 1 T0 T2)]
@[go_sem] def c56r6:List GOp:=[mT S3,mS 2 T0]
abbrev c56s7:SCode:=(.seq (.ops c56r6) .ret)
abbrev c56s8:SCode:=(.seq (.ops c56r5) c56s7)
abbrev c56s9:SCode:=(.seq (.ops c56r4) c56s8)
abbrev c56s10:SCode:=(.seq (.seq (.ops c56r1) c56s3) c56s9)
def c56:Gx.Fn:=⟨29,c56k,(.seq (.ops c56r0) c56s10),[(.tmp S2)]⟩
theorem c56ok:stripFn Tryz.prog c56k Tryz.f56=some c56:=by kernel_rfl
@[go_sem] def c57k:List Nat:=[0,1,4,5,12]
@[go_sem] def c57r0:List GOp:=[mS 2 (C 0)]
@[go_sem] def c57r1:List GOp:=[mT S0,oT (.call 35 [T0]),oT (.v (.fld1 3 T0)),mS 3 T0]
@[go_sem] def c57r2:List GOp:=[mT S0,mT S1,oT (.call 61 [T1,T0]),oS 4 (.v (.un .not T0))]
@[go_sem] def c57r3:List GOp:=[mT S0,oT (.call 53 [T0,(C 2)])]
abbrev c57s4:SCode:=(.cond S4 (.ops c57r3) .skip)
@[go_sem] def c57r5:List GOp:=[mT S3,mS 2 T0]
abbrev c57s6:SCode:=(.seq (.ops c57r5) .ret)
abbrev c57s7:SCode:=(.seq (.seq (.ops c57r2) c57s4) c57s6)
abbrev c57s8:SCode:=(.seq (.ops c57r1) c57s7)
def c57:Gx.Fn:=⟨16,c57k,(.seq (.ops c57r0) c57s8),[(.tmp S2)]⟩
theorem c57ok:stripFn Tryz.prog c57k Tryz.f57=some c57:=by kernel_rfl
@[go_sem] def c58k:List Nat:=[0]
@[go_sem] def c58r0:List GOp:=[mT S0,oT (.v (.nc T0)),fT 2 T0,lT T0,oT (.v (.bin .sub T0 (C 1))),oT (.v (.nc T4)),fT 2 T0,oN (.st 1 T0 T2)]
def c58:Gx.Fn:=⟨9,c58k,(.ops c58r0),[]⟩
theorem c58ok:stripFn Tryz.prog c58k Tryz.f58=some c58:=by kernel_rfl
@[go_sem] def c61k:List Nat:=[0,1,4,8]
@[go_sem] def c61r0:List GOp:=[mS 2 (.c (.bool false))]
@[go_sem] def c61r1:List GOp:=[mT S0,mT S1,oT (.call 54 [T1,T0]),oS 3 (.v (.un .not T0))]
@[go_sem] def c61r2:List GOp:=[mS 2 (.c (.bool false))]
abbrev c61s3:SCode:=(.seq (.ops c61r2) .ret)
@[go_sem] def c61r4:List GOp:=[mT S0,oT (.v (.nc T0)),fT 1 T0,lT T0,oT (.v (.bin .add T0 (C 1))),oT (.v (.nc T4)),fT 1 T0,oN (.st 1 T0 T2)]
@[go_sem] def c61r5:List GOp:=[mS 2 (.c (.bool true))]
abbrev c61s6:SCode:=(.seq (.ops c61r5) .ret)
abbrev c61s7:SCode:=(.seq (.ops c61r4) c61s6)
abbrev c61s8:SCode:=(.seq (.seq (.ops c61r1) (.cond S3 c61s3 .skip)) c61s7)
def c61:Gx.Fn:=⟨16,c61k,(.seq (.ops c61r0) c61s8),[(.tmp S2)]⟩
theorem c61ok:stripFn Tryz.prog c61k Tryz.f61=some c61:=by kernel_rfl
@[go_sem] def c62k:List Nat:=[0,1,4,5,11]
@[go_sem] def c62r0:List GOp:=[oS 2 (.al 58 [(I 0),(.string ⟨⟨[]⟩⟩),(I 0),(I 0)])]
@[go_sem] def c62r1:List GOp:=[mT S0,oT (.call 35 [T0]),oS 3 (.al 58 [(I 0),(.string ⟨⟨[]⟩⟩),(I 0),(I 0)]),oN (.st 4 S3 T0)]
@[go_sem] def c62r2:List GOp:=[fT 0 S3,lT T0,mT S1,oS 4 (.v (.bin .neq T1 T0))]
@[go_sem] def c62r3:List GOp:=[mT S0,oT (.call 53 [T0,(C 2)])]
abbrev c62s4:SCode:=(.cond S4 (.ops c62r3) .skip)
@[go_sem] def c62r5:List GOp:=[mT S0,oT (.v (.nc T0)),fT 1 T0,lT T0,oT (.v (.bin .add T0 (C 1))),oT (.v (.nc T4)),fT 1 T0,oN (.st 1 T0 T2)]
@[go_sem] def c62r6:List GOp:=[oT (.ld (some 4) S3),oN (.st 4 S2 T0)]
abbrev c62s7:SCode:=(.seq (.ops c62r6) .ret)
abbrev c62s8:SCode:=(.seq (.ops c62r5) c62s7)
abbrev c62s9:SCode:=(.seq (.seq (.ops c62r2) c62s4) c62s8)
abbrev c62s10:SCode:=(.seq (.ops c62r1) c62s9)
def c62:Gx.Fn:=⟨22,c62k,(.seq (.ops c62r0) c62s10),[(.cell S2 (some 4))]⟩
theorem c62ok:stripFn Tryz.prog c62k Tryz.f62=some c62:=by kernel_rfl
@[go_sem] def c63k:List Nat:=[0,2,4]
@[go_sem] def c63r0:List GOp:=[mS 1 (.c (.bool false))]
@[go_sem] def c63r1:List GOp:=[mT S0,oS 2 (.call 61 [T0,(.c (.string ⟨⟨[44]⟩⟩))])]
@[go_sem] def c63r2:List GOp:=[mS 1 (.c (.bool true))]
abbrev c63s3:SCode:=(.seq (.ops c63r2) .ret)
@[go_sem] def c63r4:List GOp:=[mT S0,oT (.call 57 [T0,(.c (.string ⟨⟨[41]⟩⟩))])]
@[go_sem] def c63r5:List GOp:=[mS 1 (.c (.bool false))]
abbrev c63s6:SCode:=(.seq (.ops c63r5) .ret)
abbrev c63s7:SCode:=(.seq (.ops c63r4) c63s6)
abbrev c63s8:SCode:=(.seq (.seq (.ops c63r1) (.cond S2 c63s3 .skip)) c63s7)
def c63:Gx.Fn:=⟨7,c63k,(.seq (.ops c63r0) c63s8),[(.tmp S1)]⟩
theorem c63ok:stripFn Tryz.prog c63k Tryz.f63=some c63:=by kernel_rfl
@[go_sem] def c64k:List Nat:=[0,2,3]
@[go_sem] def c64r0:List GOp:=[oS 1 (.al 24 [(I 0),(.string ⟨⟨[]⟩⟩),(I 0),(I 0),Z])]
@[go_sem] def c64r1:List GOp:=[mT S0,oT (.call 65 [T0,(C 6)]),oS 2 (.al 24 [(I 0),(.string ⟨⟨[]⟩⟩),(I 0),(I 0),Z]),oN (.st 5 S2 T0)]
@[go_sem] def c64r2:List GOp:=[mT S0,oT (.call 57 [T0,(.c (.string ⟨⟨[58]⟩⟩))])]
@[go_sem] def c64r3:List GOp:=[mT S0,oT (.call 66 [T0]),fT 2 S2,oN (.st 1 T0 T1)]
@[go_sem] def c64r4:List GOp:=[oT (.ld (some 5) S2),oN (.st 5 S1 T0)]
abbrev c64s5:SCode:=(.seq (.ops c64r4) .ret)
abbrev c64s6:SCode:=(.seq (.ops c64r3) c64s5)
abbrev c64s7:SCode:=(.seq (.ops c64r2) c64s6)
abbrev c64s8:SCode:=(.seq (.ops c64r1) c64s7)
def c64:Gx.Fn:=⟨12,c64k,(.seq (.ops c64r0) c64s8),[(.cell S1 (some 5))]⟩
theorem c64ok:stripFn Tryz.prog c64k Tryz.f64=some c64:=by kernel_rfl
@[go_sem] def c65k:List Nat:=[0,1,4,5]
@[go_sem] def c65r0:List GOp:=[oS 2 (.al 24 [(I 0),(.string ⟨⟨[]⟩⟩),(I 0),(I 0),Z])]
@[go_sem] def c65r1:List GOp:=[mT S0,oT (.call 62 [T0,(C 1)]),oS 3 (.al 58 [(I 0),(.string ⟨⟨[]⟩⟩),(I 0),(I 0)]),oN (.st 4 S3 T0)]
@[go_sem] def c65r2:List GOp:=[mT S1,fT 1 S3,lT T0,fT 3 S3,lT T0,oT (.v (.bld [(I 0),(.string ⟨⟨[]⟩⟩),(I 0),(I 0),Z] [(0,(1,T4)),(1,(1,T2)),(3,(1,T0))])),oN (.st 5 S2 T0)]
abbrev c65s3:SCode:=(.seq (.ops c65r2) .ret)
abbrev c65s4:SCode:=(.seq (.ops c65r1) c65s3)
def c65:Gx.Fn:=⟨14,c65k,(.seq (.ops c65r0) c65s4),[(.cell S2 (some 5))]⟩
theorem c65ok:stripFn Tryz.prog c65k Tryz.f65=some c65:=by kernel_rfl
@[go_sem] def c66k:List Nat:=[0,2,3,4,5,6,7,8,14]
@[go_sem] def c66r0:List GOp:=[mS 1 (C 0)]
@[go_sem] def c66r1:List GOp:=[oS 4 (.bs 9 4 [(.string ⟨⟨[]⟩⟩),(.string ⟨⟨[]⟩⟩),(.string ⟨⟨[]⟩⟩),(.string ⟨⟨[]⟩⟩)] [(0,(1,(.c (.string ⟨⟨[105,110,116]⟩⟩)))),(1,(1,(.c (.string ⟨⟨[98,111,111,108]⟩⟩)))),(2,(1,(.c (.string ⟨⟨[110,97,109,101]⟩⟩)))),(3,(1,(.c (.string ⟨⟨[110,97,109,101,115]⟩⟩))))]),oS 5 (.v (.len S4)),mS 6 (C 0)]
@[go_sem] def c66r2:List GOp:=[oS 7 (.v (.bin .lss S6 S5))]
@[go_sem] def c66r3:List GOp:=[mT S6,oT (.v (.ix 1 S4 S6)),lT T0,mS 2 T2,mS 3 T0]
@[go_sem] def c66r4:List GOp:=[mT S0,mT S3,oS 8 (.call 61 [T1,T0])]
@[go_sem] def c66r5:List GOp:=[mT S2,oT (.v (.bin .add T0 (C 1))),mS 1 T0]
abbrev c66s6:SCode:=(.seq (.ops c66r5) .ret)
abbrev c66s7:SCode:=(.seq (.ops c66r4) (.cond S8 c66s6 .skip))
@[go_sem] def c66r8:List GOp:=[oT (.v (.bin .add S6 (C 1))),mS 6 T0]
abbrev c66s9:SCode:=(.ops c66r8)
abbrev c66s10:SCode:=(.seq (.block 1 (.seq (.ops c66r3) c66s7)) c66s9)
abbrev c66s11:SCode:=(.seq (.cond S7 .skip (.exit 0)) c66s10)
abbrev c66s12:SCode:=(.seq (.ops c66r2) c66s11)
abbrev c66s13:SCode:=(.block 0 (.loop c66k c66s12))
@[go_sem] def c66r14:List GOp:=[mT S0,oT (.call 53 [T0,(C 2)])]
@[go_sem] def c66r15:List GOp:=[mS 1 (C 0)]
def c66s16:SCode:=(.seq (.ops c66r15) .ret)
abbrev c66s17:SCode:=(.seq (.ops c66r14) c66s16)
abbrev c66s18:SCode:=(.seq (.seq (.ops c66r1) c66s13) c66s17)
def c66:Gx.Fn:=⟨20,c66k,(.seq (.ops c66r0) c66s18),[(.tmp S1)]⟩
theorem c66ok:stripFn Tryz.prog c66k Tryz.f66=some c66:=by kernel_rfl
@[go_sem] def c71k:List Nat:=[0,2,3,6]
@[go_sem] def c71r0:List GOp:=[mS 1 (.c Z)]
@[go_sem] def c71r1:List GOp:=[mT S0,oT (.call 61 [T0,(.c (.string ⟨⟨[40]⟩⟩))]),oS 3 (.v (.un .not T0))]
@[go_sem] def c71r2:List GOp:=[mS 1 (.c Z)]
abbrev c71s3:SCode:=(.seq (.ops c71r2) .ret)
@[go_sem] def c71r4:List GOp:=[mT S0,oT (.call 102 [T0]),mS 2 T0]
@[go_sem] def c71r5:List GOp:=[mT S0,oT (.call 57 [T0,(.c (.string ⟨⟨[41]⟩⟩))])]
@[go_sem] def c71r6:List GOp:=[mT S2,mS 1 T0]
abbrev c71s7:SCode:=(.seq (.ops c71r6) .ret)
abbrev c71s8:SCode:=(.seq (.ops c71r5) c71s7)
abbrev c71s9:SCode:=(.seq (.ops c71r4) c71s8)
abbrev c71s10:SCode:=(.seq (.seq (.ops c71r1) (.cond S3 c71s3 .skip)) c71s9)
def c71:Gx.Fn:=⟨12,c71k,(.seq (.ops c71r0) c71s10),[(.tmp S1)]⟩
theorem c71ok:stripFn Tryz.prog c71k Tryz.f71=some c71:=by kernel_rfl
@[go_sem] def c72k:List Nat:=[0,1,4,5,6]
@[go_sem] def c72r0:List GOp:=[mS 2 (.c Z)]
@[go_sem] def c72r1:List GOp:=[mT S0,oT (.call 57 [T0,(.c (.string ⟨⟨[40]⟩⟩))])]
@[go_sem] def c72r2:List GOp:=[mT S1,oT (.cv T0 []),oS 3 (.al 24 [(I 0),(.string ⟨⟨[]⟩⟩),(I 0),(I 0),Z]),oN (.st 5 S3 T0)]
@[go_sem] def c72r3:List GOp:=[mT S0,oT (.call 57 [T0,(.c (.string ⟨⟨[44]⟩⟩))])]
@[go_sem] def c72r4:List GOp:=[mT S1,oT (.cv T0 []),oS 4 (.al 24 [(I 0),(.string ⟨⟨[]⟩⟩),(I 0),(I 0),Z]),oN (.st 5 S4 T0)]
@[go_sem] def c72r5:List GOp:=[mT S0,oT (.call 57 [T0,(.c (.string ⟨⟨[41]⟩⟩))])]
@[go_sem] def c72r6:List GOp:=[oT (.ld (some 5) S3),oT (.ld (some 5) S4),oT (.bs 24 2 [(I 0),(.string ⟨⟨[]⟩⟩),(I 0),(I 0),Z,(I 0),(.string ⟨⟨[]⟩⟩),(I 0),(I 0),Z] [(0,(5,T1)),(5,(5,T0))]),mS 2 T0]
abbrev c72s7:SCode:=(.seq (.ops c72r6) .ret)
abbrev c72s8:SCode:=(.seq (.ops c72r5) c72s7)
abbrev c72s9:SCode:=(.seq (.ops c72r4) c72s8)
abbrev c72s10:SCode:=(.seq (.ops c72r3) c72s9)
abbrev c72s11:SCode:=(.seq (.ops c72r2) c72s10)
abbrev c72s12:SCode:=(.seq (.ops c72r1) c72s11)
def c72:Gx.Fn:=⟨20,c72k,(.seq (.ops c72r0) c72s12),[(.tmp S2)]⟩
theorem c72ok:stripFn Tryz.prog c72k Tryz.f72=some c72:=by kernel_rfl
@[go_sem] def c73k:List Nat:=[0,2,3,9]
@[go_sem] def c73r0:List GOp:=[oS 1 (.al 24 [(I 0),(.string ⟨⟨[]⟩⟩),(I 0),(I 0),Z])]
@[go_sem] def c73r1:List GOp:=[mT S0,oT (.call 35 [T0]),oT (.v (.fld1 3 T0)),oT (.v (.bld [(I 0),(.string ⟨⟨[]⟩⟩),(I 0),(I 0),Z] [(0,(1,(C 44))),(3,(1,T0))])),oS 2 (.al 24 [(I 0),(.string ⟨⟨[]⟩⟩),(I 0),(I 0),Z]),oN (.st 5 S2 T0)]
@[go_sem] def c73r2:List GOp:=[mT S0,oS 3 (.call 61 [T0,(.c (.string ⟨⟨[45]⟩⟩))])]
@[go_sem] def c73r3:List GOp:=[mT S0,oT (.call 62 [T0,(C 3)]),oT (.v (.fld1 2 T0)),oT (.v (.un .neg T0)),fT 2 S2,oN (.st 1 T0 T1)]
@[go_sem] def c73r4:List GOp:=[oT (.ld (some 5) S2),oN (.st 5 S1 T0)]
abbrev c73s5:SCode:=(.seq (.ops c73r4) .ret)
abbrev c73s6:SCode:=(.seq (.ops c73r3) c73s5)
@[go_sem] def c73r7:List GOp:=[mT S0,oT (.call 62 [T0,(C 3)]),oT (.v (.fld1 2 T0)),fT 2 S2,oN (.st 1 T0 T1)]
@[go_sem] def c73r8:List GOp:=[oT (.ld (some 5) S2),oN (.st 5 S1 T0)]
abbrev c73s9:SCode:=(.seq (.ops c73r8) .ret)
abbrev c73s10:SCode:=(.seq (.ops c73r7) c73s9)
abbrev c73s11:SCode:=(.seq (.seq (.ops c73r2) (.cond S3 c73s6 .skip)) c73s10)
abbrev c73s12:SCode:=(.seq (.ops c73r1) c73s11)
def c73:Gx.Fn:=⟨21,c73k,(.seq (.ops c73r0) c73s12),[(.cell S1 (some 5))]⟩
theorem c73ok:stripFn Tryz.prog c73k Tryz.f73=some c73:=by kernel_rfl
@[go_sem] def c74k:List Nat:=[0,2,3,4,10,14,22]
@[go_sem] def c74r0:List GOp:=[mS 1 (.c Z)]
@[go_sem] def c74r1:List GOp:=[mS 2 (.c Z)]
@[go_sem] def c74r2:List GOp:=[mT S0,oT (.call 57 [T0,(.c (.string ⟨⟨[40]⟩⟩))])]
@[go_sem] def c74r3:List GOp:=[mT S0,oT (.call 35 [T0]),oT (.v (.fld1 0 T0)),oS 4 (.v (.bin .eql T0 (C 4)))]
@[go_sem] def c74r4:List GOp:=[mT S0,oT (.call 102 [T0]),mS 2 T0]
abbrev c74s5:SCode:=(.cond S4 (.ops c74r4) .skip)
@[go_sem] def c74r6:List GOp:=[mT S0,oS 5 (.call 61 [T0,(.c (.string ⟨⟨[59]⟩⟩))])]
abbrev c74s7:SCode:=(.cond S5 .skip (.exit 0))
@[go_sem] def c74r8:List GOp:=[mT S0,oT (.call 35 [T0]),oT (.v (.fld1 3 T0)),oT (.v (.bld [(I 0),(.string ⟨⟨[]⟩⟩),(I 0),(I 0),Z] [(0,(1,(C 20))),(3,(1,T0))])),oS 3 (.al 24 [(I 0),(.string ⟨⟨[]⟩⟩),(I 0),(I 0),Z]),oN (.st 5 S3 T0)]
@[go_sem] def c74r9:List GOp:=[mT S0,oT (.call 35 [T0]),oT (.v (.fld1 0 T0)),oS 6 (.v (.bin .eql T0 (C 4)))]
@[go_sem] def c74r10:List GOp:=[mT S0,oT (.call 102 [T0]),fT 4 S3,oN (.st 1 T0 T1)]
abbrev c74s11:SCode:=(.cond S6 (.ops c74r10) .skip)
@[go_sem] def c74r12:List GOp:=[mT S0,oT (.call 57 [T0,(.c (.string ⟨⟨[61,62]⟩⟩))])]
@[go_sem] def c74d13:DT:=(rf 4 S3 [5,7] (rl T0 [5,7] (rm S0 [3,4,5,7] (.ef 3 none .t (.call 103 [T0]) (.ef 4 none .t (.bs 24 1 [(I 0),(.string ⟨⟨[]⟩⟩),(I 0),(I 0),Z] [(0,(5,T0))]) (.ef 5 none .t (.ap 22 22 T3 T0) (rf 4 S3 [7] (.ef 7 none .no (.st 1 T0 T1) .done))))))))
@[go_sem] def c74r14:List GOp:=[mT S2,oT (.ld (some 5) S3),oT (.bs 24 1 [(I 0),(.string ⟨⟨[]⟩⟩),(I 0),(I 0),Z] [(0,(5,T0))]),oT (.ap 22 22 T2 T0),mS 2 T0]
abbrev c74s15:SCode:=(.ops c74r14)
abbrev c74s16:SCode:=(.seq (.de c74d13) c74s15)
def c74s17:SCode:=(.seq (.ops c74r12) c74s16)
theorem c74s17eq:U c74s17 (.seq (.ops c74r12) c74s16):=fun _ _ _ _ _=>rfl
abbrev c74s18:SCode:=(.seq (.seq (.ops c74r9) c74s11) c74s17)
abbrev c74s19:SCode:=(.block 1 (.seq (.ops c74r8) c74s18))
abbrev c74s20:SCode:=(.seq (.seq (.ops c74r6) c74s7) c74s19)
@[go_sem] def c74r21:List GOp:=[mT S0,oT (.call 57 [T0,(.c (.string ⟨⟨[41]⟩⟩))])]
@[go_sem] def c74r22:List GOp:=[mT S2,mS 1 T0]
abbrev c74s23:SCode:=(.seq (.ops c74r22) .ret)
abbrev c74s24:SCode:=(.seq (.ops c74r21) c74s23)
def c74s25:SCode:=(.seq (.block 0 (.loop c74k c74s20)) c74s24)
theorem c74s25eq:U c74s25 (.seq (.block 0 (.loop c74k c74s20)) c74s24):=fun _ _ _ _ _=>rfl
abbrev c74s26:SCode:=(.seq (.seq (.ops c74r3) c74s5) c74s25)
abbrev c74s27:SCode:=(.seq (.ops c74r2) c74s26)
abbrev c74s28:SCode:=(.seq (.ops c74r1) c74s27)
def c74:Gx.Fn:=⟨42,c74k,(.seq (.ops c74r0) c74s28),[(.tmp S1)]⟩
theorem c74ok:stripFn Tryz.prog c74k Tryz.f74=some c74:=by kernel_rfl
@[go_sem] def c96k:List Nat:=[0,1,2,6,7,8,9,26]
@[go_sem] def c96r0:List GOp:=[oS 3 (.al 24 [(I 0),(.string ⟨⟨[]⟩⟩),(I 0),(I 0),Z])]
@[go_sem] def c96r1:List GOp:=[mT S1,oT (.cv T0 []),oS 4 (.al 24 [(I 0),(.string ⟨⟨[]⟩⟩),(I 0),(I 0),Z]),oN (.st 5 S4 T0)]
@[go_sem] def c96r2:List GOp:=[mT S0,oT (.call 35 [T0]),oS 5 (.al 58 [(I 0),(.string ⟨⟨[]⟩⟩),(I 0),(I 0)]),oN (.st 4 S5 T0)]
@[go_sem] def c96r3:List GOp:=[mT S2,fT 1 S5,lT T0,oT (.lkp (I 0) T2 T0),mS 6 T0]
@[go_sem] def c96r4:List GOp:=[mT S6,oT (.v (.bin .eql T0 (C 0))),mT T0,(.op (some (T0,(false,true))) .t (.v (.mv S0))),(.op (some (T1,(false,false))) .t (.v (.fa 1 S5))),(.op (some (T2,(false,false))) .t (.ld none T0)),(.op (some (T3,(false,false))) .t (.call 61 [T2,T0])),(.op (some (T4,(false,false))) .t (.v (.un .not T0))),oS 7 (.v (.pick T5 (.c (.bool true)) T0))]
@[go_sem] def c96r5:List GOp:=[oT (.ld (some 5) S4),oN (.st 5 S3 T0)]
abbrev c96s6:SCode:=(.seq (.ops c96r5) .ret)
@[go_sem] def c96d7:DT:=(rm S6 [8] (rf 3 S5 [8] (rl T0 [8] (.rd none .t (.ld (some 5) S4) [6,8] (rm S1 [5,6,8] (.ef 5 none .t (.cv T0 []) (.ef 6 none .t (.bs 24 2 [(I 0),(.string ⟨⟨[]⟩⟩),(I 0),(I 0),Z,(I 0),(.string ⟨⟨[]⟩⟩),(I 0),(I 0),Z] [(0,(5,T2)),(5,(5,T0))]) (.rd none .t (.v (.bld [(I 0),(.string ⟨⟨[]⟩⟩),(I 0),(I 0),Z] [(0,(1,T6)),(3,(1,T4)),(4,(1,T0))])) [8] (.ef 8 none .no (.st 5 S4 T0) .done)))))))))
abbrev c96s8:SCode:=(.de c96d7)
abbrev c96s9:SCode:=(.seq (.seq (.ops c96r4) (.cond S7 c96s6 .skip)) c96s8)
abbrev c96s10:SCode:=(.seq (.ops c96r3) c96s9)
abbrev c96s11:SCode:=(.block 1 (.seq (.ops c96r2) c96s10))
abbrev c96s12:SCode:=(.block 0 (.loop c96k c96s11))
abbrev c96s13:SCode:=(.seq (.ops c96r1) c96s12)
def c96:Gx.Fn:=⟨36,c96k,(.seq (.ops c96r0) c96s13),[(.cell S3 (some 5))]⟩
theorem c96ok:stripFn Tryz.prog c96k Tryz.f96=some c96:=by kernel_rfl
@[go_sem] def c97k:List Nat:=[0,2]
@[go_sem] def c97r0:List GOp:=[oS 1 (.al 24 [(I 0),(.string ⟨⟨[]⟩⟩),(I 0),(I 0),Z])]
@[go_sem] def c97r1:List GOp:=[mT S0,mT S0,oT (.v (.mkf 115 [T0] [])),oT .mm,oN (.ins T0 (.c (.string ⟨⟨[97,110,100]⟩⟩)) (C 32)),mT T0,oT (.call 96 [T4,T2,T0]),oN (.st 5 S1 T0)]
abbrev c97s2:SCode:=(.seq (.ops c97r1) .ret)
def c97:Gx.Fn:=⟨9,c97k,(.seq (.ops c97r0) c97s2),[(.cell S1 (some 5))]⟩
theorem c97ok:stripFn Tryz.prog c97k Tryz.f97=some c97:=by kernel_rfl
@[go_sem] def c102k:List Nat:=[0,2,3,8]
@[go_sem] def c102r0:List GOp:=[mS 1 (.c Z)]
@[go_sem] def c102r1:List GOp:=[mT S0,oT (.call 103 [T0]),oT (.bs 24 1 [(I 0),(.string ⟨⟨[]⟩⟩),(I 0),(I 0),Z] [(0,(5,T0))]),mS 2 T0]
@[go_sem] def c102r2:List GOp:=[mT S0,oS 3 (.call 61 [T0,(.c (.string ⟨⟨[44]⟩⟩))])]
abbrev c102s3:SCode:=(.cond S3 .skip (.exit 0))
@[go_sem] def c102r4:List GOp:=[mT S2,mT S0,oT (.call 103 [T0]),oT (.bs 24 1 [(I 0),(.string ⟨⟨[]⟩⟩),(I 0),(I 0),Z] [(0,(5,T0))]),oT (.ap 22 22 T3 T0),mS 2 T0]
abbrev c102s5:SCode:=(.block 1 (.ops c102r4))
abbrev c102s6:SCode:=(.seq (.seq (.ops c102r2) c102s3) c102s5)
@[go_sem] def c102r7:List GOp:=[mT S2,mS 1 T0]
abbrev c102s8:SCode:=(.seq (.ops c102r7) .ret)
abbrev c102s9:SCode:=(.seq (.block 0 (.loop c102k c102s6)) c102s8)
abbrev c102s10:SCode:=(.seq (.ops c102r1) c102s9)
def c102:Gx.Fn:=⟨15,c102k,(.seq (.ops c102r0) c102s10),[(.tmp S1)]⟩
theorem c102ok:stripFn Tryz.prog c102k Tryz.f102=some c102:=by kernel_rfl
@[go_sem] def c103k:List Nat:=[0,2,3]
@[go_sem] def c103r0:List GOp:=[oS 1 (.al 24 [(I 0),(.string ⟨⟨[]⟩⟩),(I 0),(I 0),Z])]
@[go_sem] def c103r1:List GOp:=[mT S0,oT (.call 62 [T0,(C 4)]),oS 2 (.al 58 [(I 0),(.string ⟨⟨[]⟩⟩),(I 0),(I 0)]),oN (.st 4 S2 T0)]
@[go_sem] def c103r2:List GOp:=[fT 1 S2,lT T0,fT 3 S2,lT T0,oT (.v (.bld [(I 0),(.string ⟨⟨[]⟩⟩),(I 0),(I 0),Z] [(0,(1,(C 47))),(1,(1,T2)),(3,(1,T0))])),oN (.st 5 S1 T0)]
abbrev c103s3:SCode:=(.seq (.ops c103r2) .ret)
abbrev c103s4:SCode:=(.seq (.ops c103r1) c103s3)
def c103:Gx.Fn:=⟨11,c103k,(.seq (.ops c103r0) c103s4),[(.cell S1 (some 5))]⟩
theorem c103ok:stripFn Tryz.prog c103k Tryz.f103=some c103:=by kernel_rfl
@[go_sem] def c115k:List Nat:=[0,2,3,6]
@[go_sem] def c115r0:List GOp:=[oS 1 (.al 24 [(I 0),(.string ⟨⟨[]⟩⟩),(I 0),(I 0),Z])]
@[go_sem] def c115r1:List GOp:=[mT S0,oT (.call 54 [T0,(.c (.string ⟨⟨[110,111,116]⟩⟩))]),oS 3 (.v (.un .not T0))]
@[go_sem] def c115r2:List GOp:=[mT S0,oT (.call 130 [T0]),oN (.st 5 S1 T0)]
abbrev c115s3:SCode:=(.seq (.ops c115r2) .ret)
@[go_sem] def c115r4:List GOp:=[mT S0,oT (.call 56 [T0,(.c (.string ⟨⟨[110,111,116]⟩⟩))]),oT (.v (.bld [(I 0),(.string ⟨⟨[]⟩⟩),(I 0),(I 0),Z] [(0,(1,(C 33))),(3,(1,T0))])),oS 2 (.al 24 [(I 0),(.string ⟨⟨[]⟩⟩),(I 0),(I 0),Z]),oN (.st 5 S2 T0)]
@[go_sem] def c115r5:List GOp:=[mT S0,oT (.call 115 [T0]),oT (.bs 24 1 [(I 0),(.string ⟨⟨[]⟩⟩),(I 0),(I 0),Z] [(0,(5,T0))]),fT 4 S2,oN (.st 1 T0 T1)]
@[go_sem] def c115r6:List GOp:=[mT S0,oT (.call 58 [T0])]
@[go_sem] def c115r7:List GOp:=[oT (.ld (some 5) S2),oN (.st 5 S1 T0)]
abbrev c115s8:SCode:=(.seq (.ops c115r7) .ret)
abbrev c115s9:SCode:=(.seq (.ops c115r6) c115s8)
abbrev c115s10:SCode:=(.seq (.ops c115r5) c115s9)
abbrev c115s11:SCode:=(.seq (.ops c115r4) c115s10)
abbrev c115s12:SCode:=(.seq (.seq (.ops c115r1) (.cond S3 c115s3 .skip)) c115s11)
def c115:Gx.Fn:=⟨19,c115k,(.seq (.ops c115r0) c115s12),[(.cell S1 (some 5))]⟩
theorem c115ok:stripFn Tryz.prog c115k Tryz.f115=some c115:=by kernel_rfl
@[go_sem] def c130k:List Nat:=[0,2,3,4,5,6,24]
@[go_sem] def c130r0:List GOp:=[oS 1 (.al 24 [(I 0),(.string ⟨⟨[]⟩⟩),(I 0),(I 0),Z])]
@[go_sem] def c130r1:List GOp:=[mT S0,oT (.call 137 [T0]),oS 2 (.al 24 [(I 0),(.string ⟨⟨[]⟩⟩),(I 0),(I 0),Z]),oN (.st 5 S2 T0)]
@[go_sem] def c130r2:List GOp:=[oT .mm,oN (.ins T0 (.c (.string ⟨⟨[60,61]⟩⟩)) (C 34)),oN (.ins T0 (.c (.string ⟨⟨[60]⟩⟩)) (C 35)),oN (.ins T0 (.c (.string ⟨⟨[61,61]⟩⟩)) (C 36)),oN (.ins T0 (.c (.string ⟨⟨[105,110]⟩⟩)) (C 37)),oN (.ins T0 (.c (.string ⟨⟨[108,101,113]⟩⟩)) (C 38)),mT T0,mS 3 T0]
@[go_sem] def c130r3:List GOp:=[mT S0,oT (.call 35 [T0]),oS 4 (.al 58 [(I 0),(.string ⟨⟨[]⟩⟩),(I 0),(I 0)]),oN (.st 4 S4 T0)]
@[go_sem] def c130r4:List GOp:=[mT S3,fT 1 S4,lT T0,oT (.lkp (I 0) T2 T0),mS 5 T0]
@[go_sem] def c130r5:List GOp:=[mT S5,oT (.v (.bin .neq T0 (C 0))),mT T0,(.op (some (T0,(true,true))) .t (.v (.mv S0))),(.op (some (T1,(true,false))) .t (.v (.fa 1 S4))),(.op (some (T2,(true,false))) .t (.ld none T0)),(.op (some (T3,(true,false))) .t (.call 61 [T2,T0])),oS 6 (.v (.pick T4 T0 (.c (.bool false))))]
@[go_sem] def c130d6:DT:=(rm S5 [8] (rf 3 S4 [8] (rl T0 [8] (.rd none .t (.ld (some 5) S2) [6,8] (rm S0 [5,6,8] (.ef 5 none .t (.call 137 [T0]) (.ef 6 none .t (.bs 24 2 [(I 0),(.string ⟨⟨[]⟩⟩),(I 0),(I 0),Z,(I 0),(.string ⟨⟨[]⟩⟩),(I 0),(I 0),Z] [(0,(5,T2)),(5,(5,T0))]) (.rd none .t (.v (.bld [(I 0),(.string ⟨⟨[]⟩⟩),(I 0),(I 0),Z] [(0,(1,T6)),(3,(1,T4)),(4,(1,T0))])) [8] (.ef 8 none .no (.st 5 S1 T0) .done)))))))))
abbrev c130s7:SCode:=(.seq (.de c130d6) .ret)
abbrev c130s8:SCode:=(.seq (.ops c130r5) (.cond S6 c130s7 .skip))
@[go_sem] def c130r9:List GOp:=[oT (.ld (some 5) S2),oN (.st 5 S1 T0)]
abbrev c130s10:SCode:=(.seq (.ops c130r9) .ret)
abbrev c130s11:SCode:=(.seq (.seq (.ops c130r4) c130s8) c130s10)
abbrev c130s12:SCode:=(.seq (.ops c130r3) c130s11)
abbrev c130s13:SCode:=(.seq (.ops c130r2) c130s12)
abbrev c130s14:SCode:=(.seq (.ops c130r1) c130s13)
def c130:Gx.Fn:=⟨34,c130k,(.seq (.ops c130r0) c130s14),[(.cell S1 (some 5))]⟩
theorem c130ok:stripFn Tryz.prog c130k Tryz.f130=some c130:=by kernel_rfl
@[go_sem] def c137k:List Nat:=[0,2]
@[go_sem] def c137r0:List GOp:=[oS 1 (.al 24 [(I 0),(.string ⟨⟨[]⟩⟩),(I 0),(I 0),Z])]
@[go_sem] def c137r1:List GOp:=[mT S0,mT S0,oT (.v (.mkf 148 [T0] [])),oT .mm,oN (.ins T0 (.c (.string ⟨⟨[106,111,105,110]⟩⟩)) (C 39)),mT T0,oT (.call 96 [T4,T2,T0]),oN (.st 5 S1 T0)]
abbrev c137s2:SCode:=(.seq (.ops c137r1) .ret)
def c137:Gx.Fn:=⟨9,c137k,(.seq (.ops c137r0) c137s2),[(.cell S1 (some 5))]⟩
theorem c137ok:stripFn Tryz.prog c137k Tryz.f137=some c137:=by kernel_rfl
@[go_sem] def c148k:List Nat:=[0,2]
@[go_sem] def c148r0:List GOp:=[oS 1 (.al 24 [(I 0),(.string ⟨⟨[]⟩⟩),(I 0),(I 0),Z])]
@[go_sem] def c148r1:List GOp:=[mT S0,mT S0,oT (.v (.mkf 156 [T0] [])),oT .mm,oN (.ins T0 (.c (.string ⟨⟨[43]⟩⟩)) (C 40)),oN (.ins T0 (.c (.string ⟨⟨[45]⟩⟩)) (C 41)),mT T0,oT (.call 96 [T4,T2,T0]),oN (.st 5 S1 T0)]
abbrev c148s2:SCode:=(.seq (.ops c148r1) .ret)
def c148:Gx.Fn:=⟨9,c148k,(.seq (.ops c148r0) c148s2),[(.cell S1 (some 5))]⟩
theorem c148ok:stripFn Tryz.prog c148k Tryz.f148=some c148:=by kernel_rfl
@[go_sem] def c156k:List Nat:=[0,2,3,4,11,21]
@[go_sem] def c156r0:List GOp:=[oS 1 (.al 24 [(I 0),(.string ⟨⟨[]⟩⟩),(I 0),(I 0),Z])]
@[go_sem] def c156r1:List GOp:=[mT S0,oT (.call 158 [T0]),oS 2 (.al 24 [(I 0),(.string ⟨⟨[]⟩⟩),(I 0),(I 0),Z]),oN (.st 5 S2 T0)]
@[go_sem] def c156r2:List GOp:=[mT S0,oT (.call 35 [T0]),oT (.v (.fld1 3 T0)),mS 3 T0]
@[go_sem] def c156r3:List GOp:=[mT S0,oT (.call 61 [T0,(.c (.string ⟨⟨[46]⟩⟩))]),mS 4 T0]
@[go_sem] def c156d4:DT:=(rm S3 [7] (rm S0 [2,7] (.rd none .t (.ld (some 5) S2) [5,7] (.br (.ef 2 none .t (.call 62 [T1,(C 1)]) (.rd none .t (.v (.fld1 1 T0)) [7] (.ef 5 none .t (.bs 24 1 [(I 0),(.string ⟨⟨[]⟩⟩),(I 0),(I 0),Z] [(0,(5,T2))]) (.rd none .t (.v (.bld [(I 0),(.string ⟨⟨[]⟩⟩),(I 0),(I 0),Z] [(0,(1,(C 42))),(3,(1,T5)),(1,(1,T1)),(4,(1,T0))])) [7] (.ef 7 none .no (.st 5 S2 T0) .done))))) (.ef 5 none .t (.bs 24 1 [(I 0),(.string ⟨⟨[]⟩⟩),(I 0),(I 0),Z] [(0,(5,T0))]) (.ef 2 none .t (.call 62 [T2,(C 1)]) (.rd none .t (.v (.fld1 1 T0)) [7] (.rd none .t (.v (.bld [(I 0),(.string ⟨⟨[]⟩⟩),(I 0),(I 0),Z] [(0,(1,(C 42))),(3,(1,T5)),(1,(1,T0)),(4,(1,T2))])) [7] (.ef 7 none .no (.st 5 S2 T0) .done)))))))))
@[go_sem] def c156r5:List GOp:=[mT S0,oT (.call 54 [T0,(.c (.string ⟨⟨[91]⟩⟩))]),mS 5 T0]
@[go_sem] def c156r6:List GOp:=[mT S0,oT (.call 56 [T0,(.c (.string ⟨⟨[91]⟩⟩))])]
@[go_sem] def c156d7:DT:=(rm S3 [6] (.rd none .t (.ld (some 5) S2) [4,6] (rm S0 [3,4,6] (.ef 3 none .t (.call 28 [T0]) (.ef 4 none .t (.bs 24 2 [(I 0),(.string ⟨⟨[]⟩⟩),(I 0),(I 0),Z,(I 0),(.string ⟨⟨[]⟩⟩),(I 0),(I 0),Z] [(0,(5,T2)),(5,(5,T0))]) (.rd none .t (.v (.bld [(I 0),(.string ⟨⟨[]⟩⟩),(I 0),(I 0),Z] [(0,(1,(C 43))),(3,(1,T4)),(4,(1,T0))])) [6] (.ef 6 none .no (.st 5 S2 T0) .done)))))))
@[go_sem] def c156r8:List GOp:=[mT S0,oT (.call 57 [T0,(.c (.string ⟨⟨[93]⟩⟩))])]
@[go_sem] def c156r9:List GOp:=[mT S0,oT (.call 58 [T0])]
abbrev c156s10:SCode:=(.ops c156r9)
abbrev c156s11:SCode:=(.seq (.ops c156r8) c156s10)
abbrev c156s12:SCode:=(.seq (.de c156d7) c156s11)
abbrev c156s13:SCode:=(.seq (.ops c156r6) c156s12)
@[go_sem] def c156r14:List GOp:=[oT (.ld (some 5) S2),oN (.st 5 S1 T0)]
abbrev c156s15:SCode:=(.seq (.ops c156r14) .ret)
abbrev c156s16:SCode:=(.cond S5 c156s13 c156s15)
abbrev c156s17:SCode:=(.seq (.ops c156r5) c156s16)
abbrev c156s18:SCode:=(.cond S4 (.de c156d4) c156s17)
abbrev c156s19:SCode:=(.block 2 (.seq (.ops c156r3) c156s18))
abbrev c156s20:SCode:=(.block 1 (.seq (.ops c156r2) c156s19))
abbrev c156s21:SCode:=(.block 0 (.loop c156k c156s20))
abbrev c156s22:SCode:=(.seq (.ops c156r1) c156s21)
def c156:Gx.Fn:=⟨36,c156k,(.seq (.ops c156r0) c156s22),[(.cell S1 (some 5))]⟩
theorem c156ok:stripFn Tryz.prog c156k Tryz.f156=some c156:=by kernel_rfl
@[go_sem] def c158k:List Nat:=[0,2,3,4,5,13,23,29,35,39,43,47,51,62,87]
@[go_sem] def c158r0:List GOp:=[oS 1 (.al 24 [(I 0),(.string ⟨⟨[]⟩⟩),(I 0),(I 0),Z])]
@[go_sem] def c158r1:List GOp:=[mT S0,oT (.call 35 [T0]),oS 2 (.al 58 [(I 0),(.string ⟨⟨[]⟩⟩),(I 0),(I 0)]),oN (.st 4 S2 T0)]
@[go_sem] def c158r2:List GOp:=[fT 3 S2,lT T0,oT (.v (.bld [(I 0),(.string ⟨⟨[]⟩⟩),(I 0),(I 0),Z] [(3,(1,T0))])),oS 3 (.al 24 [(I 0),(.string ⟨⟨[]⟩⟩),(I 0),(I 0),Z]),oN (.st 5 S3 T0)]
@[go_sem] def c158r3:List GOp:=[fT 0 S2,lT T0,oT (.v (.bin .eql T0 (C 3))),mT T0,(.op (some (T0,(false,true))) .t (.v (.mv S0))),(.op (some (T1,(false,false))) .t (.call 54 [T0,(.c (.string ⟨⟨[45]⟩⟩))])),oT (.v (.pick T2 (.c (.bool true)) T0)),mS 5 T0]
@[go_sem] def c158r4:List GOp:=[mT S0,oT (.call 73 [T0]),oN (.st 5 S1 T0)]
abbrev c158s5:SCode:=(.seq (.ops c158r4) .ret)
@[go_sem] def c158r6:List GOp:=[fT 0 S2,lT T0,oT (.v (.bin .eql T0 (C 4))),mS 6 T0]
@[go_sem] def c158r7:List GOp:=[mT S0,oT (.call 103 [T0]),oN (.st 5 S1 T0)]
abbrev c158s8:SCode:=(.seq (.ops c158r7) .ret)
@[go_sem] def c158r9:List GOp:=[fT 0 S2,lT T0,oT (.v (.bin .eql T0 (C 1))),mS 7 T0]
@[go_sem] def c158r10:List GOp:=[mT S0,oT (.call 65 [T0,(C 48)]),oN (.st 5 S1 T0)]
abbrev c158s11:SCode:=(.seq (.ops c158r10) .ret)
@[go_sem] def c158r12:List GOp:=[mT S0,oT (.call 61 [T0,(.c (.string ⟨⟨[116,114,117,101]⟩⟩))]),mS 8 T0]
@[go_sem] def c158r13:List GOp:=[fT 0 S3,oN (.st 1 T0 (C 45))]
@[go_sem] def c158r14:List GOp:=[mT S0,oT (.call 61 [T0,(.c (.string ⟨⟨[102,97,108,115,101]⟩⟩))]),mS 9 T0]
@[go_sem] def c158r15:List GOp:=[fT 0 S3,oN (.st 1 T0 (C 46))]
@[go_sem] def c158r16:List GOp:=[mT S0,oT (.call 61 [T0,(.c (.string ⟨⟨[115]⟩⟩))]),mS 10 T0]
@[go_sem] def c158r17:List GOp:=[fT 0 S3,oN (.st 1 T0 (C 49))]
@[go_sem] def c158r18:List GOp:=[mT S0,oT (.call 61 [T0,(.c (.string ⟨⟨[98,111,116,116,111,109]⟩⟩))]),mS 11 T0]
@[go_sem] def c158r19:List GOp:=[fT 0 S3,oN (.st 1 T0 (C 50))]
@[go_sem] def c158r20:List GOp:=[mT S0,oT (.call 54 [T0,(.c (.string ⟨⟨[40]⟩⟩))]),mS 12 T0]
@[go_sem] def c158r21:List GOp:=[mT S0,oT (.call 56 [T0,(.c (.string ⟨⟨[40]⟩⟩))])]
@[go_sem] def c158r22:List GOp:=[mT S0,oT (.call 28 [T0]),oN (.st 5 S3 T0)]
@[go_sem] def c158r23:List GOp:=[mT S0,oT (.call 57 [T0,(.c (.string ⟨⟨[41]⟩⟩))])]
@[go_sem] def c158r24:List GOp:=[mT S0,oT (.call 58 [T0])]
abbrev c158s25:SCode:=(.ops c158r24)
abbrev c158s26:SCode:=(.seq (.ops c158r23) c158s25)
abbrev c158s27:SCode:=(.seq (.ops c158r22) c158s26)
abbrev c158s28:SCode:=(.seq (.ops c158r21) c158s27)
@[go_sem] def c158r29:List GOp:=[fT 0 S2,lT T0,oT (.v (.bin .eql T0 (C 2))),mT T0,(.op (some (T0,(true,true))) .t (.v (.fa 1 S2))),(.op (some (T1,(true,false))) .t (.ld none T0)),(.op (some (T2,(true,false))) .t (.call 159 [T0])),oT (.v (.pick T3 T0 (.c (.bool false)))),mS 13 T0]
@[go_sem] def c158r30:List GOp:=[mT S0,oT (.v (.nc T0)),fT 1 T0,lT T0,oT (.v (.bin .add T0 (C 1))),oT (.v (.nc T4)),fT 1 T0,oN (.st 1 T0 T2)]
@[go_sem] def c158d31:DT:=(rf 1 S2 [5] (rl T0 [5] (rf 0 S3 [3,5] (.ef 3 none .no (.st 1 T0 (C 51)) (rf 1 S3 [5] (.ef 5 none .no (.st 1 T0 T2) .done))))))
@[go_sem] def c158r32:List GOp:=[mT S0,oT (.call 56 [T0,(.c (.string ⟨⟨[40]⟩⟩))])]
@[go_sem] def c158r33:List GOp:=[mT S0,oT (.call 61 [T0,(.c (.string ⟨⟨[41]⟩⟩))]),oT (.v (.un .not T0)),mS 4 T0]
@[go_sem] def c158r34:List GOp:=[mS 14 S4]
abbrev c158s35:SCode:=(.cond S14 .skip (.exit 1))
@[go_sem] def c158d36:DT:=(rf 4 S3 [7,9] (rl T0 [7,9] (rm S0 [5,6,7,9] (rf 1 S2 [5,6,7,9] (rl T0 [5,6,7,9] (.ef 5 none .t (.call 160 [T2,T0]) (.ef 6 none .t (.bs 24 1 [(I 0),(.string ⟨⟨[]⟩⟩),(I 0),(I 0),Z] [(0,(5,T0))]) (.ef 7 none .t (.ap 22 22 T5 T0) (rf 4 S3 [9] (.ef 9 none .no (.st 1 T0 T1) .done))))))))))
@[go_sem] def c158r37:List GOp:=[mT S0,oT (.call 63 [T0]),mS 4 T0]
abbrev c158s38:SCode:=(.ops c158r37)
abbrev c158s39:SCode:=(.seq (.block 2 (.de c158d36)) c158s38)
abbrev c158s40:SCode:=(.seq (.seq (.ops c158r34) c158s35) c158s39)
abbrev c158s41:SCode:=(.block 1 (.loop c158k c158s40))
@[go_sem] def c158r42:List GOp:=[mT S0,oT (.call 58 [T0])]
abbrev c158s43:SCode:=(.ops c158r42)
abbrev c158s44:SCode:=(.seq (.seq (.ops c158r33) c158s41) c158s43)
abbrev c158s45:SCode:=(.seq (.ops c158r32) c158s44)
abbrev c158s46:SCode:=(.seq (.de c158d31) c158s45)
abbrev c158s47:SCode:=(.seq (.ops c158r30) c158s46)
@[go_sem] def c158r48:List GOp:=[mT S0,oT (.call 53 [T0,(C 2)])]
abbrev c158s49:SCode:=(.cond S13 c158s47 (.ops c158r48))
abbrev c158s50:SCode:=(.seq (.ops c158r29) c158s49)
abbrev c158s51:SCode:=(.cond S12 c158s28 c158s50)
abbrev c158s52:SCode:=(.seq (.ops c158r20) c158s51)
abbrev c158s53:SCode:=(.cond S11 (.ops c158r19) c158s52)
abbrev c158s54:SCode:=(.seq (.ops c158r18) c158s53)
abbrev c158s55:SCode:=(.cond S10 (.ops c158r17) c158s54)
abbrev c158s56:SCode:=(.seq (.ops c158r16) c158s55)
abbrev c158s57:SCode:=(.cond S9 (.ops c158r15) c158s56)
abbrev c158s58:SCode:=(.seq (.ops c158r14) c158s57)
abbrev c158s59:SCode:=(.cond S8 (.ops c158r13) c158s58)
abbrev c158s60:SCode:=(.seq (.ops c158r12) c158s59)
abbrev c158s61:SCode:=(.cond S7 c158s11 c158s60)
abbrev c158s62:SCode:=(.seq (.ops c158r9) c158s61)
abbrev c158s63:SCode:=(.cond S6 c158s8 c158s62)
abbrev c158s64:SCode:=(.seq (.ops c158r6) c158s63)
abbrev c158s65:SCode:=(.cond S5 c158s5 c158s64)
@[go_sem] def c158r66:List GOp:=[oT (.ld (some 5) S3),oN (.st 5 S1 T0)]
abbrev c158s67:SCode:=(.seq (.ops c158r66) .ret)
abbrev c158s68:SCode:=(.seq (.block 0 (.seq (.ops c158r3) c158s65)) c158s67)
abbrev c158s69:SCode:=(.seq (.ops c158r2) c158s68)
abbrev c158s70:SCode:=(.seq (.ops c158r1) c158s69)
def c158:Gx.Fn:=⟨102,c158k,(.seq (.ops c158r0) c158s70),[(.cell S1 (some 5))]⟩
theorem c158ok:stripFn Tryz.prog c158k Tryz.f158=some c158:=by kernel_rfl
@[go_sem] def c159k:List Nat:=[0,2,3,4]
@[go_sem] def c159r0:List GOp:=[mS 1 (.c (.bool false))]
@[go_sem] def c159r1:List GOp:=[mS 2 S0]
@[go_sem] def c159r2:List GOp:=[oT (.v (.bin .eql S2 (.c (.string ⟨⟨[102,108,97,103]⟩⟩)))),mS 3 T0]
@[go_sem] def c159r3:List GOp:=[oT (.v (.bin .eql S2 (.c (.string ⟨⟨[110,117,109]⟩⟩)))),mS 3 T0]
@[go_sem] def c159r4:List GOp:=[oT (.v (.bin .eql S2 (.c (.string ⟨⟨[115,101,116]⟩⟩)))),mS 3 T0]
@[go_sem] def c159r5:List GOp:=[oT (.v (.bin .eql S2 (.c (.string ⟨⟨[109,97,112]⟩⟩)))),mS 3 T0]
@[go_sem] def c159r6:List GOp:=[oT (.v (.bin .eql S2 (.c (.string ⟨⟨[114,101,99]⟩⟩)))),mS 3 T0]
@[go_sem] def c159r7:List GOp:=[oT (.v (.bin .eql S2 (.c (.string ⟨⟨[112,97,105,114]⟩⟩)))),mS 3 T0]
@[go_sem] def c159r8:List GOp:=[oT (.v (.bin .eql S2 (.c (.string ⟨⟨[111,110,101]⟩⟩)))),mS 3 T0]
@[go_sem] def c159r9:List GOp:=[oT (.v (.bin .eql S2 (.c (.string ⟨⟨[119,114,105,116,101]⟩⟩)))),mS 3 T0]
@[go_sem] def c159r10:List GOp:=[oT (.v (.bin .eql S2 (.c (.string ⟨⟨[115,105,122,101]⟩⟩)))),mS 3 T0]
@[go_sem] def c159r11:List GOp:=[oT (.v (.bin .eql S2 (.c (.string ⟨⟨[115,117,109]⟩⟩)))),mS 3 T0]
@[go_sem] def c159r12:List GOp:=[oT (.v (.bin .eql S2 (.c (.string ⟨⟨[110,117,109,98,101,114]⟩⟩)))),mS 3 T0]
@[go_sem] def c159r13:List GOp:=[oT (.v (.bin .eql S2 (.c (.string ⟨⟨[111,110]⟩⟩)))),mS 3 T0]
@[go_sem] def c159r14:List GOp:=[oT (.v (.bin .eql S2 (.c (.string ⟨⟨[107,101,121,115]⟩⟩)))),mS 3 T0]
@[go_sem] def c159r15:List GOp:=[oT (.v (.bin .eql S2 (.c (.string ⟨⟨[118,97,108,117,101,115]⟩⟩)))),mS 3 T0]
@[go_sem] def c159r16:List GOp:=[oT (.v (.bin .eql S2 (.c (.string ⟨⟨[102,105,114,115,116]⟩⟩)))),mS 3 T0]
@[go_sem] def c159r17:List GOp:=[oT (.v (.bin .eql S2 (.c (.string ⟨⟨[115,101,99,111,110,100]⟩⟩)))),mS 3 T0]
@[go_sem] def c159r18:List GOp:=[oT (.v (.bin .eql S2 (.c (.string ⟨⟨[99,111,110,102,108,105,99,116]⟩⟩)))),mS 3 T0]
abbrev c159s19:SCode:=(.cond S3 .skip (.ops c159r18))
abbrev c159s20:SCode:=(.seq (.ops c159r17) c159s19)
abbrev c159s21:SCode:=(.cond S3 .skip c159s20)
abbrev c159s22:SCode:=(.seq (.ops c159r16) c159s21)
abbrev c159s23:SCode:=(.cond S3 .skip c159s22)
abbrev c159s24:SCode:=(.seq (.ops c159r15) c159s23)
abbrev c159s25:SCode:=(.cond S3 .skip c159s24)
abbrev c159s26:SCode:=(.seq (.ops c159r14) c159s25)
abbrev c159s27:SCode:=(.cond S3 .skip c159s26)
abbrev c159s28:SCode:=(.seq (.ops c159r13) c159s27)
abbrev c159s29:SCode:=(.cond S3 .skip c159s28)
abbrev c159s30:SCode:=(.seq (.ops c159r12) c159s29)
abbrev c159s31:SCode:=(.cond S3 .skip c159s30)
abbrev c159s32:SCode:=(.seq (.ops c159r11) c159s31)
abbrev c159s33:SCode:=(.cond S3 .skip c159s32)
abbrev c159s34:SCode:=(.seq (.ops c159r10) c159s33)
abbrev c159s35:SCode:=(.cond S3 .skip c159s34)
abbrev c159s36:SCode:=(.seq (.ops c159r9) c159s35)
abbrev c159s37:SCode:=(.cond S3 .skip c159s36)
abbrev c159s38:SCode:=(.seq (.ops c159r8) c159s37)
abbrev c159s39:SCode:=(.cond S3 .skip c159s38)
abbrev c159s40:SCode:=(.seq (.ops c159r7) c159s39)
abbrev c159s41:SCode:=(.cond S3 .skip c159s40)
abbrev c159s42:SCode:=(.seq (.ops c159r6) c159s41)
abbrev c159s43:SCode:=(.cond S3 .skip c159s42)
abbrev c159s44:SCode:=(.seq (.ops c159r5) c159s43)
abbrev c159s45:SCode:=(.cond S3 .skip c159s44)
abbrev c159s46:SCode:=(.seq (.ops c159r4) c159s45)
abbrev c159s47:SCode:=(.cond S3 .skip c159s46)
abbrev c159s48:SCode:=(.seq (.ops c159r3) c159s47)
abbrev c159s49:SCode:=(.cond S3 .skip c159s48)
@[go_sem] def c159r50:List GOp:=[mS 1 (.c (.bool true))]
abbrev c159s51:SCode:=(.seq (.ops c159r50) .ret)
abbrev c159s52:SCode:=(.cond S3 c159s51 .skip)
abbrev c159s53:SCode:=(.block 0 (.seq (.seq (.ops c159r2) c159s49) c159s52))
@[go_sem] def c159r54:List GOp:=[mS 1 (.c (.bool false))]
abbrev c159s55:SCode:=(.seq (.ops c159r54) .ret)
abbrev c159s56:SCode:=(.seq (.seq (.ops c159r1) c159s53) c159s55)
def c159:Gx.Fn:=⟨22,c159k,(.seq (.ops c159r0) c159s56),[(.tmp S1)]⟩
theorem c159ok:stripFn Tryz.prog c159k Tryz.f159=some c159:=by kernel_rfl
@[go_sem] def c160k:List Nat:=[0,1,4,5,10,13,19]
@[go_sem] def c160r0:List GOp:=[oS 2 (.al 24 [(I 0),(.string ⟨⟨[]⟩⟩),(I 0),(I 0),Z])]
@[go_sem] def c160r1:List GOp:=[mT S0,oT (.call 35 [T0]),oT (.v (.fld1 3 T0)),oT (.v (.bld [(I 0),(.string ⟨⟨[]⟩⟩),(I 0),(I 0),Z] [(0,(1,(C 52))),(3,(1,T0))])),oS 3 (.al 24 [(I 0),(.string ⟨⟨[]⟩⟩),(I 0),(I 0),Z]),oN (.st 5 S3 T0)]
@[go_sem] def c160r2:List GOp:=[mS 4 S1]
@[go_sem] def c160r3:List GOp:=[oT (.v (.bin .eql S4 (.c (.string ⟨⟨[114,101,99]⟩⟩)))),mS 5 T0]
@[go_sem] def c160r4:List GOp:=[mT S0,oT (.call 62 [T0,(C 1)]),oT (.v (.fld1 1 T0)),fT 1 S3,oN (.st 1 T0 T1)]
@[go_sem] def c160r5:List GOp:=[oT (.v (.bin .eql S4 (.c (.string ⟨⟨[109,97,112]⟩⟩)))),mS 6 T0]
@[go_sem] def c160r6:List GOp:=[mT S0,oT (.call 28 [T0]),oT (.bs 24 1 [(I 0),(.string ⟨⟨[]⟩⟩),(I 0),(I 0),Z] [(0,(5,T0))]),fT 4 S3,oN (.st 1 T0 T1)]
@[go_sem] def c160r7:List GOp:=[mT S0,oT (.call 28 [T0]),oN (.st 5 S2 T0)]
abbrev c160s8:SCode:=(.seq (.ops c160r7) .ret)
abbrev c160s9:SCode:=(.cond S6 (.ops c160r6) c160s8)
abbrev c160s10:SCode:=(.seq (.ops c160r5) c160s9)
abbrev c160s11:SCode:=(.cond S5 (.ops c160r4) c160s10)
abbrev c160s12:SCode:=(.block 0 (.seq (.ops c160r3) c160s11))
@[go_sem] def c160r13:List GOp:=[mT S0,oT (.call 57 [T0,(.c (.string ⟨⟨[58]⟩⟩))])]
@[go_sem] def c160d14:DT:=(rf 4 S3 [5,7] (rl T0 [5,7] (rm S0 [3,4,5,7] (.ef 3 none .t (.call 28 [T0]) (.ef 4 none .t (.bs 24 1 [(I 0),(.string ⟨⟨[]⟩⟩),(I 0),(I 0),Z] [(0,(5,T0))]) (.ef 5 none .t (.ap 22 22 T3 T0) (rf 4 S3 [7] (.ef 7 none .no (.st 1 T0 T1) .done))))))))
@[go_sem] def c160r15:List GOp:=[oT (.ld (some 5) S3),oN (.st 5 S2 T0)]
abbrev c160s16:SCode:=(.seq (.ops c160r15) .ret)
abbrev c160s17:SCode:=(.seq (.de c160d14) c160s16)
abbrev c160s18:SCode:=(.seq (.ops c160r13) c160s17)
abbrev c160s19:SCode:=(.seq (.seq (.ops c160r2) c160s12) c160s18)
abbrev c160s20:SCode:=(.seq (.ops c160r1) c160s19)
def c160:Gx.Fn:=⟨35,c160k,(.seq (.ops c160r0) c160s20),[(.cell S2 (some 5))]⟩
theorem c160ok:stripFn Tryz.prog c160k Tryz.f160=some c160:=by kernel_rfl
end Go.Proofs.YtmhdkbmnpekpoaaGreatDoor
end
section
namespace Gx
open Go
def DCalls (P:Program) (g:FuncId) (args:Array Value) (u u':FrameMode) (H:Heap) (R:Heap→Prop):Prop:=
 ∀ w:World,w.heap=H→CallsD P g args u w fun e m w'=>∃ v,e= .returned v∧settle m=u'∧R w'.heap∧Same w w'
theorem DCalls.mono {P:Program} {g:FuncId} {args:Array Value} {u u':FrameMode} {H:Heap} {R R':Heap→Prop} (h:DCalls P g args u u' H R) (hr:∀ H',R H'→R' H'):DCalls P g args u u' H R':=
 fun w hw=>(h w hw).mono fun _ _ _ ⟨v,h1,h2,h3,h4⟩=>⟨v,h1,h2,hr _ h3,h4⟩
def defTarget (o1 o2:Oper):Option (Nat × Nat × List Nat):=
 match o1.op,o1.dst,o1.guard,o2.op,o2.dst,o2.guard with
 | .makeFunc (.func g) first caps,some d,none,.defer { callee:=.value (.tmp d'),args,argTypes:=_ },none,none=>
   if d=d'∧first.toList.isEmpty=true∧args.toList.isEmpty=true then
    match caps.toList.mapM (fun (x:Operand)=>match x with | .tmp t=>some t | _=>none) with
    | some cs=>some (g,d,cs)
    | none=>none
   else none
 | _,_,_,_,_,_=>none
structure DFn where
 n:Nat
 keep:List Nat
 fx:List Nat
 pre:SCode
 g:Nat
 caps:List Nat
 code:SCode
 res:List RV
 res0:List RV
def isDef:Code→Bool
 | .region _ ops false=>match ops.toList with
   | [o1,o2]=>(defTarget o1 o2).isSome
   | _=>false
 | _=>false
def unspine:Code→Option (List Code × Code)
 | .seq a b=>if isDef a then some ([],.seq a b) else match unspine b with
   | some (l,r)=>some (a :: l,r)
   | none=>none
 | _=>none
def spine:List Code→Code→Code
 | [],r=>r
 | a :: l,r=>.seq a (spine l r)
theorem unspine_spec:∀ {c:Code} {l:List Code} {r:Code},unspine c=some (l,r)→c=spine l r
 | .seq a b,l,r,h=>by
   simp only [unspine] at h
   split at h
   ·simp only [Option.some.injEq,Prod.mk.injEq] at h
    obtain ⟨rfl,rfl⟩:=h; rfl
   ·split at h
    ·rename_i l' r' hb
     simp only [Option.some.injEq,Prod.mk.injEq] at h
     obtain ⟨rfl,rfl⟩:=h
     rw [spine,← unspine_spec hb]
    ·cases h
 | .skip,_,_,h=>by simp [unspine] at h
 | .region ..,_,_,h=>by simp [unspine] at h
 | .cond ..,_,_,h=>by simp [unspine] at h
 | .block ..,_,_,h=>by simp [unspine] at h
 | .loop ..,_,_,h=>by simp [unspine] at h
 | .exit ..,_,_,h=>by simp [unspine] at h
 | .ret,_,_,h=>by simp [unspine] at h
 | .rangeFunc ..,_,_,h=>by simp [unspine] at h
 | .scope ..,_,_,h=>by simp [unspine] at h
 | .label ..,_,_,h=>by simp [unspine] at h
 | .goto ..,_,_,h=>by simp [unspine] at h
 | .refuse ..,_,_,h=>by simp [unspine] at h
def stripAll (P:Program) (n:Nx) (keep:List Nat):List Code→Option SCode
 | []=>some .skip
 | a :: l=>match strip P n keep a,stripAll P n keep l with
   | some x,some y=>some (.seq x y)
   | _,_=>none
def stripDef (P:Program) (keep fx:List Nat) (fn:Func):Option DFn:=
 if keep.all (fun t=>decide (t < fn.ntmps)) then
  match fn.body with
  | some c=>match unspine c with
    | some (A,.seq (.region _ ops false) C)=>
      match ops.toList with
      | [o1,o2]=>match defTarget o1 o2 with
        | some (g,d,cs)=>
          if decide (d < fn.ntmps) && (posOf keep d).isNone && !fx.elem d && hasBody P g then
           match stripAll P ⟨fn.ntmps,[]⟩ keep A,strip P ⟨fn.ntmps,fx⟩ keep C,stripRVs P fx fn.results.toList,stripRVs P keep fn.results.toList with
           | some a,some c,some rs,some rs0=>some ⟨fn.ntmps,keep,fx,a,g,cs,c,rs,rs0⟩
           | _,_,_,_=>none
          else none
        | none=>none
      | _=>none
    | _=>none
  | none=>none
 else none
def lookL (keep:List Nat) (σ:Slots):List Nat→Option (List Value)
 | []=>some []
 | t :: r=>match lookS keep σ t,lookL keep σ r with
   | some v,some vs=>some (v :: vs)
   | _,_=>none
def defQ (P:Program) (F:DFn) (R:Value→Heap→Prop):Post
 | .nrm,σ,H=>∃ vs cs,lookL F.keep σ F.fx=some vs∧lookL F.keep σ F.caps=some cs∧
  vc P (fun c H'=>DCalls P F.g cs.toArray (.panicking c) .returning H' fun H''=>finN R H'' (resV (vs.map some) H'' F.res)) F.code σ H fun x _ H'=>
   match x with
   | .ext _=>False
   | _=>DCalls P F.g cs.toArray .returning .returning H' fun H''=>finN R H'' (resV (vs.map some) H'' F.res)
 | .ret,σ,H=>finN R H (resV σ H F.res0)
 | .ext _,_,_=>False
section
variable {P:Program}
theorem lookL_tmps {n:Nx} {dd:DD} {keep:List Nat} {σ:Slots} {a:Act} (h:F2 n dd keep [] σ [] a):∀ {ts:List Nat} {vs:List Value},lookL keep σ ts=some vs→ts.map (fun t=>a.tmps.getD t undef)=vs∧∀ t ∈ ts,a.tmps[t]?=some (a.tmps.getD t undef)
 | [],vs,hv=>by simp [lookL] at hv; subst hv; exact ⟨rfl,fun t ht=>by cases ht⟩
 | t :: ts,vs,hv=>by
   simp only [lookL] at hv
   split at hv
   ·rename_i v vs' h1 h2
    simp at hv; subst hv
    obtain ⟨k,hk,hs⟩:=lookS_pos h1
    have e:=h.slots t k v hk hs
    obtain ⟨i1,i2⟩:=lookL_tmps h h2
    have e':a.tmps.getD t undef=v:=by simp [Array.getD_eq_getD_getElem?,e]
    refine ⟨by rw [List.map_cons,e',i1],fun t' ht'=>?_⟩
    rcases List.mem_cons.1 ht' with rfl | ht'
    ·rw [e',e]
    ·exact i2 t' ht'
   ·cases hv
theorem mapM_tmps {xs:List Operand} {cs:List Nat} (h:xs.mapM (fun (x:Operand)=>match x with | .tmp t=>some t | _=>none)=some cs):xs=cs.map .tmp:=by
 induction xs generalizing cs with
 | nil=>simp at h; subst h; rfl
 | cons x xs ih=>
   simp only [List.mapM_cons,Option.bind_eq_bind,Option.bind_eq_some_iff,Option.pure_def,Option.some.injEq] at h
   obtain ⟨t,h1,ts,h2,rfl⟩:=h
   cases x with
   | tmp u=>simp at h1; subst h1; simp [ih h2]
   | const u=>simp at h1
   | global u=>simp at h1
   | func u=>simp at h1
theorem defTarget_spec {o1 o2:Oper} {g d:Nat} {cs:List Nat} (h:defTarget o1 o2=some (g,d,cs)) :
 o1.op= .makeFunc (.func g) #[] (cs.map Operand.tmp).toArray∧o1.dst=some d∧o1.guard=none∧(∃ tys,o2.op= .defer { callee:=.value (.tmp d),args:=#[],argTypes:=tys })∧o2.dst=none∧o2.guard=none:=by
 unfold defTarget at h
 split at h
 ·rename_i g' first caps d' d'' args tys h1 h2 h3 h4 h5 h6
  split at h
  ·rename_i hc
   obtain ⟨rfl,hc2,hc3⟩:=hc
   split at h
   ·rename_i cs' hcs
    simp at h
    obtain ⟨rfl,rfl,rfl⟩:=h
    have e1:first=#[]:=by
     apply Array.toList_inj.1; simpa using hc2
    have e2:args=#[]:=by
     apply Array.toList_inj.1; simpa using hc3
    have e3:caps=(cs'.map Operand.tmp).toArray:=by
     apply Array.toList_inj.1; simpa using mapM_tmps hcs
    subst e1 e2 e3
    exact ⟨h1,h2,h3,⟨tys,h4⟩,h5,h6⟩
   ·cases h
  ·cases h
 ·cases h
theorem pre_sound {E:Chain→Heap→Prop} {n:Nx} {dd:DD} {keep:List Nat} {rest:Code} {T:Exit→Act→World→Prop} {Q:Post} {w0:World} (hT:∀ e a w,e≠.normal→QX E n dd keep w0 Q e a w→T e a w)
 (hrest:∀ a w σ,F2 n dd keep [] σ [] a→Same w0 w→Q .nrm σ w.heap→rest.wp P T a w):∀ {l:List Code} {s:SCode},stripAll P n keep l=some s→∀ {σ:Slots} {a:Act} {w:World},F2 n dd keep [] σ [] a→Same w0 w→vc P E s σ w.heap Q→(spine l rest).wp P T a w
 | [],s,hs,σ,a,w,hf,hw,hv=>by
   simp only [stripAll,Option.some.injEq] at hs; subst hs
   exact hrest a w σ hf hw hv
 | x :: l,s,hs,σ,a,w,hf,hw,hv=>by
   simp only [stripAll] at hs
   split at hs
   ·rename_i sx sl h1 h2
    simp only [Option.some.injEq] at hs; subst hs
    refine wp_seq (wp_mono (vc_sound x h1 hf hw hv) fun e a' w' hq=>?_)
    cases e with
    | normal=>
      obtain ⟨hw',σ',hf',hv'⟩:=hq
      exact pre_sound hT hrest h2 hf' hw' hv'
    | exit i=>exact hT _ _ _ (by simp) hq
    | ret=>exact hT _ _ _ (by simp) hq
    | panic c=>exact hT _ _ _ (by simp) hq
    | _=>first | exact hq.elim | exact hT _ _ _ (by simp) hq
   ·cases hs
theorem calls_of_defers {f:Nat} {fn:Func} {keep fx:List Nat} {F:DFn} {args:List Value} {H:Heap} {R:Value→Heap→Prop} (hf:P.funcs[f]?=some fn) (hs:stripDef P keep fx fn=some F)
 (hn:args.length≤F.n) (h:vc P (fun _ _=>False) F.pre (argS F.keep args) H (defQ P F R)):HCalls P f args.toArray H R:=by
 unfold stripDef at hs
 split at hs
 case isFalse=>cases hs
 rename_i hkn
 split at hs
 case h_2=>cases hs
 rename_i body hb
 split at hs
 case h_2=>cases hs
 rename_i A rid ops C hsp
 have hb0:=unspine_spec hsp
 subst hb0
 split at hs
 case h_2=>cases hs
 rename_i o1 o2 hops
 split at hs
 case h_2=>cases hs
 rename_i g d cs hdt
 split at hs
 case isFalse=>cases hs
 rename_i hc
 split at hs
 case h_2=>cases hs
 rename_i sa sc rs rs0 hA hC hR hR0
 simp at hs; subst hs
 simp only [Bool.and_eq_true,decide_eq_true_eq,Bool.not_eq_true',Option.isNone_iff_eq_none] at hc
 obtain ⟨⟨⟨hdn,hdk⟩,hdx⟩,hgb⟩:=hc
 obtain ⟨e1,e2,e3,⟨tys,e4⟩,e5,e6⟩:=defTarget_spec hdt
 intro w hw
 subst hw
 refine calls_of_wp_defers hf hb ?_
 refine pre_sound (fun e a w1 he hq=>?_) (fun a w1 σ hfit hs1 hq=>?_) hA (fits_args (dd:=⟨[],fun _=>undef⟩) hn hkn) (Same.refl w) h
 ·cases e <;> simp only [QX,bodyPostD] at hq ⊢
  case normal=>exact absurd rfl he
  case exit=>exact hq.2.elim fun σ h=>h.2.elim
  case panic=>exact hq.2.2.elim
  case ret=>
   obtain ⟨hs1,σ,hfit,hfin⟩:=hq
   rw [hfit.fixd.1]
   unfold Leaves
   replace hfin:finN R w1.heap (resV σ w1.heap rs0):=hfin
   cases hr:resV σ w1.heap rs0 with
   | none=>rw [hr] at hfin; exact hfin.elim
   | some us=>
     rw [hr] at hfin
     refine ⟨_,results_ok hfit hR0 hr,?_,hs1⟩
     match us,hfin with
     | [],hfin=>exact hfin
     | [v],hfin=>exact hfin
     | v :: u :: r,hfin=>exact hfin
 obtain ⟨vs,cvs,hvs,hcvs,hv⟩:=hq
 obtain ⟨f1,f2⟩:=lookL_tmps hfit hvs
 obtain ⟨g1,g2⟩:=lookL_tmps hfit hcvs
 -- the frame behind the deferring
 let fv:Value:=.func (.func g) #[] cvs.toArray
 let a2:Act:={ (a.put (some d) fv) with defers:=[{ target:=.fn (.func g) cvs.toArray,args:=#[] }] }
 have hd:d < a.tmps.size:=by rw [hfit.size]; exact hdn
 have ha0:a.defers=[]:=hfit.fixd.1
 refine wp_seq (wp_region_list ?_)
 rw [hops]
 have w1':Region.wanted o1 (yielded ops a.tmps)=true:=by simp [Region.wanted,e3]
 have w2':Region.wanted o2 (yielded ops (a.put o1.dst fv).tmps)=true:=by simp [Region.wanted,e6]
 have x1:(execOp a.eval o1).run P w1= .ok (.value fv) w1:=by
  have:(cs.map Operand.tmp).toArray.map a.eval=cvs.toArray:=by
   apply Array.toList_inj.1
   simp only [List.map_toArray,List.map_map]
   rw [← g1]
   apply List.map_congr_left
   intro t ht
   rfl
  simp [execOp,e1,Instr.makeFunc,fv,← this]
 have x2:(execOp (a.put o1.dst fv).eval o2).run P w1= .ok (.defer { target:=.fn (.func g) cvs.toArray,args:=#[] }) w1:=by
  have:(a.put o1.dst fv).eval (.tmp d)=fv:=by
   simp [Act.eval,e2,Act.put,Array.getD_eq_getD_getElem?,hd]
  simp [execOp,e4,resolve,this,fv,Deferred.ofValue]
 unfold wpList
 rw [if_pos w1']
 refine .inl ?_
 unfold Oper.wp
 rw [x1]
 simp only [Oper.upon_value]
 unfold wpList
 rw [if_pos w2']
 refine .inl ?_
 unfold Oper.wp
 rw [x2]
 simp only [Oper.upon_defer]
 unfold wpList
 have hact:({ (a.put o1.dst fv) with defers:={ target:=.fn (.func g) cvs.toArray,args:=#[] } :: (a.put o1.dst fv).defers }:Act).put o2.dst undef=a2:=by
  simp [e2,e5,a2,Act.put,ha0]
 rw [hact]
 simp only [Exit.then]
 -- the code behind it
 let dd:DD:=⟨[{ target:=.fn (.func g) cvs.toArray,args:=#[] }],fun t=>a.tmps.getD t undef⟩
 have hne:∀ t ∈ fx,d≠t:=by
  rintro t ht rfl
  simp only [List.elem_eq_contains,List.contains_eq_mem,decide_eq_false_iff_not] at hdx
  exact hdx ht
 have hget:∀ t,d≠t→a2.tmps[t]?=a.tmps[t]?:=fun t ht=>by simp [a2,Act.put,Array.getElem?_setIfInBounds_ne ht]
 have hfit2:F2 ⟨fn.ntmps,fx⟩ dd keep [] σ [] a2:=by
  refine ⟨by simp [a2,Act.put]; exact hfit.size,⟨rfl,fun t ht=>?_⟩,fun t k v ht hu=>?_,fun t k v _ hk _=>by simp [posOf] at hk⟩
  ·rw [hget t (hne t ht)]; exact f2 t ht
  ·have:d≠t:=by rintro rfl; rw [hdk] at ht; cases ht
   rw [hget t this]; exact hfit.slots t k v ht hu
 have fin:∀ (a':Act) (w':World) (u:FrameMode),u≠.run→Fixed ⟨fn.ntmps,fx⟩ dd a'→Same w w'→DCalls P g cvs.toArray u .returning w'.heap (fun H''=>finN R H'' (resV (vs.map some) H'' rs))→
  Leaves P fn a'.tmps (EndH R (fun _ _=>False) w) a'.defers u w':=by
  intro a' w' u hu hfx hs' hD
  rw [hfx.1]
  refine leaves_cons (f:=g) (args:=cvs.toArray) hu ?_ ((hD w' rfl).mono fun e m w'' ⟨v,he,hm,hR',hs''⟩=>?_)
  ·simp [invoke,run_callFunc hgb]
  ·subst he
   simp only [hm]
   unfold Leaves
   -- the results
   have hF:F2 ⟨a'.tmps.size,fx⟩ dd fx [] (vs.map some) [] a':=by
    refine ⟨rfl,hfx,fun t k v' ht hu=>?_,fun t k v _ hk _=>by simp [posOf] at hk⟩
    have hg:=posOf_get ht
    have hm':t ∈ fx:=List.mem_of_getElem? hg
    rw [hfx.2 t hm']
    rw [← f1] at hu
    simp only [List.getElem?_map,hg,Option.map_some,Option.some.injEq] at hu
    simpa [dd] using hu
   replace hR':finN R w''.heap (resV (vs.map some) w''.heap rs):=hR'
   cases hr:resV (vs.map some) w''.heap rs with
   | none=>rw [hr] at hR'; exact hR'.elim
   | some us=>
     rw [hr] at hR'
     refine ⟨_,results_ok hF hR hr,?_,hs'.trans hs''⟩
     match us,hR' with
     | [],hfin=>exact hfin
     | [v],hfin=>exact hfin
     | v :: u :: r,hfin=>exact hfin
 refine wp_mono (vc_sound C hC hfit2 hs1 hv) fun e a' w' hq=>?_
 cases e <;> simp only [QX,bodyPostD] at hq ⊢
 ·obtain ⟨hs',σ',hf',hq⟩:=hq; exact fin a' w' _ (by simp) hf'.fixd hs' hq
 ·exact hq.2.elim fun _ h=>h.2.elim
 ·obtain ⟨hs',σ',hf',hq⟩:=hq; exact fin a' w' _ (by simp) hf'.fixd hs' hq
 ·obtain ⟨hs',hfx,hq⟩:=hq; exact fin a' w' _ (by simp) hfx hs' hq
structure RFn where
 n:Nat
 keep:List Nat
 d0:Nat
 d1:Nat
 code:SCode
 res:List RV
def recOps (o0 o1:Oper):Option (Nat × Nat):=
 match o0.op,o0.dst,o0.guard,o1.op,o1.dst,o1.guard with
 | .call { callee:=.builtin .recover,args:=_,argTypes:=_ },some d0,none,.assign (.tmp d),some d1,none=>if d=d0 then some (d0,d1) else none
 | _,_,_,_,_,_=>none
def stripRec (P:Program) (keep:List Nat) (fn:Func):Option RFn:=
 if keep.all (fun t=>decide (t < fn.ntmps)) then
  match fn.body with
  | some (.seq (.region _ ops false) C)=>
    match ops.toList with
    | [o0,o1]=>match recOps o0 o1 with
      | some (d0,d1)=>
        if decide (d0 < fn.ntmps) && decide (d1 < fn.ntmps) then
         match strip P ⟨fn.ntmps,[]⟩ keep C,stripRVs P keep fn.results.toList with
         | some c,some rs=>some ⟨fn.ntmps,keep,d0,d1,c,rs⟩
         | _,_=>none
        else none
      | none=>none
    | _=>none
  | _=>none
 else none
def recV:FrameMode→Option (Value × FrameMode)
 | .returning=>some (.nilIface,.returning)
 | .panicking [{ v,recovered:=false,goexit:=false }]=>some (v,.panicking [{ v,recovered:=true }])
 | _=>none
theorem recOps_spec {o0 o1:Oper} {d0 d1:Nat} (h:recOps o0 o1=some (d0,d1)) :
 (∃ xs tys,o0.op= .call { callee:=.builtin .recover,args:=xs,argTypes:=tys })∧o0.dst=some d0∧o0.guard=none∧o1.op= .assign (.tmp d0)∧o1.dst=some d1∧o1.guard=none:=by
 unfold recOps at h
 split at h
 ·rename_i xs tys e0 d e1 h1 h2 h3 h4 h5 h6
  split at h
  ·rename_i hc
   simp at h; obtain ⟨rfl,rfl⟩:=h
   subst hc
   exact ⟨⟨_,_,h1⟩,h2,h3,h4,h5,h6⟩
  ·cases h
 ·cases h
theorem dcalls_of_rec {g:Nat} {fn:Func} {keep:List Nat} {F:RFn} {args:List Value} {H:Heap} {R:Heap→Prop} {u m:FrameMode} {v:Value} (hf:P.funcs[g]?=some fn) (hs:stripRec P keep fn=some F)
 (hn:args.length≤F.n) (hu:recV u=some (v,m)) (h:vc P (fun _ _=>False) F.code (putS (cD F.keep (some F.d1)) v (putS (cD F.keep (some F.d0)) v (argS F.keep args))) H (finQ F.res (fun _ H'=>R H'))) :
 DCalls P g args.toArray u (settle m) H R:=by
 unfold stripRec at hs
 split at hs
 case isFalse=>cases hs
 rename_i hkn
 split at hs
 case h_2=>cases hs
 rename_i rid ops C hb
 split at hs
 case h_2=>cases hs
 rename_i o0 o1 hops
 split at hs
 case h_2=>cases hs
 rename_i d0 d1 hro
 split at hs
 case isFalse=>cases hs
 rename_i hc
 split at hs
 case h_2=>cases hs
 rename_i sc rs hC hR
 simp at hs; subst hs
 simp only [Bool.and_eq_true,decide_eq_true_eq] at hc
 obtain ⟨hd0,hd1⟩:=hc
 obtain ⟨⟨xs,tys,e1⟩,e2,e3,e4,e5,e6⟩:=recOps_spec hro
 intro w hw
 subst hw
 refine callsD_of_wpS hf hb fun c₀ cs hc₀=>?_
 refine wpS_seq (wpS_region ?_)
 have hsz:ops.size=2:=by rw [← Array.length_toList,hops]; rfl
 have hg0:ops[0]?=some o0:=by rw [← Array.getElem?_toList,hops]; rfl
 have hg1:ops[1]?=some o1:=by rw [← Array.getElem?_toList,hops]; rfl
 have hrange:List.range ops.size=[0,1]:=by rw [hsz]; rfl
 rw [hrange]
 let a0:Act:={ tmps:=args.toArray ++ Array.replicate (fn.ntmps - args.toArray.size) undef,defers:=[] }
 have hF0:F2 ⟨fn.ntmps,[]⟩ ⟨[],fun _=>undef⟩ keep [] (argS keep args) [] a0:=fits_args (dd:=⟨[],fun _=>undef⟩) hn hkn
 have hF1:=(hF0.put (d:=some d0) (by simp [dstOk,hd0]) v).rest
 have hF2:=(hF1.put (d:=some d1) (by simp [dstOk,hd1]) v).rest
 -- the two operations
 have x0:(execOp a0.eval o0).run P w= .ok .recover w:=by simp [execOp,e1,resolve,invoke,builtin]
 have x1:(execOp (a0.put o0.dst v).eval o1).run P w= .ok (.value v) w:=by
  have hsz0:d0 < a0.tmps.size:=by rw [hF0.size]; exact hd0
  have:(a0.put o0.dst v).eval (.tmp d0)=v:=by
   simp [Act.eval,e2,Act.put,Array.getD_eq_getD_getElem?,hsz0]
  simp [execOp,e4,this]
 have w0':Region.wanted o0 (yielded ops a0.tmps)=true:=by simp [Region.wanted,e3]
 have w1':Region.wanted o1 (yielded ops (a0.put o0.dst v).tmps)=true:=by simp [Region.wanted,e6]
 have hrec:∃ cs',(∀ Q:Exit→Act→List Frame→World→Prop,wpOpsS P ops Q [1] (a0.put o0.dst v) cs' w→wpOpsS P ops Q [0,1] a0 (c₀ :: cs) w)∧cs'={ c₀ with mode:=m } :: cs:=by
  cases u with
  | run=>simp [recV] at hu
  | returning=>
    simp [recV] at hu; obtain ⟨rfl,rfl⟩:=hu
    refine ⟨c₀ :: cs,fun Q hq=>?_,by rw [← hc₀]⟩
    rw [wpOpsS,hg0]
    simp only [if_pos w0',x0,recoverD,hc₀]
    exact hq
  | panicking chain=>
    match chain,hu with
    | [{ v:=v',recovered:=false,goexit:=false }],hu=>
      simp [recV] at hu; obtain ⟨rfl,rfl⟩:=hu
      refine ⟨_,fun Q hq=>?_,rfl⟩
      rw [wpOpsS,hg0]
      simp only [if_pos w0',x0,recoverD,hc₀]
      exact hq
 obtain ⟨cs',hstep,rfl⟩:=hrec
 refine hstep _ ?_
 rw [wpOpsS,hg1]
 simp only [if_pos w1',x1,Oper.upon_value]
 rw [wpOpsS]
 simp only [Exit.thenS]
 rw [e2,e5]
 refine wpS_of_wp ?_
 refine wp_mono (vc_sound C hC hF2 (Same.refl w) h) fun e a w' hq=>?_
 have fin:∀ σ,F2 ⟨fn.ntmps,[]⟩ ⟨[],fun _=>undef⟩ keep [] σ [] a→Same w w'→finN (fun _ H'=>R H') w'.heap (resV σ w'.heap rs)→
  a.defers=[]∧∃ u',{ c₀ with mode:=m } :: cs={ c₀ with mode:=u' } :: cs∧∃ v,(results fn a.tmps).run P w'= .ok v w'∧∃ v',Ending.returned v= .returned v'∧settle u'=settle m∧R w'.heap∧Same w w':=by
  intro σ hfit hsame hfin
  refine ⟨hfit.fixd.1,m,rfl,?_⟩
  cases hr:resV σ w'.heap rs with
  | none=>rw [hr] at hfin; exact hfin.elim
  | some vs=>
    rw [hr] at hfin
    refine ⟨_,results_ok hfit hR hr,_,rfl,rfl,?_,hsame⟩
    match vs,hfin with
    | [],hfin=>exact hfin
    | [v],hfin=>exact hfin
    | v :: u :: r,hfin=>exact hfin
 cases e <;> simp only [QX,bodyPostS,finQ] at hq ⊢
 ·obtain ⟨hsame,σ,hfit,hfin⟩:=hq; exact fin σ hfit hsame hfin
 ·obtain ⟨_,_,_,hfin⟩:=hq; exact hfin
 ·obtain ⟨hsame,σ,hfit,hfin⟩:=hq; exact fin σ hfit hsame hfin
 ·exact hq.2.2.elim
end
end Gx
end
section
namespace Gx
open Go
def deferT (o:Oper):Option (Nat × List Nat):=
 match o.op,o.dst,o.guard with
 | .defer { callee:=.value (.func g),args,argTypes:=_ },none,none=>
   match args.toList.mapM (fun (x:Operand)=>match x with | .tmp t=>some t | _=>none) with
   | some ts=>some (g,ts)
   | none=>none
 | _,_,_=>none
structure CFn where
 n:Nat
 keep:List Nat
 pre:SCode
 pre2:SCode
 c:Opd
 mid:SCode
 last:List GOp
 g:Nat
 args:List Nat
 code:SCode
structure CPt where
 p:Code
 c:Operand
 b:Code
 i:Nat
 ops:Array Oper
def cPart:Code→Option CPt
 | .seq p (.cond c (.seq b (.region i ops false)) .skip)=>some ⟨p,c,b,i,ops⟩
 | _=>none
def unspineC:Code→Option (List Code × CPt × Code)
 | .seq a b=>match cPart a with
   | some x=>some ([],x,b)
   | none=>match unspineC b with
     | some (l,x,r)=>some (a :: l,x,r)
     | none=>none
 | _=>none
def cCode (x:CPt):Code:=.seq x.p (.cond x.c (.seq x.b (.region x.i x.ops false)) .skip)
theorem cPart_spec {c:Code} {x:CPt} (h:cPart c=some x):c=cCode x:=by
 unfold cPart at h
 split at h
 ·simp only [Option.some.injEq] at h; subst h; rfl
 ·cases h
theorem unspineC_spec:∀ {c:Code} {l:List Code} {x:CPt} {r:Code},unspineC c=some (l,x,r)→c=spine l (.seq (cCode x) r)
 | .seq a b,l,x,r,h=>by
   simp only [unspineC] at h
   split at h
   ·rename_i y hy
    simp only [Option.some.injEq,Prod.mk.injEq] at h
    obtain ⟨rfl,rfl,rfl⟩:=h
    rw [cPart_spec hy]; rfl
   ·split at h
    ·rename_i l' x' r' hb
     simp only [Option.some.injEq,Prod.mk.injEq] at h
     obtain ⟨rfl,rfl,rfl⟩:=h
     rw [spine,← unspineC_spec hb]
    ·cases h
 | .skip,_,_,_,h=>by simp [unspineC] at h
 | .region ..,_,_,_,h=>by simp [unspineC] at h
 | .cond ..,_,_,_,h=>by simp [unspineC] at h
 | .block ..,_,_,_,h=>by simp [unspineC] at h
 | .loop ..,_,_,_,h=>by simp [unspineC] at h
 | .exit ..,_,_,_,h=>by simp [unspineC] at h
 | .ret,_,_,_,h=>by simp [unspineC] at h
 | .rangeFunc ..,_,_,_,h=>by simp [unspineC] at h
 | .scope ..,_,_,_,h=>by simp [unspineC] at h
 | .label ..,_,_,_,h=>by simp [unspineC] at h
 | .goto ..,_,_,_,h=>by simp [unspineC] at h
 | .refuse ..,_,_,_,h=>by simp [unspineC] at h
def stripCDef (P:Program) (keep:List Nat) (fn:Func):Option CFn:=
 if keep.all (fun t=>decide (t < fn.ntmps)) && fn.results.toList.isEmpty then
  match fn.body with
  | some c=>match unspineC c with
    | some (A,⟨p,x,B,_,ops⟩,C)=>
      match ops.toList.reverse with
      | o :: l=>match deferT o,stripOps P ⟨fn.ntmps,[]⟩ ops.toList l.reverse with
        | some (g,ts),some gs=>
          if hasBody P g then
           match stripAll P ⟨fn.ntmps,[]⟩ keep A,strip P ⟨fn.ntmps,[]⟩ keep p,strip P ⟨fn.ntmps,[]⟩ keep B,strip P ⟨fn.ntmps,[]⟩ keep C with
           | some a,some a2,some b,some c=>some ⟨fn.ntmps,keep,a,a2,cO keep [] x,b,comp keep (gs.length + 1) none [] gs,g,ts,c⟩
           | _,_,_,_=>none
          else none
        | _,_=>none
      | []=>none
    | none=>none
  | none=>none
 else none
def cdefQ (P:Program) (F:CFn) (R:Value→Heap→Prop):Post
 | .nrm,σ,H=>vc P (fun _ _=>False) F.pre2 σ H (seqK (fun σ H=>condN
  (vc P (fun _ _=>False) F.mid σ H (seqK (fun σ H=>vcOps P (fun _ _=>False) F.last σ [] H fun σ H=>∃ cs,lookL F.keep σ F.args=some cs∧
   vc P (fun _ _=>False) F.code σ H fun x _ H'=>match x with
    | .ext _=>False
    | _=>DCalls P F.g cs.toArray .returning .returning H' (R (.tuple #[]))) fun _ _ _=>False))
  (vc P (fun _ _=>False) F.code σ H fun x _ H'=>match x with
   | .ext _=>False
   | _=>R (.tuple #[]) H')
  (evO σ [] F.c)) fun _ _ _=>False)
 | _,_,_=>False
section
variable {P:Program}
theorem wpList_more {E:Chain→Heap→Prop} {n:Nx} {dd:DD} {ops:Array Oper} {Q:Exit→Act→World→Prop} {Q':Act→Heap→Prop} {r2:List Oper}:∀ (l:List Oper) (a:Act) (w w0:World),Same w0 w→
 Fixed n dd a→(∀ o ∈ l,dstOk n o.dst=true)→(∀ a w',Same w0 w'→Q' a w'.heap→wpList P ops Q r2 a w')→(∀ c a w',Fixed n dd a→Same w0 w'→E c w'.heap→Q (.panic c) a w')→RunL (Sense.all P E) ops Q' l a w.heap→wpList P ops Q (l ++ r2) a w
 | [],a,w,w0,hs,hd,hl,h,hE,hr=>h a w hs hr
 | o :: r,a,w,w0,hs,hd,hl,h,hE,hr=>by
   unfold RunL at hr
   rw [List.cons_append]
   unfold wpList
   split
   ·rename_i hw; rw [if_pos hw] at hr
    exact .inl (OpOk.wp hr (fun v w' hR hs'=>wpList_more r _ w' w0 (hs.trans hs') (hd.put (hl o (by simp)) _) (fun q hq=>hl q (by simp [hq])) h hE hR) fun c w' hc hs'=>hE c a w' hd (hs.trans hs') hc)
   ·rename_i hw; rw [if_neg hw] at hr
    exact wpList_more r _ w w0 hs (hd.put (hl o (by simp)) _) (fun q hq=>hl q (by simp [hq])) h hE hr
theorem deferT_spec {o:Oper} {g:Nat} {ts:List Nat} (h:deferT o=some (g,ts)) :
 (∃ tys,o.op= .defer { callee:=.value (.func g),args:=(ts.map Operand.tmp).toArray,argTypes:=tys })∧o.dst=none∧o.guard=none:=by
 unfold deferT at h
 split at h
 ·rename_i g' args tys h1 h2 h3
  split at h
  ·rename_i ts' hts
   simp only [Option.some.injEq,Prod.mk.injEq] at h
   obtain ⟨rfl,rfl⟩:=h
   have e3:args=(ts'.map Operand.tmp).toArray:=by
    apply Array.toList_inj.1; simpa using mapM_tmps hts
   subst e3
   exact ⟨⟨tys,h1⟩,h2,h3⟩
  ·cases h
 ·cases h
theorem dcalls_of_vc {f:Nat} {fn:Func} {keep:List Nat} {F:Fn} {args:List Value} {H:Heap} {R:Value→Heap→Prop} (hf:P.funcs[f]?=some fn) (hs:stripFn P keep fn=some F)
 (hn:args.length≤F.n) (h:vc P (fun _ _=>False) F.code (argS F.keep args) H (finQ F.res R)):DCalls P f args.toArray .returning .returning H (fun H'=>∃ v,R v H'):=by
 unfold stripFn at hs
 split at hs
 case isFalse=>cases hs
 rename_i hkn
 split at hs
 ·rename_i c hb
  split at hs
  ·rename_i s rs h1 h2
   simp at hs; subst hs
   intro w hw
   subst hw
   refine CallsD.mono (callsD_of_wp (R:=EndH R (fun _ _=>False) w) hf hb ?_) ?_
   ·refine wp_mono (vc_sound c h1 (fits_args (dd:=⟨[],fun _=>undef⟩) hn hkn) (Same.refl w) h) fun e a w' hq=>?_
    have fin:∀ σ,F2 ⟨fn.ntmps,[]⟩ ⟨[],fun _=>undef⟩ keep [] σ [] a→Same w w'→finN R w'.heap (resV σ w'.heap rs)→a.defers=[]∧∃ v,(results fn a.tmps).run P w'= .ok v w'∧EndH R (fun _ _=>False) w (.returned v) w':=by
     intro σ hfit hsame hfin
     refine ⟨hfit.fixd.1,?_⟩
     cases hr:resV σ w'.heap rs with
     | none=>rw [hr] at hfin; exact hfin.elim
     | some vs=>
       rw [hr] at hfin
       refine ⟨_,results_ok hfit h2 hr,?_,hsame⟩
       match vs,hfin with
       | [],hfin=>exact hfin
       | [v],hfin=>exact hfin
       | v :: u :: r,hfin=>exact hfin
    cases e <;> simp only [QX,bodyPost,finQ] at hq ⊢
    ·obtain ⟨hsame,σ,hfit,hfin⟩:=hq; exact fin σ hfit hsame hfin
    ·obtain ⟨_,_,_,hfin⟩:=hq; exact hfin
    ·obtain ⟨hsame,σ,hfit,hfin⟩:=hq; exact fin σ hfit hsame hfin
    ·obtain ⟨hsame,hfx,hE⟩:=hq; exact ⟨hfx.1,hE,hsame⟩
   ·rintro e u' w' ⟨rfl,he⟩
    cases e with
    | returned v=>exact ⟨v,rfl,rfl,⟨v,he.1⟩,he.2⟩
    | panicked c=>exact he.1.elim
    | outgrown=>exact he.elim
  ·simp at hs
 ·simp at hs
theorem calls_of_cdef {f:Nat} {fn:Func} {keep:List Nat} {F:CFn} {args:List Value} {H:Heap} {R:Value→Heap→Prop} (hf:P.funcs[f]?=some fn) (hs:stripCDef P keep fn=some F)
 (hn:args.length≤F.n) (h:vc P (fun _ _=>False) F.pre (argS F.keep args) H (cdefQ P F R)):HCalls P f args.toArray H R:=by
 unfold stripCDef at hs
 split at hs
 case isFalse=>cases hs
 rename_i hkn
 simp only [Bool.and_eq_true,List.isEmpty_iff] at hkn
 obtain ⟨hkn,hres⟩:=hkn
 split at hs
 case h_2=>cases hs
 rename_i body hb
 split at hs
 case h_2=>cases hs
 rename_i A p x B i ops C hsp
 have hb0:=unspineC_spec hsp
 subst hb0
 split at hs
 case h_2=>cases hs
 rename_i o l hops
 split at hs
 case h_2=>cases hs
 rename_i g ts gs hdt hgs
 split at hs
 case isFalse=>cases hs
 rename_i hgb
 split at hs
 case h_2=>cases hs
 rename_i sa sp sb sc hA hp hB hC
 simp only [Option.some.injEq] at hs; subst hs
 obtain ⟨⟨tys,e1⟩,e2,e3⟩:=deferT_spec hdt
 have hol:ops.toList=l.reverse ++ [o]:=by
  have:=congrArg List.reverse hops
  simpa using this
 have hr0:∀ (tmps:Array Value) (w:World),(results fn tmps).run P w= .ok (.tuple #[]) w:=by
  intro tmps w
  have:fn.results=#[]:=Array.toList_inj.1 hres
  simp [results,this]
 intro w hw
 subst hw
 refine calls_of_wp_defers hf hb ?_
 refine pre_sound (fun e a w1 he hq=>?_) (fun a w1 σ hfit hs1 hq=>?_) hA (fits_args (dd:=⟨[],fun _=>undef⟩) hn hkn) (Same.refl w) h
 ·cases e <;> simp only [QX,bodyPostD] at hq ⊢
  case normal=>exact absurd rfl he
  case exit=>exact hq.2.elim fun σ h=>h.2.elim
  case panic=>exact hq.2.2.elim
  case ret=>exact hq.2.elim fun σ h=>h.2.elim
 ·have plain:∀ (a:Act) (w':World) (σ:Slots),F2 ⟨fn.ntmps,[]⟩ ⟨[],fun _=>undef⟩ keep [] σ [] a→Same w w'→
   vc P (fun _ _=>False) sc σ w'.heap (fun x _ H'=>match x with | .ext _=>False | _=>R (.tuple #[]) H')→C.wp P (bodyPostD P fn (EndH R (fun _ _=>False) w)) a w':=by
   intro a w' σ hf' hs' hv
   refine wp_mono (vc_sound C hC hf' hs' hv) fun e a' w' hq=>?_
   have fin:∀ σ',F2 ⟨fn.ntmps,[]⟩ ⟨[],fun _=>undef⟩ keep [] σ' [] a'→Same w w'→R (.tuple #[]) w'.heap→Leaves P fn a'.tmps (EndH R (fun _ _=>False) w) a'.defers .returning w':=by
    intro σ' hf' hs' hR
    rw [hf'.fixd.1]
    exact ⟨_,hr0 _ _,hR,hs'⟩
   cases e <;> simp only [QX,bodyPostD] at hq ⊢
   ·obtain ⟨hs',σ',hf',hq⟩:=hq; exact fin σ' hf' hs' hq
   ·exact hq.2.elim fun _ h=>h.2.elim
   ·obtain ⟨hs',σ',hf',hq⟩:=hq; exact fin σ' hf' hs' hq
   ·exact hq.2.2.elim
  refine wp_seq (wp_seq (wp_mono (vc_sound p hp hfit hs1 hq) fun e a w1 hq=>?_))
  cases e <;> simp only [QX,Exit.then,seqK] at hq ⊢
  case exit=>exact hq.2.elim fun σ h=>h.2.elim
  case panic=>exact hq.2.2.elim
  case ret=>exact hq.2.elim fun σ h=>h.2.elim
  obtain ⟨hs1,σ,hfit,hq⟩:=hq
  simp only [condN] at hq
  split at hq
  case h_2=>exact hq.elim
  rename_i t ht
  refine wp_cond_split (hfit.agree x _ ht) (fun ht=>?_) (fun ht=>?_)
  ·replace hq:=hq.1 ht
   refine wp_seq (wp_mono (vc_sound B hB hfit hs1 hq) fun e a' w' hq=>?_)
   cases e <;> simp only [QX,Exit.then,seqK] at hq ⊢
   case exit=>exact hq.2.elim fun σ h=>h.2.elim
   case panic=>exact hq.2.2.elim
   case ret=>exact hq.2.elim fun σ h=>h.2.elim
   obtain ⟨hs',σ',hf',hq⟩:=hq
   refine wp_region_list ?_
   rw [hol]
   have hal:=stripOps_aligned hgs
   have:=comp_sound (keep:=keep) (Sense.all P (fun _ _=>False)) (Q:=fun a H=>∃ σ,F2 ⟨fn.ntmps,[]⟩ ⟨[],fun _=>undef⟩ keep [] σ [] a∧∃ cs,lookL keep σ ts=some cs∧
    vc P (fun _ _=>False) sc σ H fun x _ H'=>match x with
     | .ext _=>False
     | _=>DCalls P g cs.toArray .returning .returning H' (R (.tuple #[]))) (K:=fun σ H=>∃ cs,lookL keep σ ts=some cs∧
    vc P (fun _ _=>False) sc σ H fun x _ H'=>match x with
     | .ext _=>False
     | _=>DCalls P g cs.toArray .returning .returning H' (R (.tuple #[]))) (fun lay σ τ a H hf h=>⟨_,hf.rest,h⟩) (gs.length + 1) none [] gs l.reverse hal allowed_all σ' [] a' w'.heap hf' hq
   refine wpList_more (n:=⟨fn.ntmps,[]⟩) (dd:=⟨[],fun _=>undef⟩) (E:=fun _ _=>False) l.reverse a' w' w hs' hf'.fixd (aligned_dst hal) (fun a2 w2 hs2 h2=>?_) (fun c a w' hd hs' hE=>hE.elim) this
   obtain ⟨σ2,hf2,cs,hcs,hv⟩:=h2
   obtain ⟨g1,g2⟩:=lookL_tmps hf2 hcs
   unfold wpList
   rw [if_pos (by simp [Region.wanted,e3])]
   refine .inl ?_
   unfold Oper.wp
   have x2:(execOp a2.eval o).run P w2= .ok (.defer { target:=.fn (.func g) #[],args:=cs.toArray }) w2:=by
    have:(ts.map Operand.tmp).toArray.map a2.eval=cs.toArray:=by
     apply Array.toList_inj.1
     simp only [List.map_toArray,List.map_map]
     rw [← g1]
     apply List.map_congr_left
     intro t ht
     rfl
    have ef:a2.eval (.func g)= .func (.func g) #[] #[]:=rfl
    simp [execOp,e1,resolve,ef,Deferred.ofValue,← this]
   rw [x2]
   simp only [Oper.upon_defer]
   unfold wpList
   have hd0:a2.defers=[]:=hf2.fixd.1
   let a3:Act:={ a2 with defers:=[{ target:=.fn (.func g) #[],args:=cs.toArray }] }
   have hact:({ a2 with defers:={ target:=.fn (.func g) #[],args:=cs.toArray } :: a2.defers }:Act).put o.dst undef=a3:=by
    simp [e2,a3,Act.put,hd0]
   rw [hact]
   simp only [Exit.then]
   let dd:DD:=⟨[{ target:=.fn (.func g) #[],args:=cs.toArray }],fun _=>undef⟩
   have hfit2:F2 ⟨fn.ntmps,[]⟩ dd keep [] σ2 [] a3:=
    ⟨hf2.size,⟨rfl,fun t ht=>by cases ht⟩,fun t k v ht hu=>hf2.slots t k v ht hu,fun t k v _ hk _=>by simp [posOf] at hk⟩
   refine wp_mono (vc_sound C hC hfit2 hs2 hv) fun e a' w' hq=>?_
   have fin:Fixed ⟨fn.ntmps,[]⟩ dd a'→Same w w'→DCalls P g cs.toArray .returning .returning w'.heap (R (.tuple #[]))→
    Leaves P fn a'.tmps (EndH R (fun _ _=>False) w) a'.defers .returning w':=by
    intro hfx hs' hD
    rw [hfx.1]
    refine leaves_cons (f:=g) (args:=cs.toArray) (by simp) ?_ ((hD w' rfl).mono fun e m w'' ⟨v,he,hm,hR',hs''⟩=>?_)
    ·simp [invoke,run_callFunc hgb]
    ·subst he
     simp only [hm]
     exact ⟨_,hr0 _ _,hR',hs'.trans hs''⟩
   cases e <;> simp only [QX,bodyPostD] at hq ⊢
   ·obtain ⟨hs',σ',hf',hq⟩:=hq; exact fin hf'.fixd hs' hq
   ·exact hq.2.elim fun _ h=>h.2.elim
   ·obtain ⟨hs',σ',hf',hq⟩:=hq; exact fin hf'.fixd hs' hq
   ·exact hq.2.2.elim
  ·exact wp_skip (plain a w1 σ hfit hs1 (hq.2 ht))
end
end Gx
end
section
namespace Go.Proofs.YtmhdkbmnpekpoaaGreatDoor
open Gx Go
def c26a:SCode:=(.seq (.ops [(.op none (.s 2) (.al 24 [(.int .i64 0),(.string ⟨⟨[]⟩⟩),(.int .i64 0),(.int .i64 0),(.slice none 0 0)])),(.op none (.s 3) (.al 31 [(.int .i64 0),(.int .i64 0)]))]) (.seq (.ops [(.op none .t (.v (.mv (.s 0)))),(.op none .t (.call 51 [(.t 0)])),(.op none .t (.v (.mv (.t 0)))),(.op none .t (.v (.ext (.t 0) 0))),(.op none .t (.v (.ext (.t 1) 1))),(.op none (.s 5) (.al 31 [(.int .i64 0),(.int .i64 0)])),(.op none (.s 4) (.v (.mv (.t 1)))),(.op none .no (.st 2 (.s 5) (.t 0)))]) (.seq (.seq (.ops [(.op none .t (.v (.fa 0 (.s 5)))),(.op none .t (.ld none (.t 0))),(.op none (.s 7) (.v (.bin .neq (.t 0) (.c (.int .i64 0)))))]) (.cond (.s 7) (.seq (.de (.rd none .t (.v (.bld [(.int .i64 0),(.string ⟨⟨[]⟩⟩),(.int .i64 0),(.int .i64 0),(.slice none 0 0)] [])) [2,3] (.rd none .t (.ld (some 2) (.s 5)) [3] (.ef 2 none .no (.st 5 (.s 2) (.t 1)) (.ef 3 none .no (.st 2 (.s 3) (.t 0)) .done))))) .ret) .skip)) (.seq (.ops [(.op none .t (.v (.mv (.s 4)))),(.op none .t (.v (.bld [(.slice none 0 0),(.int .i64 0),(.int .i64 0)] [(0,(1,(.t 0)))]))),(.op none .t (.bx 74 (.t 0))),(.op none (.s 6) (.v (.mv (.t 0))))]) .skip))))
def c26b:SCode:=(.seq (.ops [(.op none .t (.v (.mv (.s 1)))),(.op none .t (.v (.mv (.s 6)))),(.op none .t (.cv (.t 1) [(.t 0)])),(.op none .no (.st 5 (.s 2) (.t 0)))]) (.seq (.seq (.ops [(.op none .t (.v (.mv (.s 6)))),(.op none .t (.call 35 [(.t 0)])),(.op none .t (.v (.fld1 0 (.t 0)))),(.op none (.s 8) (.v (.bin .neq (.t 0) (.c (.int .i64 6)))))]) (.cond (.s 8) (.ops [(.op none .t (.v (.mv (.s 6)))),(.op none .t (.call 53 [(.t 0),(.c (.int .i64 2))]))]) .skip)) (.seq (.ops [(.op none .t (.ld (some 5) (.s 2))),(.op none .t (.v (.bld [(.int .i64 0),(.int .i64 0)] []))),(.op none .no (.st 5 (.s 2) (.t 1))),(.op none .no (.st 2 (.s 3) (.t 0)))]) .ret)))
def c26:Gx.DFn:=⟨34,[0,1,4,5,6,7,8,16,29],[4,5],c26a,52,[5,4],c26b,[(.cell (.s 0) (some 5)),(.cell (.s 1) (some 2))],[(.cell (.s 2) (some 5)),(.cell (.s 3) (some 2))]⟩
theorem c26ok:stripDef Tryz.prog [0,1,4,5,6,7,8,16,29] [4,5] Tryz.f26=some c26:=by kernel_rfl
def c52b:SCode:=(.seq (.ops [(.op none .t (.v (.mv (.s 2)))),(.op none (.s 3) (.v (.isnilf true (.t 0))))]) (.cond (.s 3) (.seq (.ops [(.op none .t (.v (.mv (.s 2)))),(.op none .t (.v (.tyb 31 (.t 0)))),(.op none .no (.st 2 (.s 0) (.t 0)))]) (.ops [(.op none .t (.v (.bld [(.int .i64 0),(.string ⟨⟨[]⟩⟩),(.int .i64 0),(.int .i64 0),(.slice none 0 0)] []))),(.op none .no (.st 5 (.s 1) (.t 0)))])) .skip))
def c52:Gx.RFn:=⟨9,[0,1,2,5],3,2,c52b,[]⟩
theorem c52ok:stripRec Tryz.prog [0,1,2,5] Tryz.f52=some c52:=by kernel_rfl
def c23p:SCode:=(.ops [(.op none .t (.ld (some 5) (.s 3))),(.op none .t (.call 45 [(.t 0)])),(.op none .t (.v (.mv (.s 2)))),(.op none (.s 9) (.v (.bin .lss (.t 1) (.t 0))))])
def c23a:SCode:=(.seq (.ops [(.op none (.s 3) (.bx 24 (.s 1)))]) .skip)
def c23m:SCode:=(.ops [(.op none .t (.v (.mv (.s 0)))),(.op none .t (.bs 9 1 [(.string ⟨⟨[]⟩⟩)] [(0,(1,(.c (.string ⟨⟨[40]⟩⟩))))])),(.op none .t (.call 32 [(.t 1),(.t 0)]))])
def c23l:List GOp:=[(.op none (.s 10) (.v (.mv (.s 0)))),(.op none (.s 11) (.bs 9 1 [(.string ⟨⟨[]⟩⟩)] [(0,(1,(.c (.string ⟨⟨[41]⟩⟩))))]))]
def c23b:SCode:=(.seq (.ops [(.op none .t (.v (.fa 0 (.s 3)))),(.op none .t (.ld none (.t 0))),(.op none .t (.call 46 [(.t 0)])),(.op none .t (.v (.mv (.t 0)))),(.op none .t (.v (.ext (.t 0) 0))),(.op none .t (.v (.ext (.t 1) 1))),(.op none .t (.v (.ext (.t 2) 2))),(.op none .t (.v (.ext (.t 3) 3))),(.op none (.s 4) (.v (.mv (.t 3)))),(.op none .t (.v (.mv (.t 2)))),(.op none (.s 5) (.v (.mv (.t 2)))),(.op none (.s 6) (.v (.mv (.t 1))))]) (.block 0 (.seq (.ops [(.op none .t (.v (.mv (.s 4)))),(.op none .t (.v (.bin .neq (.t 0) (.c (.string ⟨⟨[]⟩⟩))))),(.op none (.s 12) (.v (.mv (.t 0))))]) (.cond (.s 12) (.seq (.ops [(.op none .t (.v (.mv (.s 0)))),(.op none .t (.ld (some 5) (.s 3))),(.op none .t (.call 47 [(.t 0)])),(.op none .t (.v (.mv (.t 0)))),(.sel (.t 0) true [(.op (.v (.fa 4 (.s 3)))),(.op (.ld none (.t 0))),(.op (.v (.len (.t 0)))),(.op (.v (.bin .eql (.t 0) (.c (.int .i64 2)))))] .t (.t 0) (.c (.bool false))),(.op none (.s 13) (.call 29 [(.t 4),(.t 0)]))]) (.cond (.s 13) (.seq (.ops [(.op none .t (.v (.mv (.s 0)))),(.op none .t (.v (.fa 4 (.s 3)))),(.op none .t (.ld none (.t 0))),(.op none .t (.v (.ix 5 (.t 0) (.c (.int .i64 0))))),(.op none .t (.ld (some 5) (.t 0))),(.op none .t (.v (.mv (.s 5)))),(.op none .t (.call 23 [(.t 5),(.t 1),(.t 0)]))]) (.seq (.ops [(.op none .t (.v (.mv (.s 0)))),(.op none .t (.v (.mv (.s 4)))),(.op none .t (.bs 9 3 [(.string ⟨⟨[]⟩⟩),(.string ⟨⟨[]⟩⟩),(.string ⟨⟨[]⟩⟩)] [(0,(1,(.c (.string ⟨⟨[32]⟩⟩)))),(1,(1,(.t 0))),(2,(1,(.c (.string ⟨⟨[32]⟩⟩))))])),(.op none .t (.call 32 [(.t 2),(.t 0)]))]) (.ops [(.op none .t (.v (.mv (.s 0)))),(.op none .t (.v (.fa 4 (.s 3)))),(.op none .t (.ld none (.t 0))),(.op none .t (.v (.ix 5 (.t 0) (.c (.int .i64 1))))),(.op none .t (.ld (some 5) (.t 0))),(.op none .t (.v (.mv (.s 6)))),(.op none .t (.call 23 [(.t 5),(.t 1),(.t 0)]))]))) .skip)) (.seq (.ops [(.op none .t (.v (.fa 0 (.s 3)))),(.op none .t (.ld none (.t 0))),(.op none .t (.v (.bin .eql (.t 0) (.c (.int .i64 30))))),(.op none (.s 14) (.v (.mv (.t 0))))]) (.cond (.s 14) (.seq (.ops [(.op none .t (.v (.mv (.s 0)))),(.op none .t (.ld (some 5) (.s 3))),(.op none .t (.call 47 [(.t 0)])),(.op none .t (.v (.mv (.t 0)))),(.sel (.t 0) true [(.op (.v (.fa 4 (.s 3)))),(.op (.ld none (.t 0))),(.op (.v (.len (.t 0)))),(.op (.v (.bin .eql (.t 0) (.c (.int .i64 3)))))] .t (.t 0) (.c (.bool false))),(.op none (.s 15) (.call 29 [(.t 4),(.t 0)]))]) (.cond (.s 15) (.seq (.ops [(.op none (.s 16) (.v (.bld [(.string ⟨⟨[]⟩⟩),(.string ⟨⟨[]⟩⟩),(.string ⟨⟨[]⟩⟩)] [(0,(1,(.c (.string ⟨⟨[105,102,32]⟩⟩)))),(1,(1,(.c (.string ⟨⟨[32,116,104,101,110,32]⟩⟩)))),(2,(1,(.c (.string ⟨⟨[32,101,108,115,101,32]⟩⟩))))]))),(.op none (.s 17) (.v (.mv (.c (.int .i64 0)))))]) (.block 1 (.loop [0,1,2,4,6,8,9,10,11,15,19,20,32,44,63,76,77,78,79,94,107,117,126,139,152] (.seq (.ops [(.op none (.s 18) (.v (.bin .lss (.s 17) (.c (.int .i64 3)))))]) (.seq (.cond (.s 18) .skip (.exit 1)) (.seq (.block 2 (.seq (.ops [(.op none .t (.v (.mv (.s 17)))),(.op none .t (.v (.ixe 1 3 (.s 16) (.s 17)))),(.op none (.s 7) (.v (.mv (.t 1)))),(.op none (.s 8) (.v (.mv (.t 0))))]) (.seq (.ops [(.op none .t (.v (.mv (.s 0)))),(.op none .t (.v (.mv (.s 8)))),(.op none .t (.bs 9 1 [(.string ⟨⟨[]⟩⟩)] [(0,(1,(.t 0)))])),(.op none .t (.call 32 [(.t 2),(.t 0)]))]) (.ops [(.op none .t (.v (.mv (.s 0)))),(.op none .t (.v (.fa 4 (.s 3)))),(.op none .t (.ld none (.t 0))),(.op none .t (.v (.mv (.s 7)))),(.op none .t (.v (.ix 5 (.t 1) (.t 0)))),(.op none .t (.ld (some 5) (.t 0))),(.op none .t (.call 23 [(.t 5),(.t 0),(.c (.int .i64 0))]))])))) (.ops [(.op none .t (.v (.bin .add (.s 17) (.c (.int .i64 1))))),(.op none (.s 17) (.v (.mv (.t 0))))]))))))) .skip)) (.seq (.ops [(.op none .t (.v (.fa 0 (.s 3)))),(.op none .t (.ld none (.t 0))),(.op none .t (.v (.bin .eql (.t 0) (.c (.int .i64 33))))),(.op none (.s 19) (.v (.mv (.t 0))))]) (.cond (.s 19) (.seq (.ops [(.op none .t (.v (.mv (.s 0)))),(.op none .t (.ld (some 5) (.s 3))),(.op none .t (.call 47 [(.t 0)])),(.op none .t (.v (.mv (.t 0)))),(.sel (.t 0) true [(.op (.v (.fa 4 (.s 3)))),(.op (.ld none (.t 0))),(.op (.v (.len (.t 0)))),(.op (.v (.bin .eql (.t 0) (.c (.int .i64 1)))))] .t (.t 0) (.c (.bool false))),(.op none (.s 20) (.call 29 [(.t 4),(.t 0)]))]) (.cond (.s 20) (.seq (.ops [(.op none .t (.v (.mv (.s 0)))),(.op none .t (.bs 9 1 [(.string ⟨⟨[]⟩⟩)] [(0,(1,(.c (.string ⟨⟨[110,111,116,32]⟩⟩))))])),(.op none .t (.call 32 [(.t 1),(.t 0)]))]) (.ops [(.op none .t (.v (.mv (.s 0)))),(.op none .t (.v (.fa 4 (.s 3)))),(.op none .t (.ld none (.t 0))),(.op none .t (.v (.ix 5 (.t 0) (.c (.int .i64 0))))),(.op none .t (.ld (some 5) (.t 0))),(.op none .t (.call 23 [(.t 4),(.t 0),(.c (.int .i64 3))]))])) .skip)) (.seq (.ops [(.op none .t (.v (.fa 0 (.s 3)))),(.op none .t (.ld none (.t 0))),(.op none .t (.v (.bin .eql (.t 0) (.c (.int .i64 42))))),(.op none (.s 21) (.v (.mv (.t 0))))]) (.cond (.s 21) (.seq (.ops [(.op none .t (.v (.mv (.s 0)))),(.op none .t (.v (.fa 4 (.s 3)))),(.op none .t (.ld none (.t 0))),(.op none .t (.v (.len (.t 0)))),(.op none .t (.v (.bin .eql (.t 0) (.c (.int .i64 1))))),(.op none (.s 22) (.call 29 [(.t 4),(.t 0)]))]) (.cond (.s 22) (.seq (.ops [(.op none .t (.v (.mv (.s 0)))),(.op none .t (.v (.fa 4 (.s 3)))),(.op none .t (.ld none (.t 0))),(.op none .t (.v (.ix 5 (.t 0) (.c (.int .i64 0))))),(.op none .t (.ld (some 5) (.t 0))),(.op none .t (.call 23 [(.t 4),(.t 0),(.c (.int .i64 7))]))]) (.seq (.ops [(.op none .t (.v (.mv (.s 0)))),(.op none .t (.bs 9 1 [(.string ⟨⟨[]⟩⟩)] [(0,(1,(.c (.string ⟨⟨[46]⟩⟩))))])),(.op none .t (.call 32 [(.t 1),(.t 0)]))]) (.ops [(.op none .t (.v (.mv (.s 0)))),(.op none .t (.ld (some 5) (.s 3))),(.op none .t (.call 48 [(.t 1),(.t 0)]))]))) .skip)) (.seq (.ops [(.op none .t (.v (.fa 0 (.s 3)))),(.op none .t (.ld none (.t 0))),(.op none .t (.v (.bin .eql (.t 0) (.c (.int .i64 43))))),(.op none (.s 23) (.v (.mv (.t 0))))]) (.cond (.s 23) (.seq (.ops [(.op none .t (.v (.mv (.s 0)))),(.op none .t (.ld (some 5) (.s 3))),(.op none .t (.call 47 [(.t 0)])),(.op none .t (.v (.mv (.t 0)))),(.sel (.t 0) true [(.op (.v (.fa 4 (.s 3)))),(.op (.ld none (.t 0))),(.op (.v (.len (.t 0)))),(.op (.v (.bin .eql (.t 0) (.c (.int .i64 2)))))] .t (.t 0) (.c (.bool false))),(.op none (.s 24) (.call 29 [(.t 4),(.t 0)]))]) (.cond (.s 24) (.seq (.ops [(.op none .t (.v (.mv (.s 0)))),(.op none .t (.v (.fa 4 (.s 3)))),(.op none .t (.ld none (.t 0))),(.op none .t (.v (.ix 5 (.t 0) (.c (.int .i64 0))))),(.op none .t (.ld (some 5) (.t 0))),(.op none .t (.call 23 [(.t 4),(.t 0),(.c (.int .i64 7))]))]) (.seq (.ops [(.op none .t (.v (.mv (.s 0)))),(.op none .t (.bs 9 1 [(.string ⟨⟨[]⟩⟩)] [(0,(1,(.c (.string ⟨⟨[91]⟩⟩))))])),(.op none .t (.call 32 [(.t 1),(.t 0)]))]) (.seq (.ops [(.op none .t (.v (.mv (.s 0)))),(.op none .t (.v (.fa 4 (.s 3)))),(.op none .t (.ld none (.t 0))),(.op none .t (.v (.ix 5 (.t 0) (.c (.int .i64 1))))),(.op none .t (.ld (some 5) (.t 0))),(.op none .t (.call 23 [(.t 4),(.t 0),(.c (.int .i64 0))]))]) (.ops [(.op none .t (.v (.mv (.s 0)))),(.op none .t (.bs 9 1 [(.string ⟨⟨[]⟩⟩)] [(0,(1,(.c (.string ⟨⟨[93]⟩⟩))))])),(.op none .t (.call 32 [(.t 1),(.t 0)]))])))) .skip)) (.ops [(.op none .t (.v (.mv (.s 0)))),(.op none .t (.ld (some 5) (.s 3))),(.op none .t (.call 49 [(.t 1),(.t 0)]))])))))))))))))
def c23:Gx.CFn:=⟨171,[0,1,2,4,6,8,9,10,11,15,19,20,32,44,63,76,77,78,79,94,107,117,126,139,152],c23a,c23p,(.s 9),c23m,c23l,32,[19,20],c23b⟩
theorem c23ok:stripCDef Tryz.prog [0,1,2,4,6,8,9,10,11,15,19,20,32,44,63,76,77,78,79,94,107,117,126,139,152] Tryz.f23=some c23:=by kernel_rfl
end Go.Proofs.YtmhdkbmnpekpoaaGreatDoor
end
section
namespace Go.Proofs.YtmhdkbmnpekpoaaGreatDoor
open Gx Go
@[go_sem] def c3k:List Nat:=[0,1,2,3,4,5,6,7,8,9,10,12,15,22,26,50,54,60,64,70,101]
@[go_sem] def c3r0:List GOp:=[oS 1 (.bx 24 S0),mS 2 (.c (.bool false))]
@[go_sem] def c3r1:List GOp:=[oT (.call 9 []),oS 11 (.v (.un .not T0))]
@[go_sem] def c3r2:List GOp:=[mS 2 (.c (.bool false))]
def c3s3:SCode:=(.cond S11 (.seq (.ops c3r2) .ret) .skip)
@[go_sem] def c3r4:List GOp:=[oT (.ld (some 5) S1),oT (.call 10 [T0,(C 120)]),oS 12 (.v (.un .not T0))]
@[go_sem] def c3r5:List GOp:=[mS 2 (.c (.bool true))]
def c3s6:SCode:=(.cond S12 (.seq (.ops c3r5) .ret) .skip)
@[go_sem] def c3r7:List GOp:=[oT (.ld (some 5) S1),oT (.call 11 [T0]),mT T0,oT (.v (.ext T0 0)),oT (.v (.ext T1 1)),mS 3 T1,mS 4 T0]
@[go_sem] def c3r8:List GOp:=[mT S4,oS 13 (.v (.bin .neq T0 (C 0)))]
@[go_sem] def c3r9:List GOp:=[mS 2 (.c (.bool true))]
def c3s10:SCode:=(.cond S13 (.seq (.ops c3r9) .ret) .skip)
@[go_sem] def c3r11:List GOp:=[mS 5 (C 0)]
@[go_sem] def c3r12:List GOp:=[mT S5,mT S3,oT (.v (.slen T0)),oS 14 (.v (.bin .lss T2 T0))]
def c3s13:SCode:=(.cond S14 .skip (.exit 0))
@[go_sem] def c3r14:List GOp:=[mT S3,mT S5,oT (.v (.six T1 T0)),oT (.v (.bin .neq T0 (.c (.int .u8 40)))),mT T0,(.op (some (T0,(false,true))) .t (.v (.mv S5))),(.op (some (T1,(false,false))) .t (.v (.bin .gtr T0 (C 0)))),(.op (some (T2,(false,false))) .t (.v (.mv T0))),(.op (some (T0,(true,true))) .t (.v (.mv S3))),(.op (some (T1,(true,false))) .t (.v (.mv S5))),(.op (some (T2,(true,false))) .t (.v (.bin .sub T0 (C 1)))),(.op (some (T3,(true,false))) .t (.v (.six T2 T0))),(.op (some (T4,(true,false))) .t (.v (.bin .geq T0 (.c (.int .u8 97))))),(.op (some (T8,(false,true))) .t (.v (.pick T5 T0 (.c (.bool false))))),(.op (some (T9,(false,false))) .t (.v (.mv T0))),(.op (some (T0,(true,true))) .t (.v (.mv S3))),(.op (some (T1,(true,false))) .t (.v (.mv S5))),(.op (some (T2,(true,false))) .t (.v (.bin .sub T0 (C 1)))),(.op (some (T3,(true,false))) .t (.v (.six T2 T0))),(.op (some (T4,(true,false))) .t (.v (.bin .leq T0 (.c (.int .u8 122))))),(.op (some (T15,(false,true))) .t (.v (.pick T5 T0 (.c (.bool false))))),oS 15 (.v (.pick T16 (.c (.bool true)) T0))]
def c3s15:SCode:=(.cond S15 (.exit 1) .skip)
@[go_sem] def c3r16:List GOp:=[mT S5,oT (.v (.bin .add T0 (C 1))),mS 6 T0]
@[go_sem] def c3r17:List GOp:=[mS 7 (C 1)]
@[go_sem] def c3r18:List GOp:=[mT S7,oS 16 (.v (.bin .gtr T0 (C 0)))]
def c3s19:SCode:=(.cond S16 .skip (.exit 2))
@[go_sem] def c3r20:List GOp:=[mT S6,mT S3,oT (.v (.slen T0)),oS 17 (.v (.bin .geq T2 T0))]
@[go_sem] def c3r21:List GOp:=[mS 2 (.c (.bool false))]
def c3s22:SCode:=(.seq (.ops c3r21) .ret)
@[go_sem] def c3r23:List GOp:=[mT S3,mT S6,oT (.v (.six T1 T0)),oS 18 (.v (.bin .eql T0 (.c (.int .u8 40))))]
@[go_sem] def c3r24:List GOp:=[mT S7,oT (.v (.bin .add T0 (C 1))),mS 7 T0]
def c3s25:SCode:=(.cond S18 (.ops c3r24) .skip)
@[go_sem] def c3r26:List GOp:=[mT S3,mT S6,oT (.v (.six T1 T0)),oS 19 (.v (.bin .eql T0 (.c (.int .u8 41))))]
@[go_sem] def c3r27:List GOp:=[mT S7,oT (.v (.bin .sub T0 (C 1))),mS 7 T0]
def c3s28:SCode:=(.cond S19 (.ops c3r27) .skip)
def c3s29:SCode:=(.seq (.ops c3r26) c3s28)
def c3s30:SCode:=(.seq (.seq (.ops c3r23) c3s25) c3s29)
@[go_sem] def c3r31:List GOp:=[mT S6,oT (.v (.bin .add T0 (C 1))),mS 6 T0]
def c3s32:SCode:=(.ops c3r31)
def c3s33:SCode:=(.seq (.block 3 (.seq (.seq (.ops c3r20) (.cond S17 c3s22 .skip)) c3s30)) c3s32)
def c3s34:SCode:=(.seq (.seq (.ops c3r18) c3s19) c3s33)
def c3s35:SCode:=(.block 2 (.loop c3k c3s34))
@[go_sem] def c3r36:List GOp:=[mT S3,mT S5,oT (.v (.ssl T1 none (some T0))),oT (.v (.bin .add T0 (.c (.string ⟨⟨[32]⟩⟩)))),mT S3,mT S5,oT (.v (.bin .add T0 (C 1))),mT S6,oT (.v (.bin .sub T0 (C 1))),oT (.v (.ssl T4 (some T2) (some T0))),oT (.v (.bin .add T6 T0)),oT (.v (.bin .add T0 (.c (.string ⟨⟨[32]⟩⟩)))),mT S3,mT S6,oT (.v (.ssl T1 (some T0) none)),oT (.v (.bin .add T3 T0)),mS 8 T0]
@[go_sem] def c3r37:List GOp:=[mT S8,oT (.call 12 [T0]),mT T0,oT (.v (.ext T0 0)),oT (.v (.ext T1 1)),oS 9 (.al 24 [(I 0),(.string ⟨⟨[]⟩⟩),(I 0),(I 0),Z]),oS 10 (.al 31 [(I 0),(I 0)]),oN (.st 5 S9 T1),oN (.st 2 S10 T0)]
@[go_sem] def c3r38:List GOp:=[fT 0 S10,lT T0,oT (.v (.bin .eql T0 (C 0))),mT T0,(.op (some (T0,(true,true))) .t (.ld (some 5) S9)),(.op (some (T1,(true,false))) .t (.ld (some 5) S1)),(.op (some (T2,(true,false))) .t (.call 13 [T1,T0])),oS 20 (.v (.pick T3 T0 (.c (.bool false))))]
@[go_sem] def c3r39:List GOp:=[mS 2 (.c (.bool false))]
def c3s40:SCode:=(.seq (.ops c3r39) .ret)
def c3s41:SCode:=(.seq (.ops c3r38) (.cond S20 c3s40 .skip))
def c3s42:SCode:=(.seq (.ops c3r37) c3s41)
def c3s43:SCode:=(.seq (.dq c3r36) c3s42)
def c3s44:SCode:=(.seq (.seq (.ops c3r17) c3s35) c3s43)
def c3s45:SCode:=(.seq (.ops c3r16) c3s44)
@[go_sem] def c3r46:List GOp:=[mT S5,oT (.v (.bin .add T0 (C 1))),mS 5 T0]
def c3s47:SCode:=(.ops c3r46)
def c3s48:SCode:=(.seq (.block 1 (.seq (.seq (.ops c3r14) c3s15) c3s45)) c3s47)
def c3s49:SCode:=(.seq (.seq (.ops c3r12) c3s13) c3s48)
def c3s50:SCode:=(.block 0 (.loop c3k c3s49))
@[go_sem] def c3r51:List GOp:=[mS 2 (.c (.bool true))]
def c3s52:SCode:=(.seq (.ops c3r51) .ret)
def c3s53:SCode:=(.seq (.seq (.ops c3r11) c3s50) c3s52)
def c3s54:SCode:=(.seq (.seq (.ops c3r8) c3s10) c3s53)
def c3s55:SCode:=(.seq (.ops c3r7) c3s54)
def c3s56:SCode:=(.seq (.seq (.ops c3r4) c3s6) c3s55)
def c3s57:SCode:=(.seq (.seq (.ops c3r1) c3s3) c3s56)
def c3:Gx.Fn:=⟨102,c3k,(.seq (.ops c3r0) c3s57),[(.tmp S2)]⟩
@[go_sem] def c4k:List Nat:=[0,1,2,3,4,5,6,7,8,9,10,11,12,13,14,16,19,26,40,47,61,68,82]
@[go_sem] def c4r0:List GOp:=[oS 1 (.bx 24 S0),mS 2 (.c (.bool false))]
@[go_sem] def c4r1:List GOp:=[oT (.call 9 []),oS 15 (.v (.un .not T0))]
@[go_sem] def c4r2:List GOp:=[mS 2 (.c (.bool false))]
def c4s3:SCode:=(.cond S15 (.seq (.ops c4r2) .ret) .skip)
@[go_sem] def c4r4:List GOp:=[oT (.ld (some 5) S1),oT (.call 10 [T0,(C 300)]),oS 16 (.v (.un .not T0))]
@[go_sem] def c4r5:List GOp:=[mS 2 (.c (.bool true))]
def c4s6:SCode:=(.cond S16 (.seq (.ops c4r5) .ret) .skip)
@[go_sem] def c4r7:List GOp:=[oT (.ld (some 5) S1),oT (.call 14 [T0]),mT T0,oT (.v (.ext T0 0)),oT (.v (.ext T1 1)),mS 3 T1,mS 4 T0]
@[go_sem] def c4r8:List GOp:=[mT S4,oS 17 (.v (.bin .eql T0 (C 0)))]
@[go_sem] def c4r9:List GOp:=[mT S3,oT (.call 15 [T0]),mT T0,oT (.v (.ext T0 0)),oT (.v (.ext T1 1)),oS 5 (.al 24 [(I 0),(.string ⟨⟨[]⟩⟩),(I 0),(I 0),Z]),oS 6 (.al 31 [(I 0),(I 0)]),oN (.st 5 S5 T1),oN (.st 2 S6 T0)]
@[go_sem] def c4r10:List GOp:=[fT 0 S6,lT T0,oT (.v (.bin .neq T0 (C 0))),mT T0,(.op (some (T0,(false,true))) .t (.ld (some 5) S5)),(.op (some (T1,(false,false))) .t (.ld (some 5) S1)),(.op (some (T2,(false,false))) .t (.call 13 [T1,T0])),(.op (some (T3,(false,false))) .t (.v (.un .not T0))),oS 18 (.v (.pick T4 (.c (.bool true)) T0))]
@[go_sem] def c4r11:List GOp:=[mS 2 (.c (.bool false))]
def c4s12:SCode:=(.seq (.ops c4r11) .ret)
def c4s13:SCode:=(.seq (.ops c4r10) (.cond S18 c4s12 .skip))
def c4s14:SCode:=(.seq (.ops c4r9) c4s13)
def c4s15:SCode:=(.seq (.ops c4r8) (.cond S17 c4s14 .skip))
@[go_sem] def c4r16:List GOp:=[oT (.ld (some 5) S1),oT (.call 11 [T0]),mT T0,oT (.v (.ext T0 0)),oT (.v (.ext T1 1)),mS 7 T1,mS 8 T0]
@[go_sem] def c4r17:List GOp:=[mT S8,oS 19 (.v (.bin .eql T0 (C 0)))]
@[go_sem] def c4r18:List GOp:=[mT S7,oT (.call 12 [T0]),mT T0,oT (.v (.ext T0 0)),oT (.v (.ext T1 1)),oS 9 (.al 24 [(I 0),(.string ⟨⟨[]⟩⟩),(I 0),(I 0),Z]),oS 10 (.al 31 [(I 0),(I 0)]),oN (.st 5 S9 T1),oN (.st 2 S10 T0)]
@[go_sem] def c4r19:List GOp:=[fT 0 S10,lT T0,oT (.v (.bin .neq T0 (C 0))),mT T0,(.op (some (T0,(false,true))) .t (.ld (some 5) S9)),(.op (some (T1,(false,false))) .t (.ld (some 5) S1)),(.op (some (T2,(false,false))) .t (.call 13 [T1,T0])),(.op (some (T3,(false,false))) .t (.v (.un .not T0))),oS 20 (.v (.pick T4 (.c (.bool true)) T0))]
@[go_sem] def c4r20:List GOp:=[mS 2 (.c (.bool false))]
def c4s21:SCode:=(.seq (.ops c4r20) .ret)
def c4s22:SCode:=(.seq (.ops c4r19) (.cond S20 c4s21 .skip))
def c4s23:SCode:=(.seq (.ops c4r18) c4s22)
def c4s24:SCode:=(.seq (.ops c4r17) (.cond S19 c4s23 .skip))
@[go_sem] def c4r25:List GOp:=[oT (.ld (some 5) S1),oT (.call 16 [T0]),mT T0,oT (.v (.ext T0 0)),oT (.v (.ext T1 1)),mS 11 T1,mS 12 T0]
@[go_sem] def c4r26:List GOp:=[mT S12,oS 21 (.v (.bin .eql T0 (C 0)))]
@[go_sem] def c4r27:List GOp:=[mT S11,oT (.call 17 [T0]),mT T0,oT (.v (.ext T0 0)),oT (.v (.ext T1 1)),oS 13 (.al 24 [(I 0),(.string ⟨⟨[]⟩⟩),(I 0),(I 0),Z]),oS 14 (.al 31 [(I 0),(I 0)]),oN (.st 5 S13 T1),oN (.st 2 S14 T0)]
@[go_sem] def c4r28:List GOp:=[fT 0 S14,lT T0,oT (.v (.bin .neq T0 (C 0))),mT T0,(.op (some (T0,(false,true))) .t (.ld (some 5) S13)),(.op (some (T1,(false,false))) .t (.ld (some 5) S1)),(.op (some (T2,(false,false))) .t (.call 13 [T1,T0])),(.op (some (T3,(false,false))) .t (.v (.un .not T0))),oS 22 (.v (.pick T4 (.c (.bool true)) T0))]
@[go_sem] def c4r29:List GOp:=[mS 2 (.c (.bool false))]
def c4s30:SCode:=(.seq (.ops c4r29) .ret)
def c4s31:SCode:=(.seq (.ops c4r28) (.cond S22 c4s30 .skip))
def c4s32:SCode:=(.seq (.ops c4r27) c4s31)
def c4s33:SCode:=(.seq (.ops c4r26) (.cond S21 c4s32 .skip))
@[go_sem] def c4r34:List GOp:=[mS 2 (.c (.bool true))]
def c4s35:SCode:=(.seq (.ops c4r34) .ret)
def c4s36:SCode:=(.seq (.seq (.ops c4r25) c4s33) c4s35)
def c4s37:SCode:=(.seq (.seq (.ops c4r16) c4s24) c4s36)
def c4s38:SCode:=(.seq (.seq (.ops c4r7) c4s15) c4s37)
def c4s39:SCode:=(.seq (.seq (.ops c4r4) c4s6) c4s38)
def c4s40:SCode:=(.seq (.seq (.ops c4r1) c4s3) c4s39)
def c4:Gx.Fn:=⟨83,c4k,(.seq (.ops c4r0) c4s40),[(.tmp S2)]⟩
@[go_sem] def c5k:List Nat:=[0,1,2,3,4,5,6,7,8,9,10,11,13,21,45]
@[go_sem] def c5r0:List GOp:=[oS 2 (.bx 24 S0),oS 3 (.bx 24 S1),mS 4 (.c (.bool false))]
@[go_sem] def c5r1:List GOp:=[oT (.call 9 []),oS 12 (.v (.un .not T0))]
@[go_sem] def c5r2:List GOp:=[mS 4 (.c (.bool false))]
abbrev c5s3:SCode:=(.cond S12 (.seq (.ops c5r2) .ret) .skip)
@[go_sem] def c5r4:List GOp:=[oT (.ld (some 5) S2),oT (.call 10 [T0,(C 200)]),oT (.v (.un .not T0)),mT T0,(.op (some (T0,(false,true))) .t (.ld (some 5) S3)),(.op (some (T1,(false,false))) .t (.call 10 [T0,(C 200)])),(.op (some (T2,(false,false))) .t (.v (.un .not T0))),oS 13 (.v (.pick T3 (.c (.bool true)) T0))]
@[go_sem] def c5r5:List GOp:=[mS 4 (.c (.bool true))]
abbrev c5s6:SCode:=(.cond S13 (.seq (.ops c5r5) .ret) .skip)
@[go_sem] def c5r7:List GOp:=[oT (.ld (some 5) S2),oT (.call 14 [T0]),mT T0,oT (.v (.ext T0 0)),oT (.v (.ext T1 1)),mS 5 T1,mS 6 T0]
@[go_sem] def c5r8:List GOp:=[oT (.ld (some 5) S3),oT (.call 14 [T0]),mT T0,oT (.v (.ext T0 0)),oT (.v (.ext T1 1)),mS 7 T1,mS 8 T0]
@[go_sem] def c5r9:List GOp:=[mT S6,oT (.v (.bin .neq T0 (C 0))),mT T0,(.sel T0 false [(.op (.v (.mv S8))),(.op (.v (.bin .neq T0 (C 0))))] .t (.c (.bool true)) T0),mT T0,(.sel T0 false [(.op (.v (.mv S5))),(.op (.v (.slen T0))),(.op (.v (.mv S7))),(.op (.v (.slen T0))),(.op (.v (.bin .add T2 T0))),(.op (.v (.bin .gtr T0 (C 65536))))] (.s 14) (.c (.bool true)) T0)]
@[go_sem] def c5r10:List GOp:=[mS 4 (.c (.bool true))]
abbrev c5s11:SCode:=(.seq (.ops c5r10) .ret)
@[go_sem] def c5d12:DT:=(rf 4 S2 [3,6,9] (rl T0 [3,6,9] (rf 4 S3 [6,9] (rl T0 [6,9] (.br (.ef 0 none .t (.bs 24 0 [] []) (.br (.ef 3 none .t (.ap 22 22 T0 T3) (.br (.ef 6 none .t (.ap 22 22 T0 T2) (.rd none .t (.v (.bld [(I 0),(.string ⟨⟨[]⟩⟩),(I 0),(I 0),Z] [(0,(1,(C 1))),(4,(1,T0))])) [9] (.ef 8 none (.s 9) (.al 24 [(I 0),(.string ⟨⟨[]⟩⟩),(I 0),(I 0),Z]) (.ef 9 none .no (.st 5 S9 T0) .done)))) (.ef 8 none (.s 9) (.al 24 [(I 0),(.string ⟨⟨[]⟩⟩),(I 0),(I 0),Z]) (.ef 6 none .t (.ap 22 22 T0 T2) (.rd none .t (.v (.bld [(I 0),(.string ⟨⟨[]⟩⟩),(I 0),(I 0),Z] [(0,(1,(C 1))),(4,(1,T0))])) [9] (.ef 9 none .no (.st 5 S9 T0) .done)))))) (.ef 8 none (.s 9) (.al 24 [(I 0),(.string ⟨⟨[]⟩⟩),(I 0),(I 0),Z]) (.ef 3 none .t (.ap 22 22 T0 T3) (.ef 6 none .t (.ap 22 22 T0 T2) (.rd none .t (.v (.bld [(I 0),(.string ⟨⟨[]⟩⟩),(I 0),(I 0),Z] [(0,(1,(C 1))),(4,(1,T0))])) [9] (.ef 9 none .no (.st 5 S9 T0) .done))))))) (.ef 8 none (.s 9) (.al 24 [(I 0),(.string ⟨⟨[]⟩⟩),(I 0),(I 0),Z]) (.ef 0 none .t (.bs 24 0 [] []) (.ef 3 none .t (.ap 22 22 T0 T3) (.ef 6 none .t (.ap 22 22 T0 T2) (.rd none .t (.v (.bld [(I 0),(.string ⟨⟨[]⟩⟩),(I 0),(I 0),Z] [(0,(1,(C 1))),(4,(1,T0))])) [9] (.ef 9 none .no (.st 5 S9 T0) .done)))))))))))
@[go_sem] def c5r13:List GOp:=[oT (.ld (some 5) S9),oT (.call 14 [T0]),mT T0,oT (.v (.ext T0 0)),oT (.v (.ext T1 1)),mS 10 T1,mS 11 T0]
@[go_sem] def c5r14:List GOp:=[mT S11,oT (.v (.bin .eql T0 (C 0))),mT T0,(.sel T0 true [(.op (.v (.mv S10))),(.op (.v (.mv S5))),(.op (.v (.mv S7))),(.op (.v (.bin .add T1 T0))),(.op (.v (.bin .eql T3 T0)))] .t T0 (.c (.bool false))),mS 4 T0]
abbrev c5s15:SCode:=(.seq (.ops c5r14) .ret)
abbrev c5s16:SCode:=(.seq (.ops c5r13) c5s15)
abbrev c5s17:SCode:=(.seq (.de c5d12) c5s16)
abbrev c5s18:SCode:=(.seq (.seq (.ops c5r9) (.cond S14 c5s11 .skip)) c5s17)
abbrev c5s19:SCode:=(.seq (.ops c5r8) c5s18)
abbrev c5s20:SCode:=(.seq (.ops c5r7) c5s19)
abbrev c5s21:SCode:=(.seq (.seq (.ops c5r4) c5s6) c5s20)
abbrev c5s22:SCode:=(.seq (.seq (.ops c5r1) c5s3) c5s21)
def c5:Gx.Fn:=⟨68,c5k,(.seq (.ops c5r0) c5s22),[(.tmp S4)]⟩
theorem c5ok:stripFn Tryz.prog c5k Tryz.f5=some c5:=by kernel_rfl
@[go_sem] def c9k:List Nat:=[0,1,2,3,4,6]
@[go_sem] def c9r0:List GOp:=[mS 0 (.c (.bool false))]
@[go_sem] def c9r1:List GOp:=[oT (.call 15 [(.c (.string ⟨⟨[111,98,106,101,99,116,32,97,58,115,101,116,40,39,120,39,44,39,121,39,41,59]⟩⟩))]),mT T0,oT (.v (.ext T0 0)),oT (.v (.ext T1 1)),oS 1 (.al 24 [(I 0),(.string ⟨⟨[]⟩⟩),(I 0),(I 0),Z]),oS 2 (.al 31 [(I 0),(I 0)]),oN (.st 5 S1 T1),oN (.st 2 S2 T0)]
@[go_sem] def c9r2:List GOp:=[oT (.ld (some 5) S1),oT (.call 14 [T0]),mT T0,oT (.v (.ext T0 0)),oT (.v (.ext T1 1)),mS 3 T1,mS 4 T0]
@[go_sem] def c9r3:List GOp:=[oT (.v (.bld [(I 0),(.string ⟨⟨[]⟩⟩),(I 0),(I 0),Z] [(0,(1,(C 45)))])),oT (.call 14 [T0]),mT T0,oT (.v (.ext T0 0)),oT (.v (.ext T1 1)),mT T1,mS 5 T1]
@[go_sem] def c9r4:List GOp:=[fT 0 S2,lT T0,oT (.v (.bin .eql T0 (C 0))),mT T0,(.sel T0 true [(.op (.v (.mv S4))),(.op (.v (.bin .eql T0 (C 0))))] .t T0 (.c (.bool false))),mT T0,(.sel T0 true [(.op (.v (.mv S3))),(.op (.v (.bin .eql T0 (.c (.string ⟨⟨[111,98,106,101,99,116,32,97,58,32,115,101,116,40,39,120,39,44,32,39,121,39,41,59,10]⟩⟩)))))] .t T0 (.c (.bool false))),mT T0,(.sel T0 true [(.op (.v (.mv S5))),(.op (.v (.bin .eql T0 (C 1))))] .t T0 (.c (.bool false))),mT T0,(.op (some (T0,(true,true))) .t (.call 21 [(.c (.string ⟨⟨[40,40,97,41,43,40,98,32,45,32,99,41,41]⟩⟩))])),(.op (some (T1,(true,false))) .t (.v (.bin .eql T0 (.c (.string ⟨⟨[97,32,43,32,40,98,32,45,32,99,41]⟩⟩))))),oT (.v (.pick T2 T0 (.c (.bool false)))),mT T0,(.op (some (T0,(true,true))) .t (.call 21 [(.c (.string ⟨⟨[40,97,32,45,32,98,41,45,99]⟩⟩))])),(.op (some (T1,(true,false))) .t (.v (.bin .eql T0 (.c (.string ⟨⟨[97,32,45,32,98,32,45,32,99]⟩⟩))))),oT (.v (.pick T2 T0 (.c (.bool false)))),mT T0,(.op (some (T0,(true,true))) .t (.call 21 [(.c (.string ⟨⟨[110,111,116,32,40,97,32,111,114,32,98,41]⟩⟩))])),(.op (some (T1,(true,false))) .t (.v (.bin .eql T0 (.c (.string ⟨⟨[110,111,116,32,40,97,32,111,114,32,98,41]⟩⟩))))),oT (.v (.pick T2 T0 (.c (.bool false)))),mT T0,(.op (some (T0,(true,true))) .t (.call 21 [(.c (.string ⟨⟨[40,105,102,32,97,32,116,104,101,110,32,98,32,101,108,115,101,32,99,41,32,43,32,45,32,49]⟩⟩))])),(.op (some (T1,(true,false))) .t (.v (.bin .eql T0 (.c (.string ⟨⟨[40,105,102,32,97,32,116,104,101,110,32,98,32,101,108,115,101,32,99,41,32,43,32,45,49]⟩⟩))))),oT (.v (.pick T2 T0 (.c (.bool false)))),mS 0 T0]
abbrev c9s5:SCode:=(.seq (.ops c9r3) (.seq (.ops c9r4) .ret))
abbrev c9s6:SCode:=(.seq (.ops c9r1) (.seq (.ops c9r2) c9s5))
def c9:Gx.Fn:=⟨52,c9k,(.seq (.ops c9r0) c9s6),[(.tmp S0)]⟩
theorem c9ok:stripFn Tryz.prog c9k Tryz.f9=some c9:=by kernel_rfl
@[go_sem] def c10k:List Nat:=[0,1,2,4]
@[go_sem] def c10r0:List GOp:=[oS 2 (.bx 24 S0),mS 3 (.c (.bool false))]
@[go_sem] def c10r1:List GOp:=[oT (.ld (some 5) S2),mT S1,oT (.call 22 [T1,T0]),oT (.v (.bin .geq T0 (C 0))),mS 3 T0]
abbrev c10s2:SCode:=(.seq (.ops c10r1) .ret)
def c10:Gx.Fn:=⟨9,c10k,(.seq (.ops c10r0) c10s2),[(.tmp S3)]⟩
theorem c10ok:stripFn Tryz.prog c10k Tryz.f10=some c10:=by kernel_rfl
@[go_sem] def c12k:List Nat:=[0,2,3]
@[go_sem] def c12r0:List GOp:=[oS 1 (.al 24 [(I 0),(.string ⟨⟨[]⟩⟩),(I 0),(I 0),Z]),oS 2 (.al 31 [(I 0),(I 0)])]
@[go_sem] def c12r1:List GOp:=[mT S0,oT (.call 26 [T0,(.f 27)]),oT (.v (.ext T0 0)),oT (.v (.ext T1 1)),oN (.st 5 S1 T1),oN (.st 2 S2 T0)]
abbrev c12s2:SCode:=(.seq (.ops c12r1) .ret)
def c12:Gx.Fn:=⟨8,c12k,(.seq (.ops c12r0) c12s2),[(.cell S1 (some 5)),(.cell S2 (some 2))]⟩
theorem c12ok:stripFn Tryz.prog c12k Tryz.f12=some c12:=by kernel_rfl
@[go_sem] def c15k:List Nat:=[0,2,3]
@[go_sem] def c15r0:List GOp:=[oS 1 (.al 24 [(I 0),(.string ⟨⟨[]⟩⟩),(I 0),(I 0),Z]),oS 2 (.al 31 [(I 0),(I 0)])]
@[go_sem] def c15r1:List GOp:=[mT S0,oT (.call 26 [T0,(.f 34)]),oT (.v (.ext T0 0)),oT (.v (.ext T1 1)),oN (.st 5 S1 T1),oN (.st 2 S2 T0)]
abbrev c15s2:SCode:=(.seq (.ops c15r1) .ret)
def c15:Gx.Fn:=⟨8,c15k,(.seq (.ops c15r0) c15s2),[(.cell S1 (some 5)),(.cell S2 (some 2))]⟩
theorem c15ok:stripFn Tryz.prog c15k Tryz.f15=some c15:=by kernel_rfl
@[go_sem] def c21k:List Nat:=[0,2,3,4,5,6,14,21]
@[go_sem] def c21r0:List GOp:=[mS 1 (.c (.string ⟨⟨[]⟩⟩))]
@[go_sem] def c21r1:List GOp:=[mT S0,oT (.call 12 [T0]),mT T0,oT (.v (.ext T0 0)),oT (.v (.ext T1 1)),oS 2 (.al 24 [(I 0),(.string ⟨⟨[]⟩⟩),(I 0),(I 0),Z]),oS 3 (.al 31 [(I 0),(I 0)]),oN (.st 5 S2 T1),oN (.st 2 S3 T0)]
@[go_sem] def c21r2:List GOp:=[fT 0 S3,lT T0,oS 6 (.v (.bin .neq T0 (C 0)))]
@[go_sem] def c21r3:List GOp:=[mS 1 (.c (.string ⟨⟨[]⟩⟩))]
abbrev c21s4:SCode:=(.seq (.ops c21r3) .ret)
@[go_sem] def c21r5:List GOp:=[oT (.ld (some 5) S2),oT (.call 11 [T0]),mT T0,oT (.v (.ext T0 0)),oT (.v (.ext T1 1)),mS 4 T1,mS 5 T0]
@[go_sem] def c21r6:List GOp:=[mT S5,oS 7 (.v (.bin .neq T0 (C 0)))]
@[go_sem] def c21r7:List GOp:=[mS 1 (.c (.string ⟨⟨[]⟩⟩))]
abbrev c21s8:SCode:=(.seq (.ops c21r7) .ret)
@[go_sem] def c21r9:List GOp:=[mT S4,mS 1 T0]
abbrev c21s10:SCode:=(.seq (.ops c21r9) .ret)
abbrev c21s11:SCode:=(.seq (.seq (.ops c21r6) (.cond S7 c21s8 .skip)) c21s10)
abbrev c21s12:SCode:=(.seq (.ops c21r5) c21s11)
abbrev c21s13:SCode:=(.seq (.seq (.ops c21r2) (.cond S6 c21s4 .skip)) c21s12)
abbrev c21s14:SCode:=(.seq (.ops c21r1) c21s13)
def c21:Gx.Fn:=⟨23,c21k,(.seq (.ops c21r0) c21s14),[(.tmp S1)]⟩
theorem c21ok:stripFn Tryz.prog c21k Tryz.f21=some c21:=by kernel_rfl
@[go_sem] def c22k:List Nat:=[0,1,2,4,5,16]
@[go_sem] def c22r0:List GOp:=[oS 2 (.bx 24 S0),mS 3 (C 0)]
@[go_sem] def c22r1:List GOp:=[mT S1,oT (.v (.bin .sub T0 (C 1))),mS 1 T0]
@[go_sem] def c22r2:List GOp:=[mS 4 (C 0)]
@[go_sem] def c22r3:List GOp:=[mT S4,fT 4 S2,lT T0,nT T0,oT (.v (.bin .lss T3 T0)),mT T0,(.sel T0 true [(.op (.v (.mv S1))),(.op (.v (.bin .geq T0 (C 0))))] (.s 5) T0 (.c (.bool false)))]
abbrev c22s4:SCode:=(.cond S5 .skip (.exit 0))
@[go_sem] def c22r5:List GOp:=[fT 4 S2,lT T0,mT S4,oT (.v (.ix 5 T1 T0)),oT (.ld (some 5) T0),mT S1,oT (.call 22 [T1,T0]),mS 1 T0]
@[go_sem] def c22r6:List GOp:=[mT S4,oT (.v (.bin .add T0 (C 1))),mS 4 T0]
abbrev c22s7:SCode:=(.ops c22r6)
abbrev c22s8:SCode:=(.seq (.block 1 (.ops c22r5)) c22s7)
abbrev c22s9:SCode:=(.seq (.seq (.ops c22r3) c22s4) c22s8)
abbrev c22s10:SCode:=(.block 0 (.loop c22k c22s9))
@[go_sem] def c22r11:List GOp:=[mT S1,mS 3 T0]
abbrev c22s12:SCode:=(.seq (.ops c22r11) .ret)
abbrev c22s13:SCode:=(.seq (.seq (.ops c22r2) c22s10) c22s12)
abbrev c22s14:SCode:=(.seq (.ops c22r1) c22s13)
def c22:Gx.Fn:=⟨27,c22k,(.seq (.ops c22r0) c22s14),[(.tmp S3)]⟩
theorem c22ok:stripFn Tryz.prog c22k Tryz.f22=some c22:=by kernel_rfl
end Go.Proofs.YtmhdkbmnpekpoaaGreatDoor
end
