import Derived.Test.YtmhdkbmnpekpoaaGreatDoorB1
import Derived.Deep.AppendSrc
import Derived.Test.YtmhdkbmnpekpoaaGreatDoorProg
import Derived.Carry
import Derived.OpenShut
import Derived.Handed
import Derived.Shelf.Strings.Builder1
import Derived.Shelf.Strconv.Itoa0
import Derived.Shelf.Strconv.Itoa1
import Derived.Shelf.LaysM
import Derived.Shelf.Strconv.Itoa2
import Derived.Shelf.Strconv.Itoa3
import Derived.Shelf.Strconv.Itoa4
import Derived.Shelf.Strconv.ParseIntEmpty
import Derived.Shelf.Strconv.Clone
import Derived.Shelf.Strconv.SyntaxError
import Derived.Shelf.LaysC
import Derived.Shelf.Strconv.ToError
import Derived.Shelf.Strconv.Lower
import Derived.Shelf.Strconv.ParseUint10
import Derived.Shelf.Strconv.ParseUint10Empty
import Derived.Shelf.Strconv.ParseUint10Any
import Derived.Shelf.Strconv.ParseInt10
import Derived.Shelf.Strconv.RangeError
import Derived.Shelf.Strconv.ToErrorRange
import Derived.Shelf.Strconv.ParseUintEmpty
import Derived.Shelf.Strconv.ParseUint10b64
import Derived.Shelf.Strconv.ParseUint10b32
import Derived.Shelf.Strconv.ParseUint10b16
import Derived.Shelf.Strconv.ParseUint10b8
import Derived.Shelf.Strconv.ParseUint10At
import Derived.Shelf.Strconv.ParseInt10At64
import Derived.Shelf.Strconv.ParseInt10At32
import Derived.Shelf.Strconv.ParseInt10At16
import Derived.Shelf.Strconv.ParseInt10At8
import Derived.Shelf.Strconv.ParseInt10All
import Derived.Shelf.Strconv.ParseIntPublic10
import Derived.Recover
open Bool renaming and_eq_true→ae5
open Go.Proofs.Tryz renaming prog→afI,underlying3→af0,underlying9→af1,underlying129→af2,underlying137→af3,underlying41→af5,underlying2→af7,underlying141→af9,underlying138→aga,underlying128→agb,underlying132→agc,underlying139→agd,underlying154→age,underlying155→agf,underlying20→agi,zeroValue141→agj,zeroValue138→agk,zeroValue129→agl,zeroValue128→agm,zeroValue132→agn,zeroValue137→ago,zeroValue154→agp,zeroValue155→agq,underlying0→ags,underlying4→agt,underlying5→agu,zeroValue20→agv,zeroValue41→agw,zeroValue0→agy,zeroValue2→agz,zeroValue3→agA,zeroValue4→agB,zeroValue5→agC,zeroValue9→agD,sizeOf141→agE,sizeOf138→agF,sizeOf129→agG,sizeOf128→agH,sizeOf132→agI,sizeOf137→agJ,sizeOf139→agK,sizeOf154→agL,sizeOf155→agM,sizeOf20→agN,sizeOf41→agO,isAgg141→agP,isAgg138→agQ,isAgg129→agR,isAgg128→agS,isAgg132→agT,isAgg137→agU,isAgg139→agV,isAgg154→agW,isAgg155→agX,func139→agY,func117→agZ,func131→ag0,func132→ag1,func133→ag2,func134→ag3,func138→ag4,func140→ag5,func141→ag6,func142→ag7,func149→ag8,func150→ag9,sizeOf0→aha,sizeOf2→ahb,sizeOf3→ahc,sizeOf4→ahd,sizeOf5→ahe,sizeOf9→ahf,isAgg20→ahg,isAgg41→ahh
open Nat renaming le_refl→afJ,lt_or_ge→ae8,lt_of_lt_of_le→afS,zero_add→afT,add_mul→afU,add_assoc→afY,mul_le_mul_right→afZ,add_comm→af6
open List renaming length_cons→afK,eq_nil_of_length_eq_zero→afL,drop_eq_getElem_cons→afM,flatMap_cons→afN,drop_eq_nil_of_le→afO,length_take→afP,drop_succ_cons→afQ,mem_of_getElem?→afR,cons→afV,flatten_cons→afW,take_left→afX,map_congr_left→af8,map_map→agh,drop_append→agr,map_toArray→agx
open Option renaming some→ae9
open Prod renaming mk→aff
open Array renaming toList_inj→afh,getD_eq_getD_getElem?→afm
open Go.Region renaming wanted→afj
open Go.Lib renaming parseIntB→af4
set_option linter.unusedSimpArgs false
set_option linter.unusedVariables false
set_option maxRecDepth 8000
namespace Gx
open Go
def vcK (P:Program) (E:cd→Heap→Prop) (b:cI) (Q:lF):bf→Heap→Prop:=fun σ H=>vc P E b σ H Q
def DM (P:Program) (E:cd→Heap→Prop) (d:nj) (r:List pL) (σ:bf) (τ:List Value) (K:bf→Heap→Prop):Value→Heap→Prop:=
 fun v H'=>ei P E r (eh d v σ) (eN d v τ) H' K
def Iw (P:Program) (E:cd→Heap→Prop) (t:cE) (b fr:Bool) (d:nj) (s:da cE) (r:List pL) (σ:bf) (τ:List Value) (H:Heap) (K:bf→Heap→Prop):Option (Option Bool)→Prop
 | some (some c)=>(c=b→s.vc P E (fO (gS fr t (.bool b) σ) (gT fr t (.bool b) τ)) H (DM P E d r (gS fr t (.bool b) σ) (gT fr t (.bool b) τ) K))∧
  (c=(!b)→ei P E r (eh d undef (gS fr t (.bool (!b)) σ)) (eN d undef (gT fr t (.bool (!b)) τ)) H K)
 | some none=>ei P E r (eh d undef σ) (eN d undef τ) H K
 | none=>False
def R8 (P:Program) (E:cd→Heap→Prop) (next:DT) (d:nj) (s:da cE) (D:List Nat) (aQ:eG) (σ:bf) (τ:List Value) (H:Heap) (K:bf→Heap→Prop):Option (Prop × Value)→Prop
 | some (p,v)=>p∧kF P E next (s.held (fO σ τ) D v aQ) (eh d v σ) (eN d v τ) H K
 | none=>False
def W9 (P:Program) (E:cd→Heap→Prop) (next:DT) (d:nj) (aQ:eG) (σ:bf) (τ:List Value) (K:bf→Heap→Prop):Value→Heap→Prop:=
 fun v H'=>kX H' aQ∧kF P E next aQ (eh d v σ) (eN d v τ) H' K
def yu (P:Program) (E:cd→Heap→Prop) (t:cE) (b:Bool) (next:DT) (d:nj) (s:da cE) (D:List Nat) (aQ:eG) (σ:bf) (τ:List Value) (H:Heap) (K:bf→Heap→Prop):Option (Option Bool)→Prop
 | some (some c)=>(c=b→R8 P E next d s D aQ (gw t (.bool b) σ) (gx t (.bool b) τ) H K (s.rd (fO (gw t (.bool b) σ) (gx t (.bool b) τ)) H))∧
  (c=(!b)→kF P E next aQ (eh d undef (gw t (.bool (!b)) σ)) (eN d undef (gx t (.bool (!b)) τ)) H K)
 | some none=>kF P E next aQ (eh d undef σ) (eN d undef τ) H K
 | none=>False
def yv (P:Program) (E:cd→Heap→Prop) (t:cE) (b:Bool) (next:DT) (d:nj) (s:da cE) (aQ:eG) (σ:bf) (τ:List Value) (H:Heap) (K:bf→Heap→Prop):Option (Option Bool)→Prop
 | some (some c)=>(c=b→s.vc P E (fO (gw t (.bool b) σ) (gx t (.bool b) τ)) H (W9 P E next d aQ (gw t (.bool b) σ) (gx t (.bool b) τ) K))∧
  (c=(!b)→kF P E next aQ (eh d undef (gw t (.bool (!b)) σ)) (eN d undef (gx t (.bool (!b)) τ)) H K)
 | some none=>kF P E next aQ (eh d undef σ) (eN d undef τ) H K
 | none=>False
section
variable {P:Program} {E:cd→Heap→Prop} {σ:bf} {τ:List Value} {H:Heap} {Q:lF} {K:bf→Heap→Prop}
@[go_sem] theorem aet (t:DT):vc P E (.de t) σ H Q=kF P E t [] σ [] H (yq Q):=rfl
@[go_sem] theorem Xa (aQ:eG):kF P E .done aQ σ τ H K=K σ H:=rfl
@[go_sem] theorem ab8 (d:nj) (s:da cE) (D:List Nat) (next:DT) (aQ:eG):kF P E (.rd none d s D next) aQ σ τ H K=R8 P E next d s D aQ σ τ H K (s.rd (fO σ τ) H):=by
  simp only[kF,R8,rdK]; cases s.rd (fO σ τ) H <;> rfl
@[go_sem] theorem abI (t:cE) (b:Bool) (d:nj) (s:da cE) (D:List Nat) (next:DT) (aQ:eG):kF P E (.rd (some (t,b)) d s D next) aQ σ τ H K=yu P E t b next d s D aQ σ τ H K (guardOf (fO σ τ t)):=by
  simp only[kF,yu,R8,rdK]
  cases guardOf (fO σ τ t) with
  | none=>rfl
  | some x=>
    cases x with
    | none=>rfl
    | some c=>
      simp only
      congr 1
      cases s.rd (fO (gw t (.bool b) σ) (gx t (.bool b) τ)) H <;> rfl
@[go_sem] theorem ab9 (i:Nat) (d:nj) (s:da cE) (next:DT) (aQ:eG):kF P E (.ef i none d s next) aQ σ τ H K=s.vc P E (fO σ τ) H (W9 P E next d (bP i aQ) σ τ K):=rfl
@[go_sem] theorem abJ (i:Nat) (t:cE) (b:Bool) (d:nj) (s:da cE) (next:DT) (aQ:eG):kF P E (.ef i (some (t,b)) d s next) aQ σ τ H K=yv P E t b next d s (bP i aQ) σ τ H K (guardOf (fO σ τ t)):=by
  simp only[kF,yv]
  cases guardOf (fO σ τ t) with
  | none=>rfl
  | some x=>cases x <;> rfl
@[go_sem] theorem aca (a b:DT) (aQ:eG):kF P E (.br a b) aQ σ τ H K=(kF P E a aQ σ τ H K∧kF P E b aQ σ τ H K):=rfl
@[go_sem] theorem Xb (next:DT) (d:nj) (s:da cE) (D:List Nat) (aQ:eG) (p:Prop) (v:Value):R8 P E next d s D aQ σ τ H K (some (p,v))=(p∧kF P E next (s.held (fO σ τ) D v aQ) (eh d v σ) (eN d v τ) H K):=rfl
@[go_sem] theorem abK (next:DT) (d:nj) (aQ:eG) (v:Value) (H':Heap):W9 P E next d aQ σ τ K v H'=(kX H' aQ∧kF P E next aQ (eh d v σ) (eN d v τ) H' K):=rfl
@[go_sem 2000] theorem MV (t:cE) (next:DT) (d:nj) (s:da cE) (D:List Nat) (aQ:eG):yu P E t true next d s D aQ σ τ H K (some (some true))=R8 P E next d s D aQ (gw t (.bool true) σ) (gx t (.bool true) τ) H K (s.rd (fO (gw t (.bool true) σ) (gx t (.bool true) τ)) H):=by simp[yu]
@[go_sem 2000] theorem Jh (t:cE) (next:DT) (d:nj) (s:da cE) (D:List Nat) (aQ:eG):yu P E t true next d s D aQ σ τ H K (some (some false))=kF P E next aQ (eh d undef (gw t (.bool false) σ)) (eN d undef (gx t (.bool false) τ)) H K:=by simp[yu]
@[go_sem 2000] theorem MW (t:cE) (next:DT) (d:nj) (s:da cE) (aQ:eG):yv P E t true next d s aQ σ τ H K (some (some true))=s.vc P E (fO (gw t (.bool true) σ) (gx t (.bool true) τ)) H (W9 P E next d aQ (gw t (.bool true) σ) (gx t (.bool true) τ) K):=by simp[yv]
@[go_sem 2000] theorem Ji (t:cE) (next:DT) (d:nj) (s:da cE) (aQ:eG):yv P E t true next d s aQ σ τ H K (some (some false))=kF P E next aQ (eh d undef (gw t (.bool false) σ)) (eN d undef (gx t (.bool false) τ)) H K:=by simp[yv]
@[go_sem 2000] theorem Jj (t:cE) (next:DT) (d:nj) (s:da cE) (D:List Nat) (aQ:eG):yu P E t false next d s D aQ σ τ H K (some (some false))=R8 P E next d s D aQ (gw t (.bool false) σ) (gx t (.bool false) τ) H K (s.rd (fO (gw t (.bool false) σ) (gx t (.bool false) τ)) H):=by simp[yu]
@[go_sem 2000] theorem Ix (t:cE) (next:DT) (d:nj) (s:da cE) (D:List Nat) (aQ:eG):yu P E t false next d s D aQ σ τ H K (some (some true))=kF P E next aQ (eh d undef (gw t (.bool true) σ)) (eN d undef (gx t (.bool true) τ)) H K:=by simp[yu]
@[go_sem 2000] theorem Jk (t:cE) (next:DT) (d:nj) (s:da cE) (aQ:eG):yv P E t false next d s aQ σ τ H K (some (some false))=s.vc P E (fO (gw t (.bool false) σ) (gx t (.bool false) τ)) H (W9 P E next d aQ (gw t (.bool false) σ) (gx t (.bool false) τ) K):=by simp[yv]
@[go_sem 2000] theorem Iy (t:cE) (next:DT) (d:nj) (s:da cE) (aQ:eG):yv P E t false next d s aQ σ τ H K (some (some true))=kF P E next aQ (eh d undef (gw t (.bool true) σ)) (eN d undef (gx t (.bool true) τ)) H K:=by simp[yv]
@[go_sem] theorem R9:kX H []=True:=rfl
@[go_sem] theorem P8 (D:List Nat) (h:v7) (r:eG):kX H ((D,h) :: r)=(h.ok H∧kX H r):=rfl
@[go_sem] theorem NP (i:Nat):bP i []=[]:=rfl
@[go_sem] theorem MX (i:Nat) (D:List Nat) (h:v7) (r:eG):bP i ((D,h) :: r)=if D.elem i then bP i r else (D,h) :: bP i r:=rfl
@[go_sem] theorem Sa (sz:Option Nat) (a:Addr) (v:Value):(v7.ld sz a v).ok H=(IZ H sz a=some v):=rfl
@[go_sem] theorem P9 (x v:Value):(v7.Bb x v).ok H=(pJ H (some x)=some v):=rfl
attribute [go_sem] da.held
@[go_sem] theorem abL:vc P E .skip σ H Q=Q .yg σ H:=rfl
@[go_sem] theorem acb (l:List pL):vc P E (.ops l) σ H Q=ei P E l σ [] H (yq Q):=rfl
@[go_sem] theorem aeu (l:List pL):vc P E (.dq l) σ H Q=ei P E l σ [] H (yq Q):=rfl
@[go_sem] theorem acd (a b:cI):vc P E (.seq a b) σ H Q=vc P E a σ H (u4 (vcK P E b Q) Q):=rfl
@[go_sem] theorem abM (c:cE) (a b:cI):vc P E (.cond c a b) σ H Q=pY (vc P E a σ H Q) (vc P E b σ H Q) (fO σ [] c):=rfl
@[go_sem] theorem Xc (id:Nat) (c:cI):vc P E (.block id c) σ H Q=vc P E c σ H (tu id Q):=rfl
@[go_sem] theorem abN (i:Nat):vc P E (.exit i) σ H Q=Q (.ext i) σ H:=rfl
@[go_sem] theorem ace:vc P E .ret σ H Q=Q .ret σ H:=rfl
@[go_sem] theorem abO (b:cI):vcK P E b Q σ H=vc P E b σ H Q:=rfl
@[go_sem] theorem Xd:yq Q σ H=Q .yg σ H:=rfl
@[go_sem] theorem Xe (F:bf→Heap→Prop):u4 F Q .yg σ H=F σ H:=rfl
@[go_sem] theorem Xf (F:bf→Heap→Prop) (i:Nat):u4 F Q (.ext i) σ H=Q (.ext i) σ H:=rfl
@[go_sem] theorem Xg (F:bf→Heap→Prop):u4 F Q .ret σ H=Q .ret σ H:=rfl
@[go_sem] theorem Sb (i:Nat):tu i Q .yg σ H=Q .yg σ H:=rfl
@[go_sem] theorem Qa (i:Nat):tu i Q (.ext i) σ H=Q .yg σ H:=if_pos rfl
@[go_sem] theorem Sc (i:Nat):tu i Q .ret σ H=Q .ret σ H:=rfl
@[go_sem 2000] theorem Sd (A B:Prop):pY A B (some (.bool true))=A:=by simp[pY]
@[go_sem 2000] theorem Qb (A B:Prop):pY A B (some (.bool false))=B:=by simp[pY]
@[go_sem] theorem Se (A B:Prop) (t:Bool):pY A B (some (.bool t))=((t=true→A)∧(t=false→B)):=rfl
@[go_sem] theorem VP:ei P E [] σ τ H K=K σ H:=rfl
@[go_sem] theorem Xh (d:nj) (s:da cE) (r:List pL):ei P E (.op none d s :: r) σ τ H K=s.vc P E (fO σ τ) H (DM P E d r σ τ K):=rfl
@[go_sem] theorem Xi (t:cE) (b fr:Bool) (d:nj) (s:da cE) (r:List pL):ei P E (.op (some (t,b,fr)) d s :: r) σ τ H K=Iw P E t b fr d s r σ τ H K (guardOf (fO σ τ t)):=by
  simp only[ei,Iw]
  cases guardOf (fO σ τ t) with
  | none=>rfl
  | some x=>cases x <;> rfl
@[go_sem] theorem VQ (t:cE) (b:Bool) (inner:List In) (d:nj) (x y:cE) (r:List pL) :
 ei P E (.eO t b inner d x y :: r) σ τ H K=vN H (DM P E d r σ τ K) (DC σ τ t b x y (fS H σ inner τ)):=rfl
@[go_sem] theorem Xj (d:nj) (r:List pL) (v:Value) (H':Heap):DM P E d r σ τ K v H'=ei P E r (eh d v σ) (eN d v τ) H' K:=rfl
@[go_sem] theorem abP (v:Value):eh .no v σ=σ:=rfl
@[go_sem] theorem acf (v:Value):eh .t v σ=σ:=rfl
@[go_sem] theorem acg (k:Nat) (v:Value):eh (.s k) v σ=σ.set k (some v):=rfl
@[go_sem] theorem abQ (v:Value):eN .no v τ=τ:=rfl
@[go_sem] theorem ach (v:Value):eN .t v τ=v :: τ:=rfl
@[go_sem] theorem aci (k:Nat) (v:Value):eN (.s k) v τ=τ:=rfl
@[go_sem] theorem acj (k:Nat) (v:Value):gw (.t k) v σ=σ:=rfl
@[go_sem] theorem ack (k:Nat) (v:Value):gx (.t k) v τ=τ.set k v:=rfl
@[go_sem] theorem abR (x:cE) (v:Value):gS true x v σ=gw x v σ:=rfl
@[go_sem] theorem Xk (x:cE) (v:Value):gS false x v σ=σ:=rfl
@[go_sem] theorem abS (x:cE) (v:Value):gT true x v τ=gx x v τ:=rfl
@[go_sem] theorem Xl (x:cE) (v:Value):gT false x v τ=τ:=rfl
@[go_sem] theorem Xm (t:cE) (b fr:Bool) (d:nj) (s:da cE) (r:List pL) (c:Bool):Iw P E t b fr d s r σ τ H K (some (some c)) =
 ((c=b→s.vc P E (fO (gS fr t (.bool b) σ) (gT fr t (.bool b) τ)) H (DM P E d r (gS fr t (.bool b) σ) (gT fr t (.bool b) τ) K))∧(c=(!b)→ei P E r (eh d undef (gS fr t (.bool (!b)) σ)) (eN d undef (gT fr t (.bool (!b)) τ)) H K)):=rfl
@[go_sem 2000] theorem NQ (t:cE) (fr:Bool) (d:nj) (s:da cE) (r:List pL):Iw P E t true fr d s r σ τ H K (some (some true))=s.vc P E (fO (gS fr t (.bool true) σ) (gT fr t (.bool true) τ)) H (DM P E d r (gS fr t (.bool true) σ) (gT fr t (.bool true) τ) K):=by simp[Iw]
@[go_sem 2000] theorem MY (t:cE) (fr:Bool) (d:nj) (s:da cE) (r:List pL):Iw P E t true fr d s r σ τ H K (some (some false))=ei P E r (eh d undef (gS fr t (.bool false) σ)) (eN d undef (gT fr t (.bool false) τ)) H K:=by simp[Iw]
@[go_sem 2000] theorem MZ (t:cE) (fr:Bool) (d:nj) (s:da cE) (r:List pL):Iw P E t false fr d s r σ τ H K (some (some false))=s.vc P E (fO (gS fr t (.bool false) σ) (gT fr t (.bool false) τ)) H (DM P E d r (gS fr t (.bool false) σ) (gT fr t (.bool false) τ) K):=by simp[Iw]
@[go_sem 2000] theorem Jl (t:cE) (fr:Bool) (d:nj) (s:da cE) (r:List pL):Iw P E t false fr d s r σ τ H K (some (some true))=ei P E r (eh d undef (gS fr t (.bool true) σ)) (eN d undef (gT fr t (.bool true) τ)) H K:=by simp[Iw]
@[go_sem] theorem VR (t:cE) (b fr:Bool) (d:nj) (s:da cE) (r:List pL):Iw P E t b fr d s r σ τ H K (some none)=ei P E r (eh d undef σ) (eN d undef τ) H K:=rfl
@[go_sem] theorem VS (c:Bool):guardOf (some (.bool c))=some (some c):=rfl
attribute [go_sem] undef
@[go_sem] theorem Jm:guardOf (some (.tuple #[]))=some none:=rfl
section
variable {R:Value→Heap→Prop} {O:Type} {ev:O→Option Value}
@[go_sem] theorem aev (e:PE O):da.vc P E ev H R (.v e)=vN H R (e.val ev):=rfl
@[go_sem] theorem acm (sz:Option Nat) (x:O):da.vc P E ev H R (.ld sz x)=NB H R (I0 H sz (ev x)):=rfl
@[go_sem] theorem acn (n:Nat) (a x:O):da.vc P E ev H R (.st n a x)=stN H n R (ev a) (ev x):=rfl
@[go_sem] theorem aco (t:Nat) (z:List Value):da.vc P E ev H R (.al t z)=GS H t z R:=rfl
@[go_sem] theorem acp (t:Nat) (x:O):da.vc P E ev H R (.bx t x)=bxN H t R (ev x):=rfl
@[go_sem] theorem acq (t n:Nat) (z:List Value) (ps:List (Nat × Nat × O)):da.vc P E ev H R (.bs t n z ps)=WR H t n z R (fR ev ps):=rfl
@[go_sem] theorem acr (t tx:Nat) (s x:O):da.vc P E ev H R (.ap t tx s x)=apN P t tx H R (ev s) (ev x):=rfl
@[go_sem] theorem Xn (f:Nat) (args:List O):da.vc P E ev H R (.call f args)=Fs P E f H R (ye ev args):=rfl
@[go_sem] theorem acs (f:O) (args:List O):da.vc P E ev H R (.cv f args)=cvN P E H R (ev f) (ye ev args):=rfl
@[go_sem] theorem abT (x:O):da.vc P E ev H R (.Bb x)=NB H R (pJ H (ev x)):=rfl
@[go_sem] theorem abU (x:O):da.vc P E ev H R (.VM x)=NC E H (ev x):=rfl
@[go_sem] theorem VT (t:Nat) (v:Value):NC E H (some (.iface t v))=E [{ v:=.iface t v,recovered:=false }] H:=rfl
@[go_sem] theorem acu:da.vc P E ev H R .mm=ND H R:=rfl
@[go_sem] theorem abV (m k x:O):da.vc P E ev H R (.ins m k x)=NF H R (ev m) (ev k) (ev x):=rfl
@[go_sem] theorem VU (r:Nat) (s:ByteArray) (v:Value):NF H R (some (.map (some r))) (some (.string s)) (some v)=RU H r s v (R undef):=rfl
@[go_sem] theorem abW (z:Value) (m k:O):da.vc P E ev H R (.RT z m k)=NG H z R (ev m) (ev k):=rfl
@[go_sem] theorem VV (z:Value) (r:Nat) (s:ByteArray):NG H z R (some (.map (some r))) (some (.string s))=RW H z r s (fun v=>R v H):=rfl
@[go_sem] theorem abX (kd:IntKind) (m k x:O):da.vc P E ev H R (.Bc kd m k x)=I1 H kd R (ev m) (ev k) (ev x):=rfl
@[go_sem] theorem VW (kd:IntKind) (r:Nat) (s:Int) (v:Value):I1 H kd R (some (.map (some r))) (some (.int kd s)) (some v)=RX H r kd s v (R undef):=by simp[I1]
@[go_sem] theorem abY (kd:IntKind) (z:Value) (m k:O):da.vc P E ev H R (.Ny kd z m k)=I2 H kd z R (ev m) (ev k):=rfl
@[go_sem] theorem VX (kd:IntKind) (z:Value) (r:Nat) (s:Int):I2 H kd z R (some (.map (some r))) (some (.int kd s))=RY H z r kd s (fun v=>R v H):=by simp[I2]
@[go_sem] theorem abZ (p:Prop) (v:Value):vN H R (some (p,v))=(p∧R v H):=rfl
@[go_sem] theorem Xo (v:Value):NB H R (some v)=R v H:=rfl
@[go_sem] theorem Xp (n:Nat) (a:Addr) (v:Value):stN H n R (some (.pointer (some a))) (some v)=(v.cells.size=n∧Nz H a v.cells.toList 0 (R undef)):=rfl
@[go_sem] theorem Xq (t:Nat) (v:Value):bxN H t R (some v)=GS H t v.cells.toList R:=rfl
def Sf (H:Heap) (t n:Nat) (R:Value→Heap→Prop):Option (List Value)→Prop
 | some cs=>GU H t n cs R
 | none=>False
@[go_sem] theorem VY (t n:Nat) (cs:List Value):Sf H t n R (some cs)=GU H t n cs R:=rfl
@[go_sem] theorem Xr (t n:Nat) (z:List Value) (ps:List (Nat × Nat × Value)):WR H t n z R (some ps)=Sf H t n R (lq z ps):=by
  simp only[WR,Sf]; cases lq z ps <;> rfl
@[go_sem] theorem Xs (t tx:Nat) (s x:Value):apN P t tx H R (some s) (some x)=App P t tx t H s x R:=rfl
@[go_sem] theorem Sg (f:Nat) (vs:List Value):Fs P E f H R (some vs)=bU P f vs.toArray H R E:=rfl
@[go_sem] theorem Xt (f:Nat) (first cap:Array Value) (vs:List Value):cvN P E H R (some (.func (.func f) first cap)) (some vs)=(dV P f=true∧bU P f (first ++ vs.toArray ++ cap) H R E):=rfl
@[go_sem] theorem Xu (sz:Option Nat) (a:Addr):I0 H sz (some (.pointer (some a)))=IZ H sz a:=rfl
@[go_sem] theorem ab0 (a:Addr):IZ H none a=cellAt H a:=rfl
end
def Xv:Option (List Value)→Option Value
 | some vs=>some (.agg vs.toArray)
 | none=>none
@[go_sem] theorem VZ (vs:List Value):Xv (some vs)=some (.agg vs.toArray):=rfl
@[go_sem] theorem ab1 (n:Nat) (a:Addr):IZ H (some n) a=Xv (dm H a 0 n):=by
  simp only[IZ]; cases dm H a 0 n <;> rfl
def BG:Option Value→Option (List Value)→Option (List Value)
 | some v,some vs=>some (v :: vs)
 | _,_=>none
@[go_sem] theorem Sh (v:Value) (vs:List Value):BG (some v) (some vs)=some (v :: vs):=rfl
@[go_sem] theorem Jn (a:Addr) (i:Nat):dm H a i 0=some []:=rfl
@[go_sem] theorem Jo (a:Addr) (i n:Nat):dm H a i (n + 1)=BG (cellAt H (a.add i)) (dm H a (i + 1) n):=by
  simp only[dm,BG]; cases cellAt H (a.add i) <;> cases dm H a (i + 1) n <;> rfl
@[go_sem] theorem aew (k:Nat):fO σ τ (.t k)=τ.toArray[k]?:=rfl
@[go_sem] theorem aex (k:Nat):fO σ τ (.s k)=jn (σ.toArray[k]?):=rfl
@[go_sem] theorem aey (v:Value):fO σ τ (.c v)=some v:=rfl
@[go_sem] theorem aez (f:Nat):fO σ τ (.f f)=some (.func (.func f) #[] #[]):=rfl
@[go_sem] theorem ab2 (x:Option Value):jn (some x)=x:=rfl
@[go_sem] theorem ab3 {O:Type} (ev:O→Option Value):ye ev []=some []:=rfl
@[go_sem] theorem Xw {O:Type} (ev:O→Option Value) (x:O) (r:List O):ye ev (x :: r)=BG (ev x) (ye ev r):=by
  simp only[ye,BG]; cases ev x <;> cases ye ev r <;> rfl
def Jp (o s:Nat):Option Value→Option (List (Nat × Nat × Value))→Option (List (Nat × Nat × Value))
 | some v,some r=>some ((o,s,v) :: r)
 | _,_=>none
@[go_sem] theorem Si (o s:Nat) (v:Value) (r:List (Nat × Nat × Value)):Jp o s (some v) (some r)=some ((o,s,v) :: r):=rfl
@[go_sem] theorem V0 {O:Type} (ev:O→Option Value):fR ev []=some []:=rfl
@[go_sem] theorem Sj {O:Type} (ev:O→Option Value) (o s:Nat) (x:O) (r:List (Nat × Nat × O)):fR ev ((o,s,x) :: r)=Jp o s (ev x) (fR ev r):=by
  simp only[fR,Jp]; cases ev x <;> cases fR ev r <;> rfl
def Sk:Option Value→Option (Option Int)
 | some (.int _ n)=>some (some n)
 | _=>none
@[go_sem] theorem V1 (k:IntKind) (n:Int):Sk (some (.int k n))=some (some n):=rfl
@[go_sem] theorem V2 {O:Type} (ev:O→Option Value):aO ev none=some none:=rfl
@[go_sem] theorem V3 {O:Type} (ev:O→Option Value) (x:O):aO ev (some x)=Sk (ev x):=by
  simp only[aO,Sk]
  cases ev x with
  | none=>rfl
  | some v=>cases v <;> rfl
@[go_sem] theorem Xx (i t:Nat) (v:Value) (r:Env):Env.get ((i,v) :: r) t=if i=t then some v else Env.get r t:=rfl
@[go_sem] theorem get_nil (t:Nat):Env.get [] t=none:=rfl
@[go_sem] theorem ab4 (E:Env):Jd [] E=[]:=rfl
@[go_sem] theorem Xy (t:Nat) (r:List Nat) (E:Env):Jd (t :: r) E=Env.get E t :: Jd r E:=rfl
@[go_sem] theorem Sl (k t:Nat) (ks:List Nat) (s:Option Value) (ss:bf):nH (k :: ks) (s :: ss) t=if k=t then s else nH ks ss t:=rfl
@[go_sem] theorem Sm (keep:List Nat):kY keep σ []=True:=rfl
@[go_sem] theorem Qc (keep:List Nat) (t:Nat) (v:Value) (r:Env):kY keep σ ((t,v) :: r)=(nH keep σ t=some v∧kY keep σ r):=rfl
@[go_sem] theorem Xz (vs:List Value):pM [] vs=[]:=rfl
@[go_sem] theorem V4 (t:Nat) (r:List Nat) (vs:List Value):pM (t :: r) vs=Jf vs.toArray[t]? :: pM r vs:=rfl
@[go_sem] theorem V5 (v:Value):Jf (some v)=some v:=rfl
attribute [go_sem] PE.val IP vR RD RE IU Nt zK qd IQ Dy zL unN RF RG faN ixN RH RI RJ slN RK RL IV IW IX RM mmN ncN RN RO zM RP RQ Nu Ns Bm Nr unV RB Dx lq da.rd j4 RV.val tv u5
attribute [go_sem] List.elem_cons List.elem_nil
@[go_sem] theorem NS (p:Prop) (v:Value):qj (some (p,v)) τ=some (p,v :: τ):=rfl
def NT (p:Prop):Option (Prop × List Value)→Option (Prop × List Value)
 | some (q,e)=>some (p∧q,e)
 | none=>none
@[go_sem] theorem V6 (p q:Prop) (e:List Value):NT p (some (q,e))=some (p∧q,e):=rfl
@[go_sem] theorem Sn:fS H σ [] τ=some (True,τ):=by simp[fS]
def DN (H:Heap) (σ:bf) (r:List In):Option (Prop × List Value)→Option (Prop × List Value)
 | some (p,τ')=>NT p (fS H σ r τ')
 | none=>none
@[go_sem] theorem Qd (r:List In) (p:Prop) (τ':List Value):DN H σ r (some (p,τ'))=NT p (fS H σ r τ'):=rfl
@[go_sem] theorem Qe (i:In) (r:List In):fS H σ (i :: r) τ=DN H σ r (NJ H σ i τ):=by
  simp only[fS,zV,DN]
  cases NJ H σ i τ with
  | none=>rfl
  | some x=>
    obtain ⟨p,τ'⟩:=x
    simp only[NT]
    cases fS H σ r τ' with
    | none=>rfl
    | some y=>rfl
@[go_sem] theorem acv (s:da cE):NJ H σ (.op s) τ=qj (s.rd (fO σ τ) H) τ:=by simp only[NJ]
@[go_sem] theorem ab5 (t:cE) (b:Bool) (inner:List In) (x y:cE):NJ H σ (.NI t b inner x y) τ=qj (DC σ τ t b x y (fS H σ inner τ)) τ:=by simp only[NJ]
attribute [go_sem] DC RZ
attribute [go_sem] true_and and_true true_imp_iff false_imp_iff implies_true forall_const
end
theorem bC {P:Program} {Ec:cd→Heap→Prop} {α:Type} {keep:List Nat} {σ:bf} {H:Heap} {Q:lF} {c:cI} (I:α→Heap→Prop) (E:α→Env) (μ:α→Nat) (x₀:α) (h₀:I x₀ H) (hk:kY keep σ (E x₀))
 (round:∀ x H,I x H→vc P Ec c (Jd keep (E x)) H (u4 (Je keep I E μ x) Q)):vc P Ec (.loop keep c) σ H Q:=
 ⟨α,I,E,μ,x₀,h₀,hk,round⟩
theorem aj {α:Type} {keep:List Nat} {I:α→Heap→Prop} {E:α→Env} {μ:α→Nat} {x:α} {σ:bf} {H:Heap} (y:α) (h1:μ y < μ x) (h2:kY keep σ (E y)) (h3:I y H):Je keep I E μ x σ H:=⟨y,h1,h2,h3⟩
def ct (H:Heap) (b o:Nat):Option Value:=
 match H[b]? with
 | some (.cells c _ _)=>c[o]?
 | _=>none
@[go_sem] theorem fA (H:Heap) (b o:Nat):cellAt H ⟨b,o,none⟩=ct H b o:=by
  simp only[cellAt,ct]; cases H[b]? with
  | none=>rfl
  | some x=>cases x <;> rfl
@[go_sem] theorem kZ (b o n:Nat):Addr.add ⟨b,o,none⟩ n=⟨b,o + n,none⟩:=Addr.add_lit b o n
def eg (H:Heap) (b t:Nat) (l:List Value):Prop:=H[b]?=some (.cells l.toArray t (0,0))
theorem eg.cell {H:Heap} {b t:Nat} {l:List Value} (h:eg H b t l) (o:Nat):ct H b o=l[o]?:=by
 unfold eg at h; simp[ct,h]
theorem eg.lt {H:Heap} {b t:Nat} {l:List Value} (h:eg H b t l):b < H.size:=by
 rcases ae8 b H.size with h' | h'
 ·exact h'
 ·unfold eg at h; simp[Array.getElem?_eq_none h'] at h
structure Fr (M:List Nat) (H H':Heap):Prop where
 size:H.size≤H'.size
 same:∀ b,b < H.size→b ∉ M→H'[b]?=H[b]?
theorem Fr.refl (M:List Nat) (H:Heap):Fr M H H:=⟨afJ _,fun _ _ _=>rfl⟩
theorem Fr.trans {M:List Nat} {a b c:Heap} (h:Fr M a b) (k:Fr M b c):Fr M a c:=
 ⟨Nat.le_trans h.size k.size,fun i hi hm=>(k.same i (afS hi h.size) hm).trans (h.same i hi hm)⟩
theorem Fr.mono {M M':List Nat} {H H':Heap} (h:Fr M H H') (hm:∀ b,b ∈ M→b ∈ M'∨H.size≤b):Fr M' H H':=
 ⟨h.size,fun b hb hn=>h.same b hb fun hx=>by rcases hm b hx with h1 | h1; exact hn h1; omega⟩
theorem Fr.trans' {M M':List Nat} {a b c:Heap} (h:Fr M a b) (k:Fr M' b c) (hm:∀ x,x ∈ M'→x ∈ M∨a.size≤x):Fr M a c:=
 ⟨Nat.le_trans h.size k.size,fun i hi hn=>(k.same i (afS hi h.size) (fun hx=>by rcases hm i hx with h1 | h1; exact hn h1; omega)).trans (h.same i hi hn)⟩
theorem eg.fr {M:List Nat} {H H':Heap} {b t:Nat} {l:List Value} (h:eg H b t l) (hf:Fr M H H') (hb:b ∉ M):eg H' b t l:=by
 have ba:=h.lt
 unfold eg at *; rw[hf.same b ba hb]; exact h
theorem eg.ext {H H':Heap} {b t:Nat} {l:List Value} (h:eg H b t l) (hf:Fr [] H H'):eg H' b t l:=h.fr hf (by simp)
theorem j6 {H:Heap} {b o:Nat} {v:Value} (h:ct H b o=some v):b < H.size:=by
 rcases ae8 b H.size with h' | h'
 ·exact h'
 ·simp[ct,Array.getElem?_eq_none h'] at h
theorem ab {M:List Nat} {H H':Heap} {b o:Nat} {v:Value} (h:ct H b o=some v) (hf:Fr M H H') (hb:b ∉ M):ct H' b o=some v:=by
 have:=hf.same b (j6 h) hb
 unfold ct at *; rw[this]; exact h
theorem oH (M:List Nat) (H:Heap) (o:Obj):Fr M H (H.push o):=
 ⟨by simp,fun b hb _=>by rw[Array.getElem?_push]; simp[show b≠H.size by omega]⟩
theorem ay {H:Heap} {t:Nat} {cs:List Value} {R:Value→Heap→Prop} (h:∀ H',eg H' H.size t cs→Fr [] H H'→H'.size=H.size + 1→R (.pointer (some ⟨H.size,0,none⟩)) H'):GS H t cs R:=
 h _ (by simp[eg]) (oH _ _ _) (by simp)
theorem db {H:Heap} {t n:Nat} {cs:List Value} {R:Value→Heap→Prop} (h:∀ H',eg H' H.size t cs→Fr [] H H'→H'.size=H.size + 1→R (.slice (some ⟨H.size,0,none⟩) n n) H'):GU H t n cs R:=
 h _ (by simp[eg]) (oH _ _ _) (by simp)
theorem eg.set {H:Heap} {b t:Nat} {l:List Value} (h:eg H b t l) (o:Nat) (v:Value):eg (iY H ⟨b,o,none⟩ v) b t (l.set o v):=by
 have ba:=h.lt
 unfold eg at *
 have h':H[b]= .cells l.toArray t (0,0):=by simpa [Array.getElem?_eq_getElem ba] using h
 simp only[iY]
 rw[Array.getElem?_eq_getElem (by simpa using ba),Array.getElem_modify_self,h']
 simp
theorem DO (H:Heap) (b o:Nat) (v:Value):Fr [b] H (iY H ⟨b,o,none⟩ v):=
 ⟨by simp[iY],fun k _ hk=>by simp only[iY,Array.getElem?_modify]; rw[if_neg (by simp at hk; omega)]⟩
theorem size_set (H:Heap) (a:Addr) (v:Value):(iY H a v).size=H.size:=by simp[iY]
def DP (l:List Value) (o:Nat):List Value→List Value
 | []=>l
 | v :: vs=>DP (l.set o v) (o + 1) vs
theorem zZ:∀ (vs:List Value) (l:List Value) (o:Nat),o + vs.length≤l.length→DP l o vs=l.take o ++ vs ++ l.drop (o + vs.length)
 | [],l,o,_=>by simp[DP]
 | v :: vs,l,o,h=>by
   simp only[afK] at h
   rw[DP,zZ vs (l.set o v) (o + 1) (by simp; omega)]
   have e2:(l.set o v).take (o + 1)=l.take o ++ [v]:=by
    rw[List.take_add_one,List.take_set_of_le (afJ _)]; simp[show o < l.length by omega]
   have e3:(l.set o v).drop (o + 1 + vs.length)=l.drop (o + (vs.length + 1)):=by
    rw[List.drop_set_of_lt (by omega)]; congr 1; omega
   rw[e2,e3]; simp
theorem z1 {R:Heap→Prop} {b t:Nat}:∀ (vs:List Value) (H:Heap) (l:List Value) (o i:Nat),eg H b t l→o + i + vs.length≤l.length→(∀ v ∈ vs,v.oneCell'=true)→
 (∀ H',eg H' b t (DP l (o + i) vs)→Fr [b] H H'→H'.size=H.size→R H')→Nz H ⟨b,o,none⟩ vs i R
 | [],H,l,o,i,h,_,_,hR=>hR H h (Fr.refl _ _) rfl
 | v :: vs,H,l,o,i,h,hl,h1,hR=>by
   simp only[afK] at hl
   have ba:o + i < l.length:=by omega
   refine ⟨h1 v (by simp),⟨l[o + i],?_⟩,?_,?_⟩
   ·rw[kZ,fA,h.cell]; simp[ba]
   ·rw[kZ]; unfold eg at h; simp[frozenAt,h]
   ·rw[kZ]
    refine z1 vs _ (l.set (o + i) v) o (i + 1) (h.set (o + i) v) (by simp; omega) (fun v hv=>h1 v (by simp[hv])) fun H' hb hf hs=>?_
    exact hR H' hb ((DO H b (o + i) v).trans hf) (hs.trans (size_set _ _ _))
theorem bL {R:Heap→Prop} {b t o:Nat} {H:Heap} {l:List Value} {v:Value} (h:eg H b t l) (ho:o < l.length) (h1:v.oneCell'=true)
 (hR:∀ H',eg H' b t (l.set o v)→Fr [b] H H'→H'.size=H.size→R H'):Nz H ⟨b,o,none⟩ [v] 0 R:=
 z1 [v] H l o 0 h (by simp; omega) (by simpa using h1) fun H' hb hf hs=>hR H' (by simpa [DP] using hb) hf hs
def Own (H:Heap) (e size:Nat) (v:Value) (n:Nat) (xs:List Value) (g:Option Nat):Prop:=
 xs.length=n * size∧
 ((g=none∧v= .slice none 0 0∧n=0)∨
  ∃ b cap cur,g=some b∧v= .slice (some ⟨b,0,none⟩) n cap∧H[b]?=some (.cells cur e (0,0))∧n≤cap∧cap≤maxLen∧cur.size=cap * size∧cur.toList.take (n * size)=xs)
theorem Own.nil (H:Heap) (e size:Nat):Own H e size (.slice none 0 0) 0 [] none:=⟨by simp,.inl ⟨rfl,rfl,rfl⟩⟩
theorem Own.lt {H:Heap} {e size:Nat} {v:Value} {n:Nat} {xs:List Value} {g:Option Nat} (h:Own H e size v n xs g) {b:Nat} (hb:g=some b):b < H.size:=by
 rcases h.2 with ⟨h1,_⟩ | ⟨b',cap,cur,h1,_,h2,_⟩
 ·rw[h1] at hb; cases hb
 ·rw[h1] at hb; cases hb
  rcases ae8 b H.size with h' | h'
  ·exact h'
  ·simp[Array.getElem?_eq_none h'] at h2
theorem Own.fr {M:List Nat} {H H':Heap} {e size:Nat} {v:Value} {n:Nat} {xs:List Value} {g:Option Nat} (h:Own H e size v n xs g) (hf:Fr M H H') (hg:∀ b,g=some b→b ∉ M):Own H' e size v n xs g:=by
 refine ⟨h.1,?_⟩
 rcases h.2 with h1 | ⟨b,cap,cur,h1,h2,h3,r⟩
 ·exact .inl h1
 ·refine .inr ⟨b,cap,cur,h1,h2,?_,r⟩
  rw[hf.same b (h.lt h1) (hg b h1)]; exact h3
theorem Own.cell {H:Heap} {e size:Nat} {v:Value} {n:Nat} {xs:List Value} {b:Nat} (h:Own H e size v n xs (some b)) (j:Nat) (hj:j < n * size):ct H b j=xs[j]?:=by
 rcases h.2 with ⟨h1,_⟩ | ⟨b',cap,cur,h1,h2,h3,h4,h5,h6,h7⟩
 ·cases h1
 ·cases h1
  rw[← h7]
  have:j < cur.size:=by rw[h6]; exact afS hj (afZ _ h4)
  simp[ct,h3,hj]
theorem Own.mu {H:Heap} {b e size n:Nat} {l:List Value} (h:eg H b e l) (hl:l.length=n * size) (hn:n≤maxLen):Own H e size (.slice (some ⟨b,0,none⟩) n n) n l (some b):=
 ⟨hl,.inr ⟨b,n,l.toArray,rfl,rfl,h,afJ _,hn,by simp[hl],by simp[← hl]⟩⟩
structure qo (P:Program) (t e size bytes:Nat) (z:Value):Prop where
 und:P.underlying t=some (.slice e)
 info:(P.info? e).map (fun i=>(i.zero,i.size,i.bytes))=some (some z,size,bytes)
 zs:z.cells.size=size
 pos:0 < size
def tw (P:Program) (H:Heap) (size tx:Nat) (x:Value) (m:Nat) (news:List Value):Prop:=∀ w:World,w.heap=H→Src P size tx x m news w
theorem tw.cells {P:Program} {H:Heap} {size tx e:Nat} (hk:P.underlying tx=some (.slice e)) {ad:Addr} {m c:Nat} {news:List Value} (hl:news.length=m * size) (hn:∀ j u,news[j]?=some u→cellAt H (ad.add j)=some u) (h1:∀ u ∈ news,u.oneCell'=true) :
 tw P H size tx (.slice (some ad) m c) m news:=fun w hw=>Src.ofSlice w hk ad m c news hl (fun j u hj=>by subst hw; exact hn j u hj) h1
theorem tw.str {P:Program} {H:Heap} {tx:Nat} (hk:P.underlying tx=some .string) (l:List UInt8):tw P H 1 tx (.string ⟨⟨l⟩⟩) l.length (l.map fun b=>Value.int .u8 b.toNat):=fun w _=>by
 have:=Src.ofString w hk ⟨⟨l⟩⟩
 exact this
theorem tw.dz {P:Program} {H:Heap} {size tx e:Nat} (hk:P.underlying tx=some (.slice e)) {b t m c:Nat} {l:List Value} (h:eg H b t l) (hl:l.length=m * size) (h1:∀ u ∈ l,u.oneCell'=true) :
 tw P H size tx (.slice (some ⟨b,0,none⟩) m c) m l:=
 tw.cells hk hl (fun j u hj=>by rw[kZ,fA,afT,h.cell]; exact hj) h1
theorem Own.ne {H:Heap} {e size:Nat} {v:Value} {n:Nat} {xs:List Value} {g:Option Nat} {b t:Nat} {l:List Value} (h:Own H e size v n xs g) (hb:eg H b t l) (ht:e≠t):b ∉ g.toList:=by
 intro hm
 have hg:g=some b:=by simpa using hm
 rcases h.2 with ⟨h1,_⟩ | ⟨b',cap,cur,h1,_,h3,_⟩
 ·rw[h1] at hg; cases hg
 ·rw[h1] at hg; cases hg
  unfold eg at hb
  rw[h3] at hb
  simp at hb
  exact ht hb.2
theorem rp {b e:Nat}:∀ (vs:List Value) (o:Nat) (w:World) (l:List Value),eg w.heap b e l→eg (w.setCells b o vs).heap b e (DP l o vs)∧Fr [b] w.heap (w.setCells b o vs).heap∧Same w (w.setCells b o vs)
 | [],o,w,l,h=>⟨h,Fr.refl _ _,Same.refl _⟩
 | v :: vs,o,w,l,h=>by
   obtain ⟨h1,h2,h3⟩:=rp vs (o + 1) (w.setCell ⟨b,o,none⟩ v) (l.set o v) (h.set o v)
   exact ⟨h1,(DO _ _ _ _).trans h2,⟨h3.os,h3.tape,h3.output⟩⟩
theorem vq {P:Program} {t tx e size bytes:Nat} {z:Value} (hE:qo P t e size bytes z) {H:Heap} {v x:Value} {n:Nat} {xs:List Value} {g:Option Nat} (nk:Own H e size v n xs g)
 {m:Nat} {news:List Value} (So:tw P H size tx x m news) (Iz:n + m≤maxLen) (hb:(n + m) * bytes≤140737488355328) {R:Value→Heap→Prop}
 (hR:∀ a c H' g',Own H' e size (.slice a (n + m) c) (n + m) (xs ++ news) g'→Fr g.toList H H'→(∀ b,g'=some b→g=some b∨H.size≤b)→R (.slice a (n + m) c) H'):App P t tx t H v x R:=by
 intro w hw
 have hs:=So w hw
 subst hw
 have Qf:=hE.info
 simp only[Option.map_eq_some_iff,aff.injEq] at Qf
 obtain ⟨i,hi,hz,dO,hbt⟩:=Qf
 subst dO; subst hbt
 have hlen:(xs ++ news).length=(n + m) * i.size:=by rw[List.length_append,nk.1,hs.newsLen,afU]
 have acw:((n + m:Nat):Int)≤9223372036854775807:=by simp only[maxLen] at Iz; omega
 have grow:∀ (base:Option Addr) (cap:Nat),cap < n + m→v= .slice base n cap→(Builtin.firstCells i.size n (.slice base n cap)).run P w.drew= .ok xs.toArray w.drew→
  ∃ v' w',(Builtin.append_ #[t,tx] t #[v,x]).run P w= .ok v' w'∧R v' w'.heap∧Same w w':=by
  intro base cap hc hv hold
  subst hv
  have hr:=run_append_grow_src (P:=P) w t tx t e i z hE.und hi hz base n cap xs hold x m news hs hc acw (growslice_fits hc hb)
  refine ⟨_,_,hr,hR _ _ _ (some w.heap.size) ⟨hlen,.inr ⟨w.heap.size,_,_,rfl,rfl,heap_alloc_new w.drew _,grownCap_ge _ _ _ _,grownCap_le_maxLen _ _ _ _ Iz,?_,?_⟩⟩ ?_ ?_,⟨rfl,rfl,rfl⟩⟩
  ·have nf:=grownCap_ge w (n + m) cap e
   rw[Array.size_append,size_zeroCells,hE.zs]
   simp only[List.size_toArray,hlen,← afU]
   congr 1; omega
  ·simp only[Array.toList_append]
   rw[← hlen]; exact afX
  ·exact oH _ _ _
  ·intro b hb; simp at hb; exact .inr (by omega)
 rcases nk.2 with ⟨rfl,rfl,rfl⟩ | ⟨b,cap,cur,rfl,rfl,hg,hnc,z6,Iu,Qg⟩
 ·have hx:xs=[]:=afL (by simpa using nk.1)
  subst hx
  by_cases hm:m=0
  ·subst hm
   have hn:news=[]:=afL (by simpa using hs.newsLen)
   subst hn
   refine ⟨.slice none 0 0,w,?_,hR none 0 _ none (Own.nil _ _ _) (Fr.refl _ _) (by simp),Same.refl _⟩
   rcases hs.kind with ⟨e',hk⟩ | hk <;> simp[Builtin.append_,run_underlying hE.und,run_underlying hk,Go.sizeOf,typeInfo,hi,hs.len,hs.cells]
  ·exact grow none 0 (by omega) rfl (run_firstCells_none _ _ _ _ _)
 ·by_cases Jq:n + m≤cap
  ·have fp:n * i.size + news.length≤cur.size:=by rw[hs.newsLen,Iu,← afU]; exact afZ _ Jq
   have XA:eg w.heap b e cur.toList:=by simpa [eg] using hg
   have hr:=run_append_room_src (P:=P) w t tx t e i hE.und hi b 0 n cap x m news hs Jq
    (fun j hj=>by
     have:w.cell? ⟨b,0 + n * i.size + j,none⟩=ct w.heap b (0 + n * i.size + j):=(qU w _).trans (fA _ _ _)
     rw[this,XA.cell]; simp; omega)
    (fun j hj=>by
     show frozenAt w.heap _=false
     simp[frozenAt,hg])
   rw[afT] at hr
   obtain ⟨h1,h2,h3⟩:=rp news (n * i.size) w cur.toList XA
   rw[zZ _ _ _ (by simpa using fp)] at h1
   refine ⟨_,_,hr,hR _ _ _ (some b) ⟨hlen,.inr ⟨b,cap,_,rfl,rfl,h1,Jq,z6,?_,?_⟩⟩ h2 (fun b' hb=>by simp at hb; exact .inl (by rw[hb])),h3⟩
   ·simp; omega
   ·rw[Qg,← hlen]; exact afX
  ·refine grow (some ⟨b,0,none⟩) cap (by omega) rfl ?_
   refine run_firstCells_some w.drew i.size n ⟨b,0,none⟩ n cap xs nk.1 fun j u hj=>?_
   have ba:j < n * i.size:=by
    rw[← nk.1]
    rcases ae8 j xs.length with h | h
    ·exact h
    ·rw[List.getElem?_eq_none h] at hj; cases hj
   show cellAt w.heap _=_
   rw[kZ,fA,afT,nk.cell j ba,hj]
def bv (b:UInt8):Value:=.int .u8 b.toNat
theorem aV (x:Int) (h:-9223372036854775808≤x) (h':x < 9223372036854775808):IntKind.i64.wrap x=x:=by
 rw[IntKind.wrap_i64]; omega
def BsR (H:Heap) (a:Option Addr) (l:List UInt8):Prop:=
 l=[]∨∃ b o,a=some ⟨b,o,none⟩∧∀ j (h:j < l.length),ct H b (o + j)=some (bv l[j])
theorem BsR.Bb {H:Heap} {a:Option Addr} {l:List UInt8} (c:Nat) (h:BsR H a l):pJ H (some (.slice a l.length c))=some (.string ⟨⟨l⟩⟩):=by
 have key:∀ (k:List UInt8) (b o i:Nat),(∀ j (h:j < k.length),ct H b (o + i + j)=some (bv k[j]))→iL H ⟨b,o,none⟩ i k.length=some k:=by
  intro k
  induction k with
  | nil=>intro b o i _; rfl
  | cons x k ih=>
    intro b o i hc
    simp only[afK,iL,kZ,fA]
    have h0:=hc 0 (by simp)
    simp only[Nat.add_zero,List.getElem_cons_zero] at h0
    rw[h0,ih b o (i + 1) (fun j hj=>by have:=hc (j + 1) (by simpa using hj); simpa [afY,af6 1 j] using this)]
    simp[bv]
 rcases h with h | ⟨b,o,h1,h2⟩
 ·subst h; cases a <;> rfl
 ·subst h1
  simp only[pJ]
  rw[key l b o 0 (by simpa using h2)]
theorem Own.Sp {H:Heap} {e z n c:Nat} {a:Option Addr} {xs:List Value} {g:Option Nat} (h:Own H e z (.slice a n c) n xs g):n≤c:=by
 rcases h.2 with ⟨_,h2,_⟩ | ⟨b,cap,cur,h1,h2,h3,h4,_⟩
 ·simp at h2; omega
 ·simp at h2; omega
abbrev I (n:Int):Value:=.int .i64 n
abbrev C (n:Int):cE:=.c (.int .i64 n)
abbrev Z:Value:=.slice none 0 0
abbrev oT (s:da cE):pL:=.op none .t s
abbrev oN (s:da cE):pL:=.op none .no s
abbrev oS (k:Nat) (s:da cE):pL:=.op none (.s k) s
abbrev mT (x:cE):pL:=.op none .t (.v (.mv x))
abbrev fT (n:Nat) (x:cE):pL:=.op none .t (.v (.fa n x))
abbrev lT (x:cE):pL:=.op none .t (.ld none x)
abbrev nT (x:cE):pL:=.op none .t (.v (.len x))
abbrev mS (k:Nat) (x:cE):pL:=.op none (.s k) (.v (.mv x))
abbrev rm (x:cE) (D:List Nat) (n:DT):DT:=.rd none .t (.v (.mv x)) D n
abbrev rf (k:Nat) (x:cE) (D:List Nat) (n:DT):DT:=.rd none .t (.v (.fa k x)) D n
abbrev rl (x:cE) (D:List Nat) (n:DT):DT:=.rd none .t (.ld none x) D n
abbrev U (a b:cI):Prop:=∀ (P:Program) (E:cd→Heap→Prop) (σ:bf) (H:Heap) (Q:lF),vc P E a σ H Q=vc P E b σ H Q
abbrev S0:cE:=.s 0
abbrev T0:cE:=.t 0
abbrev S1:cE:=.s 1
abbrev T1:cE:=.t 1
abbrev S2:cE:=.s 2
abbrev T2:cE:=.t 2
abbrev S3:cE:=.s 3
abbrev T3:cE:=.t 3
abbrev S4:cE:=.s 4
abbrev T4:cE:=.t 4
abbrev S5:cE:=.s 5
abbrev T5:cE:=.t 5
abbrev S6:cE:=.s 6
abbrev T6:cE:=.t 6
abbrev S7:cE:=.s 7
abbrev T7:cE:=.t 7
abbrev S8:cE:=.s 8
abbrev T8:cE:=.t 8
abbrev S9:cE:=.s 9
abbrev T9:cE:=.t 9
abbrev rq:cE:=.s 10
abbrev V7:cE:=.t 10
abbrev u9:cE:=.s 11
abbrev XB:cE:=.t 11
abbrev wb:cE:=.s 12
abbrev T12:cE:=.t 12
abbrev Dp:cE:=.s 13
abbrev T13:cE:=.t 13
abbrev DQ:cE:=.s 14
abbrev T14:cE:=.t 14
abbrev M0:cE:=.s 15
abbrev T15:cE:=.t 15
abbrev NU:cE:=.s 16
abbrev T16:cE:=.t 16
abbrev Qh:cE:=.s 17
abbrev Qi:cE:=.s 18
abbrev Sq:cE:=.s 19
abbrev V8:cE:=.s 20
abbrev Qj:cE:=.s 21
abbrev S22:cE:=.s 22
abbrev S23:cE:=.s 23
abbrev S24:cE:=.s 24
abbrev S25:cE:=.s 25
end Gx
namespace Go.Proofs.YtmhdkbmnpekpoaaGreatDoor
open Gx Go
@[go_sem] def Sr:List Nat:=[0,2,3,4,5,6,7,8,18,26]
def c51:Gx.Fn:=⟨30,Sr,(.seq (.ops [mS 1 (.c Z),oS 2 (.al 31 [(I 0),(I 0)])]) (.seq (.ops [mS 3 (.c Z)]) (.seq (.ops [mS 4 (C 0)]) (.block 0 (.loop Sr (.block 1 (.seq (.ops [mT S0,mT S4,oT (.call 95 [T1,T0]),mT T0,oT (.v (.ext T0 0)),oT (.v (.ext T1 1)),oT (.v (.ext T2 2)),oS 5 (.al 58 [(I 0),(.string ⟨⟨[]⟩⟩),(I 0),(I 0)]),oS 7 (.al 31 [(I 0),(I 0)]),oN (.st 4 S5 T2),mS 6 T1,oN (.st 2 S7 T0)]) (.seq (.seq (.ops [fT 0 S7,lT T0,oS 8 (.v (.bin .neq T0 (C 0)))]) (.cond S8 (.seq (.de (.rd none .t (.ld (some 2) S7) [2] (.rd none (.s 1) (.v (.mv (.c Z))) [2] (.ef 2 none .no (.st 2 S2 T0) .done)))) .ret) .skip)) (.seq (.ops [mT S3,oT (.ld (some 4) S5),oT (.bs 58 1 [(I 0),(.string ⟨⟨[]⟩⟩),(I 0),(I 0)] [(0,(4,T0))]),oT (.ap 70 70 T2 T0),mS 3 T0]) (.seq (.seq (.ops [fT 0 S5,lT T0,oS 9 (.v (.bin .eql T0 (C 6)))]) (.cond S9 (.seq (.ops [mT S3,oT (.v (.jA [(I 0),(I 0)] [])),mS 1 T1,oN (.st 2 S2 T0)]) .ret) .skip)) (.ops [mT S6,mS 4 T0]))))))))))),[(.tmp S1),(.cell S2 (some 2))]⟩
theorem XC:ai afI Sr Tryz.f51=some c51:=by kernel_rfl
@[go_sem] def XD:List Nat:=[0,1,4,5,6,7,8,9,10,13,23,37]
def c95:Gx.Fn:=⟨46,XD,(.seq (.ops [oS 2 (.al 58 [(I 0),(.string ⟨⟨[]⟩⟩),(I 0),(I 0)]),mS 3 (C 0),oS 4 (.al 31 [(I 0),(I 0)])]) (.seq (.seq (.ops [mT S0,oT (.v (.gP T0)),oS 9 (.v (.bin .gtr T0 (C 65536)))]) (.cond S9 (.seq (.ops [oT (.v (.jA [(I 0),(.string ⟨⟨[]⟩⟩),(I 0),(I 0)] [])),oT (.v (.jA [(I 0),(I 0)] [(0,(1,(C 6))),(1,(1,(C 65536)))])),oN (.st 4 S2 T1),mS 3 (C 0),oN (.st 2 S4 T0)]) .ret) .skip)) (.seq (.seq (.ops [mT S1,oT (.v (.bin .lss T0 (C 0))),mT T0,(.eO T0 false [(.op (.v (.mv S1))),(.op (.v (.mv S0))),(.op (.v (.gP T0))),(.op (.v (.bin .gtr T2 T0)))] (.s 10) (.c (.bool true)) T0)]) (.cond rq (.seq (.ops [oT (.v (.jA [(I 0),(.string ⟨⟨[]⟩⟩),(I 0),(I 0)] [])),oT (.v (.jA [(I 0),(I 0)] [(0,(1,(C 1)))])),oN (.st 4 S2 T1),mS 3 (C 0),oN (.st 2 S4 T0)]) .ret) .skip)) (.seq (.ops [mT S0,mT S1,oT (.v (.jA [(.string ⟨⟨[]⟩⟩),(I 0)] [(0,(1,T1)),(1,(1,T0))])),oS 5 (.al 115 [(.string ⟨⟨[]⟩⟩),(I 0)]),oN (.st 2 S5 T0)]) (.seq (.ops [oT (.call 113 [S5])]) (.seq (.ops [fT 1 S5,lT T0,mS 6 T0]) (.seq (.ops [oT (.call 114 [S5]),mT T0,oT (.v (.ext T0 0)),oT (.v (.ext T1 1)),oS 7 (.al 58 [(I 0),(.string ⟨⟨[]⟩⟩),(I 0),(I 0)]),oN (.st 4 S7 T1),mS 8 T0]) (.seq (.seq (.ops [mT S8,oS 11 (.v (.bin .neq T0 (C 0)))]) (.cond u9 (.seq (.ops [oT (.v (.jA [(I 0),(.string ⟨⟨[]⟩⟩),(I 0),(I 0)] [])),mT S8,mT S6,oT (.v (.jA [(I 0),(I 0)] [(0,(1,T1)),(1,(1,T0))])),oN (.st 4 S2 T3),mS 3 (C 0),oN (.st 2 S4 T0)]) .ret) .skip)) (.seq (.de (.rd none .t (.ld (some 4) S7) [4,6] (rf 1 S5 [6] (rl T0 [6] (.rd none .t (.v (.jA [(I 0),(I 0)] [])) [6] (.ef 4 none .no (.st 4 S2 T3) (.rd none (.s 3) (.v (.mv T1)) [6] (.ef 6 none .no (.st 2 S4 T0) .done)))))))) .ret))))))))),[(.cell S2 (some 4)),(.tmp S3),(.cell S4 (some 2))]⟩
theorem XE:ai afI XD Tryz.f95=some c95:=by kernel_rfl
@[go_sem] def Jr:List Nat:=[0,25]
def XF:Gx.Fn:=⟨28,Jr,(.block 0 (.loop Jr (.block 1 (.seq (.ops [mT S0,oT (.call 122 [T0,(.f 123)])]) (.seq (.seq (.dq [mT S0,oT (.v (.nc T0)),fT 1 T0,lT T0,mT S0,oT (.v (.nc T0)),fT 0 T0,lT T0,oT (.v (.gP T0)),oT (.v (.bin .geq T5 T0)),mT T0,(.op (some (T0,(false,true))) .t (.v (.mv S0))),(.op (some (T1,(false,false))) .t (.v (.nc T0))),(.op (some (T2,(false,false))) .t (.v (.fa 0 T0))),(.op (some (T3,(false,false))) .t (.ld none T0)),(.op (some (T4,(false,false))) .t (.v (.mv S0))),(.op (some (T5,(false,false))) .t (.v (.nc T0))),(.op (some (T6,(false,false))) .t (.v (.fa 1 T0))),(.op (some (T7,(false,false))) .t (.ld none T0)),(.op (some (T8,(false,false))) .t (.v (.vm T4 T0))),(.op (some (T9,(false,false))) .t (.v (.bin .neq T0 (.c (.int .u8 35))))),oS 1 (.v (.pick V7 (.c (.bool true)) T0))]) (.cond S1 .ret .skip)) (.ops [mT S0,oT (.call 122 [T0,(.f 124)])])))))),[]⟩
theorem Ss:ai afI Jr Tryz.f113=some XF:=by kernel_rfl
@[go_sem] def Qk:List Nat:=[0,2,3,4,5,6,7,8,9,24,64,85,95,105,109,111,123,135,140,174,186]
def XG:Gx.Fn:=⟨190,Qk,(.seq (.ops [oS 1 (.al 58 [(I 0),(.string ⟨⟨[]⟩⟩),(I 0),(I 0)]),mS 2 (C 0)]) (.seq (.ops [mT S0,oT (.v (.nc T0)),fT 1 T0,lT T0,oT (.v (.jA [(I 0),(.string ⟨⟨[]⟩⟩),(I 0),(I 0)] [(3,(1,T0))])),oS 3 (.al 58 [(I 0),(.string ⟨⟨[]⟩⟩),(I 0),(I 0)]),oN (.st 4 S3 T0)]) (.seq (.seq (.dq [mT S0,oT (.v (.nc T0)),fT 1 T0,lT T0,mT S0,oT (.v (.nc T0)),fT 0 T0,lT T0,oT (.v (.gP T0)),oS 9 (.v (.bin .eql T5 T0))]) (.cond S9 (.seq (.ops [fT 0 S3,oN (.st 1 T0 (C 6))]) (.seq (.ops [oT (.ld (some 4) S3),oN (.st 4 S1 T0),mS 2 (C 0)]) .ret)) .skip)) (.seq (.dq [mT S0,oT (.v (.nc T0)),fT 0 T0,lT T0,mT S0,oT (.v (.nc T0)),fT 1 T0,lT T0,oT (.v (.vm T4 T0)),mS 4 T0]) (.seq (.block 0 (.seq (.ops [mT S4,oT (.call 125 [T0]),mS 12 T0]) (.cond wb (.seq (.ops [mT S0,oT (.call 122 [T0,(.f 126)]),fT 1 S3,oN (.st 1 T0 T1)]) (.seq (.ops [fT 0 S3,oN (.st 1 T0 (C 1))]) (.seq (.seq (.ops [fT 1 S3,lT T0,oT (.v (.gP T0)),oS 13 (.v (.bin .gtr T0 (C 16)))]) (.cond Dp (.seq (.ops [oT (.ld (some 4) S3),oN (.st 4 S1 T0),mS 2 (C 3)]) .ret) .skip)) (.seq (.ops [fT 1 S3,lT T0,oS 14 (.call 92 [T0])]) (.cond DQ (.ops [fT 0 S3,oN (.st 1 T0 (C 2))]) .skip))))) (.seq (.ops [mT S4,oT (.call 127 [T0]),mS 15 T0]) (.cond M0 (.seq (.ops [mT S0,oT (.call 122 [T0,(.f 127)]),mS 5 T0]) (.seq (.seq (.ops [mT S5,oT (.v (.gP T0)),oT (.v (.bin .gtr T0 (C 1))),mT T0,(.op (some (T0,(true,true))) .t (.v (.mv S5))),(.op (some (T1,(true,false))) .t (.v (.vm T0 (C 0)))),(.op (some (T2,(true,false))) .t (.v (.bin .eql T0 (.c (.int .u8 48))))),oS 16 (.v (.pick T3 T0 (.c (.bool false))))]) (.cond NU (.seq (.ops [oT (.ld (some 4) S3),oN (.st 4 S1 T0),mS 2 (C 2)]) .ret) .skip)) (.seq (.ops [mT S5,oT (.call 128 [T0,(C 10),(C 64)]),mT T0,oT (.v (.ext T0 0)),oT (.v (.ext T1 1)),mS 6 T1,mS 7 T0]) (.seq (.seq (.ops [mT S7,oT (.v (.nD true T0)),mT T0,(.eO T0 false [(.op (.v (.mv S6))),(.op (.v (.bin .gtr T0 (C 1000000000000000))))] (.s 17) (.c (.bool true)) T0)]) (.cond Qh (.seq (.ops [oT (.ld (some 4) S3),oN (.st 4 S1 T0),mS 2 (C 5)]) .ret) .skip)) (.ops [mT S6,fT 0 S3,oN (.st 1 T0 (C 3)),fT 2 S3,oN (.st 1 T0 T2)]))))) (.seq (.ops [mT S4,oT (.v (.bin .eql T0 (.c (.int .u8 39)))),mS 18 T0]) (.cond Qi (.seq (.ops [mT S0,oT (.v (.nc T0)),fT 1 T0,lT T0,oT (.v (.bin .add T0 (C 1))),oT (.v (.nc T4)),fT 1 T0,oN (.st 1 T0 T2)]) (.seq (.ops [mT S0,oT (.call 122 [T0,(.f 126)]),fT 1 S3,oN (.st 1 T0 T1)]) (.seq (.seq (.dq [mT S0,oT (.v (.nc T0)),fT 1 T0,lT T0,mT S0,oT (.v (.nc T0)),fT 0 T0,lT T0,oT (.v (.gP T0)),oT (.v (.bin .eql T5 T0)),mT T0,(.op (some (T0,(false,true))) .t (.v (.mv S0))),(.op (some (T1,(false,false))) .t (.v (.nc T0))),(.op (some (T2,(false,false))) .t (.v (.fa 0 T0))),(.op (some (T3,(false,false))) .t (.ld none T0)),(.op (some (T4,(false,false))) .t (.v (.mv S0))),(.op (some (T5,(false,false))) .t (.v (.nc T0))),(.op (some (T6,(false,false))) .t (.v (.fa 1 T0))),(.op (some (T7,(false,false))) .t (.ld none T0)),(.op (some (T8,(false,false))) .t (.v (.vm T4 T0))),(.op (some (T9,(false,false))) .t (.v (.bin .neq T0 (.c (.int .u8 39))))),oS 19 (.v (.pick V7 (.c (.bool true)) T0))]) (.cond Sq (.seq (.ops [oT (.ld (some 4) S3),oN (.st 4 S1 T0),mS 2 (C 2)]) .ret) .skip)) (.seq (.ops [mT S0,oT (.v (.nc T0)),fT 1 T0,lT T0,oT (.v (.bin .add T0 (C 1))),oT (.v (.nc T4)),fT 1 T0,oN (.st 1 T0 T2)]) (.seq (.seq (.ops [fT 1 S3,lT T0,oT (.call 91 [T0]),oS 20 (.v (.un .not T0))]) (.cond V8 (.seq (.ops [oT (.ld (some 4) S3),oN (.st 4 S1 T0),mS 2 (C 3)]) .ret) .skip)) (.ops [fT 0 S3,oN (.st 1 T0 (C 4))])))))) (.seq (.ops [mS 8 (C 2)]) (.seq (.seq (.de (rm S0 [26] (.rd none .t (.v (.nc T0)) [26] (rf 1 T0 [26] (rl T0 [26] (.rd none .t (.v (.bin .add T0 (C 2))) [26] (rm S0 [26] (.rd none .t (.v (.nc T0)) [26] (rf 0 T0 [26] (rl T0 [26] (.rd none .t (.v (.gP T0)) [26] (.rd none .t (.v (.bin .gtr T5 T0)) [26] (rm T0 [26] (.rd (some (T0,false)) .t (.v (.mv S0)) [26] (.rd (some (T1,false)) .t (.v (.nc T0)) [26] (.rd (some (T2,false)) .t (.v (.fa 0 T0)) [26] (.rd (some (T3,false)) .t (.ld none T0) [26] (.rd (some (T4,false)) .t (.v (.mv S0)) [26] (.rd (some (T5,false)) .t (.v (.nc T0)) [26] (.rd (some (T6,false)) .t (.v (.fa 1 T0)) [26] (.rd (some (T7,false)) .t (.ld none T0) [26] (.rd (some (T8,false)) .t (.v (.mv S0)) [26] (.rd (some (T9,false)) .t (.v (.nc T0)) [26] (.rd (some (V7,false)) .t (.v (.fa 1 T0)) [26] (.rd (some (XB,false)) .t (.ld none T0) [26] (.rd (some (T12,false)) .t (.v (.bin .add T0 (C 2))) [26] (.rd (some (T13,false)) .t (.v (.MR T9 (some T5) (some T0))) [26] (.ef 26 (some (T14,false)) .t (.call 129 [T0]) (.rd (some (T15,false)) .t (.v (.un .not T0)) [] (.rd none (.s 10) (.v (.pick T16 (.c (.bool true)) T0)) [] .done)))))))))))))))))))))))))))))) (.cond rq (.ops [mS 8 (C 1)]) .skip)) (.seq (.de (rm S0 [18] (.rd none .t (.v (.nc T0)) [18] (rf 0 T0 [18] (rl T0 [18] (rm S0 [18] (.rd none .t (.v (.nc T0)) [18] (rf 1 T0 [18] (rl T0 [18] (rm S0 [18] (.rd none .t (.v (.nc T0)) [18] (rf 1 T0 [18] (rl T0 [18] (rm S8 [18] (.rd none .t (.v (.bin .add T1 T0)) [18] (.rd none .t (.v (.MR V7 (some T6) (some T0))) [18] (rf 0 S3 [16,18] (.ef 16 none .no (.st 1 T0 (C 5)) (rf 1 S3 [18] (.ef 18 none .no (.st 1 T0 T2) .done)))))))))))))))))))) (.seq (.seq (.ops [fT 1 S3,lT T0,oT (.call 129 [T0]),oS 11 (.v (.un .not T0))]) (.cond u9 (.seq (.ops [oT (.ld (some 4) S3),oN (.st 4 S1 T0),mS 2 (C 2)]) .ret) .skip)) (.ops [mT S0,oT (.v (.nc T0)),fT 1 T0,lT T0,mT S8,oT (.v (.bin .add T1 T0)),oT (.v (.nc T5)),fT 1 T0,oN (.st 1 T0 T2)])))))))))))) (.seq (.ops [oT (.ld (some 4) S3),oN (.st 4 S1 T0),mS 2 (C 0)]) .ret)))))),[(.cell S1 (some 4)),(.tmp S2)]⟩
theorem Su:ai afI Qk Tryz.f114=some XG:=by kernel_rfl
@[go_sem] def Sv:List Nat:=[0,2,3,21,23,24,25,31]
def c91:Gx.Fn:=⟨33,Sv,(.seq (.ops [mS 1 (.c (.bool false))]) (.seq (.seq (.ops [mT S0,oT (.v (.gP T0)),oT (.v (.bin .eql T0 (C 0))),mT T0,(.eO T0 false [(.op (.v (.mv S0))),(.op (.v (.gP T0))),(.op (.v (.bin .gtr T0 (C 16))))] .t (.c (.bool true)) T0),mT T0,(.op (some (T0,(false,true))) .t (.v (.mv S0))),(.op (some (T1,(false,false))) .t (.v (.vm T0 (C 0)))),(.op (some (T2,(false,false))) .t (.v (.bin .lss T0 (.c (.int .u8 97))))),oT (.v (.pick T3 (.c (.bool true)) T0)),mT T0,(.op (some (T0,(false,true))) .t (.v (.mv S0))),(.op (some (T1,(false,false))) .t (.v (.vm T0 (C 0)))),(.op (some (T2,(false,false))) .t (.v (.bin .gtr T0 (.c (.int .u8 122))))),oS 3 (.v (.pick T3 (.c (.bool true)) T0))]) (.cond S3 (.seq (.ops [mS 1 (.c (.bool false))]) .ret) .skip)) (.seq (.seq (.ops [mT S0,oS 4 (.v (.gP T0)),mS 5 (C 0)]) (.block 0 (.loop Sv (.seq (.ops [oS 6 (.v (.bin .lss S5 S4))]) (.seq (.cond S6 .skip (.exit 0)) (.seq (.block 1 (.seq (.ops [mT S5,mS 2 T0]) (.seq (.ops [mT S0,mT S2,oT (.v (.vm T1 T0)),oT (.call 110 [T0]),oS 7 (.v (.un .not T0))]) (.cond S7 (.seq (.ops [mS 1 (.c (.bool false))]) .ret) .skip)))) (.ops [oT (.v (.bin .add S5 (C 1))),mS 5 T0]))))))) (.seq (.ops [mS 1 (.c (.bool true))]) .ret)))),[(.tmp S1)]⟩
theorem XH:ai afI Sv Tryz.f91=some c91:=by kernel_rfl
@[go_sem] def XI:List Nat:=[0,2,3]
def c92:Gx.Fn:=⟨8,XI,(.seq (.ops [mS 1 (.c (.bool false))]) (.seq (.ops [oT (.bs 9 44 [(.string ⟨⟨[]⟩⟩),(.string ⟨⟨[]⟩⟩),(.string ⟨⟨[]⟩⟩),(.string ⟨⟨[]⟩⟩),(.string ⟨⟨[]⟩⟩),(.string ⟨⟨[]⟩⟩),(.string ⟨⟨[]⟩⟩),(.string ⟨⟨[]⟩⟩),(.string ⟨⟨[]⟩⟩),(.string ⟨⟨[]⟩⟩),(.string ⟨⟨[]⟩⟩),(.string ⟨⟨[]⟩⟩),(.string ⟨⟨[]⟩⟩),(.string ⟨⟨[]⟩⟩),(.string ⟨⟨[]⟩⟩),(.string ⟨⟨[]⟩⟩),(.string ⟨⟨[]⟩⟩),(.string ⟨⟨[]⟩⟩),(.string ⟨⟨[]⟩⟩),(.string ⟨⟨[]⟩⟩),(.string ⟨⟨[]⟩⟩),(.string ⟨⟨[]⟩⟩),(.string ⟨⟨[]⟩⟩),(.string ⟨⟨[]⟩⟩),(.string ⟨⟨[]⟩⟩),(.string ⟨⟨[]⟩⟩),(.string ⟨⟨[]⟩⟩),(.string ⟨⟨[]⟩⟩),(.string ⟨⟨[]⟩⟩),(.string ⟨⟨[]⟩⟩),(.string ⟨⟨[]⟩⟩),(.string ⟨⟨[]⟩⟩),(.string ⟨⟨[]⟩⟩),(.string ⟨⟨[]⟩⟩),(.string ⟨⟨[]⟩⟩),(.string ⟨⟨[]⟩⟩),(.string ⟨⟨[]⟩⟩),(.string ⟨⟨[]⟩⟩),(.string ⟨⟨[]⟩⟩),(.string ⟨⟨[]⟩⟩),(.string ⟨⟨[]⟩⟩),(.string ⟨⟨[]⟩⟩),(.string ⟨⟨[]⟩⟩),(.string ⟨⟨[]⟩⟩)] [(0,(1,(.c (.string ⟨⟨[97,110,100]⟩⟩)))),(1,(1,(.c (.string ⟨⟨[98,111,111,108]⟩⟩)))),(2,(1,(.c (.string ⟨⟨[98,111,116,116,111,109]⟩⟩)))),(3,(1,(.c (.string ⟨⟨[99,108,111,115,101,100]⟩⟩)))),(4,(1,(.c (.string ⟨⟨[99,111,110,102,108,105,99,116]⟩⟩)))),(5,(1,(.c (.string ⟨⟨[101,108,115,101]⟩⟩)))),(6,(1,(.c (.string ⟨⟨[102,97,108,115,101]⟩⟩)))),(7,(1,(.c (.string ⟨⟨[102,105,114,115,116]⟩⟩)))),(8,(1,(.c (.string ⟨⟨[102,108,97,103]⟩⟩)))),(9,(1,(.c (.string ⟨⟨[102,108,97,116]⟩⟩)))),(10,(1,(.c (.string ⟨⟨[105,102]⟩⟩)))),(11,(1,(.c (.string ⟨⟨[105,110]⟩⟩)))),(12,(1,(.c (.string ⟨⟨[105,110,116]⟩⟩)))),(13,(1,(.c (.string ⟨⟨[106,111,105,110]⟩⟩)))),(14,(1,(.c (.string ⟨⟨[107,101,121,115]⟩⟩)))),(15,(1,(.c (.string ⟨⟨[108,97,116,116,105,99,101]⟩⟩)))),(16,(1,(.c (.string ⟨⟨[108,101,113]⟩⟩)))),(17,(1,(.c (.string ⟨⟨[108,101,120]⟩⟩)))),(18,(1,(.c (.string ⟨⟨[109,97,112]⟩⟩)))),(19,(1,(.c (.string ⟨⟨[109,97,120]⟩⟩)))),(20,(1,(.c (.string ⟨⟨[109,105,110]⟩⟩)))),(21,(1,(.c (.string ⟨⟨[110,97,109,101]⟩⟩)))),(22,(1,(.c (.string ⟨⟨[110,97,109,101,115]⟩⟩)))),(23,(1,(.c (.string ⟨⟨[110,111,116]⟩⟩)))),(24,(1,(.c (.string ⟨⟨[110,117,109]⟩⟩)))),(25,(1,(.c (.string ⟨⟨[110,117,109,98,101,114]⟩⟩)))),(26,(1,(.c (.string ⟨⟨[111,98,106,101,99,116]⟩⟩)))),(27,(1,(.c (.string ⟨⟨[111,110]⟩⟩)))),(28,(1,(.c (.string ⟨⟨[111,110,101]⟩⟩)))),(29,(1,(.c (.string ⟨⟨[111,114]⟩⟩)))),(30,(1,(.c (.string ⟨⟨[112,97,105,114]⟩⟩)))),(31,(1,(.c (.string ⟨⟨[113,117,101,114,121]⟩⟩)))),(32,(1,(.c (.string ⟨⟨[114,101,99]⟩⟩)))),(33,(1,(.c (.string ⟨⟨[114,101,103,105,115,116,101,114]⟩⟩)))),(34,(1,(.c (.string ⟨⟨[115]⟩⟩)))),(35,(1,(.c (.string ⟨⟨[115,101,99,111,110,100]⟩⟩)))),(36,(1,(.c (.string ⟨⟨[115,101,116]⟩⟩)))),(37,(1,(.c (.string ⟨⟨[115,105,122,101]⟩⟩)))),(38,(1,(.c (.string ⟨⟨[115,117,109]⟩⟩)))),(39,(1,(.c (.string ⟨⟨[116,104,101,110]⟩⟩)))),(40,(1,(.c (.string ⟨⟨[116,114,117,101]⟩⟩)))),(41,(1,(.c (.string ⟨⟨[117,112,100,97,116,101]⟩⟩)))),(42,(1,(.c (.string ⟨⟨[118,97,108,117,101,115]⟩⟩)))),(43,(1,(.c (.string ⟨⟨[119,114,105,116,101]⟩⟩))))]),mS 2 T0]) (.seq (.ops [mT S2,mT S0,oT (.call 111 [T1,T0]),mS 1 T0]) .ret))),[(.tmp S1)]⟩
theorem XJ:ai afI XI Tryz.f92=some c92:=by kernel_rfl
@[go_sem] def Ql:List Nat:=[0,2,3]
def XK:Gx.Fn:=⟨8,Ql,(.seq (.ops [mS 1 (.c (.bool false))]) (.seq (.ops [oT (.bs 9 17 [(.string ⟨⟨[]⟩⟩),(.string ⟨⟨[]⟩⟩),(.string ⟨⟨[]⟩⟩),(.string ⟨⟨[]⟩⟩),(.string ⟨⟨[]⟩⟩),(.string ⟨⟨[]⟩⟩),(.string ⟨⟨[]⟩⟩),(.string ⟨⟨[]⟩⟩),(.string ⟨⟨[]⟩⟩),(.string ⟨⟨[]⟩⟩),(.string ⟨⟨[]⟩⟩),(.string ⟨⟨[]⟩⟩),(.string ⟨⟨[]⟩⟩),(.string ⟨⟨[]⟩⟩),(.string ⟨⟨[]⟩⟩),(.string ⟨⟨[]⟩⟩),(.string ⟨⟨[]⟩⟩)] [(0,(1,(.c (.string ⟨⟨[61]⟩⟩)))),(1,(1,(.c (.string ⟨⟨[58]⟩⟩)))),(2,(1,(.c (.string ⟨⟨[59]⟩⟩)))),(3,(1,(.c (.string ⟨⟨[44]⟩⟩)))),(4,(1,(.c (.string ⟨⟨[40]⟩⟩)))),(5,(1,(.c (.string ⟨⟨[41]⟩⟩)))),(6,(1,(.c (.string ⟨⟨[123]⟩⟩)))),(7,(1,(.c (.string ⟨⟨[125]⟩⟩)))),(8,(1,(.c (.string ⟨⟨[91]⟩⟩)))),(9,(1,(.c (.string ⟨⟨[93]⟩⟩)))),(10,(1,(.c (.string ⟨⟨[46]⟩⟩)))),(11,(1,(.c (.string ⟨⟨[43]⟩⟩)))),(12,(1,(.c (.string ⟨⟨[45]⟩⟩)))),(13,(1,(.c (.string ⟨⟨[60]⟩⟩)))),(14,(1,(.c (.string ⟨⟨[60,61]⟩⟩)))),(15,(1,(.c (.string ⟨⟨[61,61]⟩⟩)))),(16,(1,(.c (.string ⟨⟨[61,62]⟩⟩))))]),mS 2 T0]) (.seq (.ops [mT S2,mT S0,oT (.call 111 [T1,T0]),mS 1 T0]) .ret))),[(.tmp S1)]⟩
theorem Sw:ai afI Ql Tryz.f129=some XK:=by kernel_rfl
@[go_sem] def Js:List Nat:=[0,1,4,5,32]
def XL:Gx.Fn:=⟨50,Js,(.seq (.ops [mS 2 (.c (.string ⟨⟨[]⟩⟩))]) (.seq (.ops [mT S0,oT (.v (.nc T0)),fT 1 T0,lT T0,mS 3 T0]) (.seq (.block 0 (.loop Js (.seq (.seq (.de (rm S0 [21] (.rd none .t (.v (.nc T0)) [21] (rf 1 T0 [21] (rl T0 [21] (rm S0 [21] (.rd none .t (.v (.nc T0)) [21] (rf 0 T0 [21] (rl T0 [21] (.rd none .t (.v (.gP T0)) [21] (.rd none .t (.v (.bin .lss T5 T0)) [21] (rm T0 [21] (.rd (some (T0,true)) .t (.v (.mv S1)) [21] (.rd (some (T1,true)) .t (.v (.mv S0)) [21] (.rd (some (T2,true)) .t (.v (.nc T0)) [21] (.rd (some (T3,true)) .t (.v (.fa 0 T0)) [21] (.rd (some (T4,true)) .t (.ld none T0) [21] (.rd (some (T5,true)) .t (.v (.mv S0)) [21] (.rd (some (T6,true)) .t (.v (.nc T0)) [21] (.rd (some (T7,true)) .t (.v (.fa 1 T0)) [21] (.rd (some (T8,true)) .t (.ld none T0) [21] (.rd (some (T9,true)) .t (.v (.vm T4 T0)) [21] (.ef 21 (some (V7,true)) .t (.cv T9 [T0]) (.rd none (.s 4) (.v (.pick XB T0 (.c (.bool false)))) [] .done)))))))))))))))))))))))) (.cond S4 .skip (.exit 0))) (.block 1 (.ops [mT S0,oT (.v (.nc T0)),fT 1 T0,lT T0,oT (.v (.bin .add T0 (C 1))),oT (.v (.nc T4)),fT 1 T0,oN (.st 1 T0 T2)]))))) (.seq (.dq [mT S0,oT (.v (.nc T0)),fT 0 T0,lT T0,mT S3,mT S0,oT (.v (.nc T0)),fT 1 T0,lT T0,oT (.v (.MR T5 (some T4) (some T0))),mS 2 T0]) .ret)))),[(.tmp S2)]⟩
theorem Sx:ai afI Js Tryz.f122=some XL:=by kernel_rfl
@[go_sem] def Qm:List Nat:=[0,2]
def XM:Gx.Fn:=⟨17,Qm,(.seq (.ops [mS 1 (.c (.bool false))]) (.seq (.ops [mT S0,oT (.v (.bin .eql T0 (.c (.int .u8 32)))),mT T0,(.eO T0 false [(.op (.v (.mv S0))),(.op (.v (.bin .eql T0 (.c (.int .u8 9)))))] .t (.c (.bool true)) T0),mT T0,(.eO T0 false [(.op (.v (.mv S0))),(.op (.v (.bin .eql T0 (.c (.int .u8 10)))))] .t (.c (.bool true)) T0),mT T0,(.eO T0 false [(.op (.v (.mv S0))),(.op (.v (.bin .eql T0 (.c (.int .u8 13)))))] .t (.c (.bool true)) T0),mS 1 T0]) .ret)),[(.tmp S1)]⟩
theorem Sy:ai afI Qm Tryz.f123=some XM:=by kernel_rfl
@[go_sem] def Qn:List Nat:=[0,2]
def c124:Gx.Fn:=⟨5,Qn,(.seq (.ops [mS 1 (.c (.bool false))]) (.seq (.ops [mT S0,oT (.v (.bin .neq T0 (.c (.int .u8 10)))),mS 1 T0]) .ret)),[(.tmp S1)]⟩
theorem SA:ai afI Qn Tryz.f124=some c124:=by kernel_rfl
@[go_sem] def Qo:List Nat:=[0,2]
def XN:Gx.Fn:=⟨9,Qo,(.seq (.ops [mS 1 (.c (.bool false))]) (.seq (.ops [mT S0,oT (.v (.bin .geq T0 (.c (.int .u8 97)))),mT T0,(.eO T0 true [(.op (.v (.mv S0))),(.op (.v (.bin .leq T0 (.c (.int .u8 122)))))] .t T0 (.c (.bool false))),mS 1 T0]) .ret)),[(.tmp S1)]⟩
theorem SB:ai afI Qo Tryz.f125=some XN:=by kernel_rfl
@[go_sem] def Qp:List Nat:=[0,2]
def XO:Gx.Fn:=⟨13,Qp,(.seq (.ops [mS 1 (.c (.bool false))]) (.seq (.ops [mT S0,oT (.call 125 [T0]),mT T0,(.op (some (T0,(false,true))) .t (.v (.mv S0))),(.op (some (T1,(false,false))) .t (.call 127 [T0])),oT (.v (.pick T2 (.c (.bool true)) T0)),mT T0,(.eO T0 false [(.op (.v (.mv S0))),(.op (.v (.bin .eql T0 (.c (.int .u8 45)))))] .t (.c (.bool true)) T0),mS 1 T0]) .ret)),[(.tmp S1)]⟩
theorem SC:ai afI Qp Tryz.f126=some XO:=by kernel_rfl
@[go_sem] def Qq:List Nat:=[0,2]
def c127:Gx.Fn:=⟨9,Qq,(.seq (.ops [mS 1 (.c (.bool false))]) (.seq (.ops [mT S0,oT (.v (.bin .geq T0 (.c (.int .u8 48)))),mT T0,(.eO T0 true [(.op (.v (.mv S0))),(.op (.v (.bin .leq T0 (.c (.int .u8 57)))))] .t T0 (.c (.bool false))),mS 1 T0]) .ret)),[(.tmp S1)]⟩
theorem SD:ai afI Qq Tryz.f127=some c127:=by kernel_rfl
@[go_sem] def Qr:List Nat:=[0,2]
def SE:Gx.Fn:=⟨21,Qr,(.seq (.ops [mS 1 (.c (.bool false))]) (.seq (.ops [mT S0,oT (.v (.bin .leq (.c (.int .u8 97)) T0)),mT T0,(.eO T0 true [(.op (.v (.mv S0))),(.op (.v (.bin .leq T0 (.c (.int .u8 122)))))] .t T0 (.c (.bool false))),mT T0,(.eO T0 false [(.op (.v (.mv S0))),(.op (.v (.bin .leq (.c (.int .u8 48)) T0))),(.op (.v (.mv T0))),(.NI T0 true [(.op (.v (.mv S0))),(.op (.v (.bin .leq T0 (.c (.int .u8 57)))))] T0 (.c (.bool false)))] .t (.c (.bool true)) T0),mT T0,(.eO T0 false [(.op (.v (.mv S0))),(.op (.v (.bin .eql T0 (.c (.int .u8 45)))))] .t (.c (.bool true)) T0),mS 1 T0]) .ret)),[(.tmp S1)]⟩
theorem SF:ai afI Qr Tryz.f110=some SE:=by kernel_rfl
@[go_sem] def Qs:List Nat:=[0,1,4]
def XP:Gx.Fn:=⟨9,Qs,(.seq (.ops [mS 2 (.c (.bool false))]) (.seq (.ops [mT S0,mT S1,oT (.call 121 [T1,T0]),oT (.v (.bin .geq T0 (C 0))),mS 2 T0]) .ret)),[(.tmp S2)]⟩
theorem SG:ai afI Qs Tryz.f111=some XP:=by kernel_rfl
@[go_sem] def Jt:List Nat:=[0,1,4,5,7,8,9,16]
def XQ:Gx.Fn:=⟨19,Jt,(.seq (.ops [mS 2 (C 0)]) (.seq (.seq (.ops [mT S0,oS 4 (.v (.len T0)),mS 5 (C 0)]) (.block 0 (.loop Jt (.seq (.ops [oS 6 (.v (.bin .lss S5 S4))]) (.seq (.cond S6 .skip (.exit 0)) (.seq (.block 1 (.seq (.ops [mT S5,mS 3 T0]) (.seq (.ops [mT S1,mT S0,mT S3,oT (.v (.ix 1 T1 T0)),lT T0,oS 7 (.v (.bin .eql T4 T0))]) (.cond S7 (.seq (.ops [mT S3,mS 2 T0]) .ret) .skip)))) (.ops [oT (.v (.bin .add S5 (C 1))),mS 5 T0]))))))) (.seq (.ops [mS 2 (C (-1))]) .ret))),[(.tmp S2)]⟩
theorem SH:ai afI Jt Tryz.f121=some XQ:=by kernel_rfl
@[go_sem] def Ju:List Nat:=[0,2,3,21,25,55]
def c107:Gx.Fn:=⟨56,Ju,(.seq (.ops [mS 1 (.c (.bool false))]) (.seq (.seq (.ops [mT S0,oT (.v (.gP T0)),oT (.v (.bin .lss T0 (C 1))),mT T0,(.eO T0 false [(.op (.v (.mv S0))),(.op (.v (.gP T0))),(.op (.v (.bin .gtr T0 (C 16))))] .t (.c (.bool true)) T0),mT T0,(.op (some (T0,(false,true))) .t (.v (.mv S0))),(.op (some (T1,(false,false))) .t (.v (.vm T0 (C 0)))),(.op (some (T2,(false,false))) .t (.v (.bin .lss T0 (.c (.int .u8 97))))),oT (.v (.pick T3 (.c (.bool true)) T0)),mT T0,(.op (some (T0,(false,true))) .t (.v (.mv S0))),(.op (some (T1,(false,false))) .t (.v (.vm T0 (C 0)))),(.op (some (T2,(false,false))) .t (.v (.bin .gtr T0 (.c (.int .u8 122))))),oS 3 (.v (.pick T3 (.c (.bool true)) T0))]) (.cond S3 (.seq (.ops [mS 1 (.c (.bool false))]) .ret) .skip)) (.seq (.seq (.ops [mS 2 (C 0)]) (.block 0 (.loop Ju (.seq (.seq (.ops [mT S2,mT S0,oT (.v (.gP T0)),oS 4 (.v (.bin .lss T2 T0))]) (.cond S4 .skip (.exit 0))) (.seq (.block 1 (.seq (.ops [mT S0,mT S2,oT (.v (.vm T1 T0)),oT (.v (.bin .lss T0 (.c (.int .u8 97)))),mT T0,(.op (some (T0,(false,true))) .t (.v (.mv S0))),(.op (some (T1,(false,false))) .t (.v (.mv S2))),(.op (some (T2,(false,false))) .t (.v (.vm T1 T0))),(.op (some (T3,(false,false))) .t (.v (.bin .gtr T0 (.c (.int .u8 122))))),oT (.v (.pick T4 (.c (.bool true)) T0)),mT T0,(.op (some (T0,(true,true))) .t (.v (.mv S0))),(.op (some (T1,(true,false))) .t (.v (.mv S2))),(.op (some (T2,(true,false))) .t (.v (.vm T1 T0))),(.op (some (T3,(true,false))) .t (.v (.bin .lss T0 (.c (.int .u8 48))))),(.op (some (T4,(true,false))) .t (.v (.mv T0))),(.op (some (T0,(false,true))) .t (.v (.mv S0))),(.op (some (T1,(false,false))) .t (.v (.mv S2))),(.op (some (T2,(false,false))) .t (.v (.vm T1 T0))),(.op (some (T3,(false,false))) .t (.v (.bin .gtr T0 (.c (.int .u8 57))))),(.op (some (T9,(true,true))) .t (.v (.pick T4 (.c (.bool true)) T0))),oT (.v (.pick V7 T0 (.c (.bool false)))),mT T0,(.op (some (T0,(true,true))) .t (.v (.mv S0))),(.op (some (T1,(true,false))) .t (.v (.mv S2))),(.op (some (T2,(true,false))) .t (.v (.vm T1 T0))),(.op (some (T3,(true,false))) .t (.v (.bin .neq T0 (.c (.int .u8 45))))),oS 5 (.v (.pick T4 T0 (.c (.bool false))))]) (.cond S5 (.seq (.ops [mS 1 (.c (.bool false))]) .ret) .skip))) (.ops [mT S2,oT (.v (.bin .add T0 (C 1))),mS 2 T0])))))) (.seq (.ops [mS 1 (.c (.bool true))]) .ret)))),[(.tmp S1)]⟩
theorem SI:ai afI Ju Tryz.f107=some c107:=by kernel_rfl
@[go_sem] def Qt:List Nat:=[0,2]
def XR:Gx.Fn:=⟨6,Qt,(.seq (.ops [mS 1 (.c (.bool false))]) (.seq (.ops [oT (.call 120 []),mT S0,oT (.call 119 [T1,T0]),mS 1 T0]) .ret)),[(.tmp S1)]⟩
theorem SJ:ai afI Qt Tryz.f108=some XR:=by kernel_rfl
@[go_sem] def Jv:List Nat:=[0,1,4,5,9,17]
def c119:Gx.Fn:=⟨18,Jv,(.seq (.ops [mS 2 (.c (.bool false))]) (.seq (.seq (.ops [mS 3 (C 0)]) (.block 0 (.loop Jv (.seq (.seq (.ops [mT S3,mT S0,nT T0,oS 4 (.v (.bin .lss T2 T0))]) (.cond S4 .skip (.exit 0))) (.seq (.block 1 (.seq (.ops [mT S0,mT S3,oT (.v (.ix 1 T1 T0)),lT T0,mT S1,oS 5 (.v (.bin .eql T1 T0))]) (.cond S5 (.seq (.ops [mS 2 (.c (.bool true))]) .ret) .skip))) (.ops [mT S3,oT (.v (.bin .add T0 (C 1))),mS 3 T0])))))) (.seq (.ops [mS 2 (.c (.bool false))]) .ret))),[(.tmp S2)]⟩
theorem SK:ai afI Jv Tryz.f119=some c119:=by kernel_rfl
@[go_sem] def Qu:List Nat:=[0]
def XS:Gx.Fn:=⟨2,Qu,(.seq (.ops [mS 0 (.c Z)]) (.seq (.ops [oT (.bs 9 44 [(.string ⟨⟨[]⟩⟩),(.string ⟨⟨[]⟩⟩),(.string ⟨⟨[]⟩⟩),(.string ⟨⟨[]⟩⟩),(.string ⟨⟨[]⟩⟩),(.string ⟨⟨[]⟩⟩),(.string ⟨⟨[]⟩⟩),(.string ⟨⟨[]⟩⟩),(.string ⟨⟨[]⟩⟩),(.string ⟨⟨[]⟩⟩),(.string ⟨⟨[]⟩⟩),(.string ⟨⟨[]⟩⟩),(.string ⟨⟨[]⟩⟩),(.string ⟨⟨[]⟩⟩),(.string ⟨⟨[]⟩⟩),(.string ⟨⟨[]⟩⟩),(.string ⟨⟨[]⟩⟩),(.string ⟨⟨[]⟩⟩),(.string ⟨⟨[]⟩⟩),(.string ⟨⟨[]⟩⟩),(.string ⟨⟨[]⟩⟩),(.string ⟨⟨[]⟩⟩),(.string ⟨⟨[]⟩⟩),(.string ⟨⟨[]⟩⟩),(.string ⟨⟨[]⟩⟩),(.string ⟨⟨[]⟩⟩),(.string ⟨⟨[]⟩⟩),(.string ⟨⟨[]⟩⟩),(.string ⟨⟨[]⟩⟩),(.string ⟨⟨[]⟩⟩),(.string ⟨⟨[]⟩⟩),(.string ⟨⟨[]⟩⟩),(.string ⟨⟨[]⟩⟩),(.string ⟨⟨[]⟩⟩),(.string ⟨⟨[]⟩⟩),(.string ⟨⟨[]⟩⟩),(.string ⟨⟨[]⟩⟩),(.string ⟨⟨[]⟩⟩),(.string ⟨⟨[]⟩⟩),(.string ⟨⟨[]⟩⟩),(.string ⟨⟨[]⟩⟩),(.string ⟨⟨[]⟩⟩),(.string ⟨⟨[]⟩⟩),(.string ⟨⟨[]⟩⟩)] [(0,(1,(.c (.string ⟨⟨[97,110,100]⟩⟩)))),(1,(1,(.c (.string ⟨⟨[98,111,111,108]⟩⟩)))),(2,(1,(.c (.string ⟨⟨[98,111,116,116,111,109]⟩⟩)))),(3,(1,(.c (.string ⟨⟨[99,108,111,115,101,100]⟩⟩)))),(4,(1,(.c (.string ⟨⟨[99,111,110,102,108,105,99,116]⟩⟩)))),(5,(1,(.c (.string ⟨⟨[101,108,115,101]⟩⟩)))),(6,(1,(.c (.string ⟨⟨[102,97,108,115,101]⟩⟩)))),(7,(1,(.c (.string ⟨⟨[102,105,114,115,116]⟩⟩)))),(8,(1,(.c (.string ⟨⟨[102,108,97,103]⟩⟩)))),(9,(1,(.c (.string ⟨⟨[102,108,97,116]⟩⟩)))),(10,(1,(.c (.string ⟨⟨[105,102]⟩⟩)))),(11,(1,(.c (.string ⟨⟨[105,110]⟩⟩)))),(12,(1,(.c (.string ⟨⟨[105,110,116]⟩⟩)))),(13,(1,(.c (.string ⟨⟨[106,111,105,110]⟩⟩)))),(14,(1,(.c (.string ⟨⟨[107,101,121,115]⟩⟩)))),(15,(1,(.c (.string ⟨⟨[108,97,116,116,105,99,101]⟩⟩)))),(16,(1,(.c (.string ⟨⟨[108,101,113]⟩⟩)))),(17,(1,(.c (.string ⟨⟨[108,101,120]⟩⟩)))),(18,(1,(.c (.string ⟨⟨[109,97,112]⟩⟩)))),(19,(1,(.c (.string ⟨⟨[109,97,120]⟩⟩)))),(20,(1,(.c (.string ⟨⟨[109,105,110]⟩⟩)))),(21,(1,(.c (.string ⟨⟨[110,97,109,101]⟩⟩)))),(22,(1,(.c (.string ⟨⟨[110,97,109,101,115]⟩⟩)))),(23,(1,(.c (.string ⟨⟨[110,111,116]⟩⟩)))),(24,(1,(.c (.string ⟨⟨[110,117,109]⟩⟩)))),(25,(1,(.c (.string ⟨⟨[110,117,109,98,101,114]⟩⟩)))),(26,(1,(.c (.string ⟨⟨[111,98,106,101,99,116]⟩⟩)))),(27,(1,(.c (.string ⟨⟨[111,110]⟩⟩)))),(28,(1,(.c (.string ⟨⟨[111,110,101]⟩⟩)))),(29,(1,(.c (.string ⟨⟨[111,114]⟩⟩)))),(30,(1,(.c (.string ⟨⟨[112,97,105,114]⟩⟩)))),(31,(1,(.c (.string ⟨⟨[113,117,101,114,121]⟩⟩)))),(32,(1,(.c (.string ⟨⟨[114,101,99]⟩⟩)))),(33,(1,(.c (.string ⟨⟨[114,101,103,105,115,116,101,114]⟩⟩)))),(34,(1,(.c (.string ⟨⟨[115]⟩⟩)))),(35,(1,(.c (.string ⟨⟨[115,101,99,111,110,100]⟩⟩)))),(36,(1,(.c (.string ⟨⟨[115,101,116]⟩⟩)))),(37,(1,(.c (.string ⟨⟨[115,105,122,101]⟩⟩)))),(38,(1,(.c (.string ⟨⟨[115,117,109]⟩⟩)))),(39,(1,(.c (.string ⟨⟨[116,104,101,110]⟩⟩)))),(40,(1,(.c (.string ⟨⟨[116,114,117,101]⟩⟩)))),(41,(1,(.c (.string ⟨⟨[117,112,100,97,116,101]⟩⟩)))),(42,(1,(.c (.string ⟨⟨[118,97,108,117,101,115]⟩⟩)))),(43,(1,(.c (.string ⟨⟨[119,114,105,116,101]⟩⟩))))]),mS 0 T0]) .ret)),[(.tmp S0)]⟩
theorem SL:ai afI Qu Tryz.f120=some XS:=by kernel_rfl
end Go.Proofs.YtmhdkbmnpekpoaaGreatDoor
namespace Gx
open Go Go.ChangeShapes Go.WideShapes Go.RowKit
theorem Jw {w w':World} (hs:Same w w') (hf:Fr [] w.heap w'.heap):Below w.heap.size w w':=
 ⟨hs.os,hs.tape,hs.output,hf.size,fun k hk=>hf.same k hk (by simp)⟩
section
variable {H:Type} {enc:TypeId × Value→H} {P:Program}
theorem pZ (hl:laidOutB P=true) {W W':World} (hb:Below W.heap.size W W') {sp:Nat→Bool}:∀ {ts:List TypeId} {vs:List Value} {ds:List (DataW H)} {ps:List MemPlace},
 ts.all (fun t=>P.readableRec t && decide (t < P.types.size))=true→DataW.TrodAll enc P W 0 (fun _=>true) true ts vs ds ps→(∀ x ∈ ps,x.block < W.heap.size)→(∀ x ∈ ps,sp x.block=true)→
 DataW.TrodAll enc P W' 0 sp true ts vs ds ps
 | [],[],[],_,_,h,_,_=>h
 | t :: ts,v :: vs,d :: ds,ps,ht,⟨p,q,h,hs,e⟩,ba,rr=>by
   simp only[List.all_cons,ae5,decide_eq_true_eq] at ht
   subst e
   exact ⟨p,q,WideElems.Trod_stays hl ht.1.1 ht.1.2 h (fun x hx=>hb.same (ba x (by simp[hx]))) (fun x hx=>rr x (by simp[hx])),
    pZ hl hb ht.2 hs (fun x hx=>ba x (by simp[hx])) (fun x hx=>rr x (by simp[hx])),rfl⟩
theorem uF {w:World} {base:Nat} {spare:Nat→Bool} {held:Bool}:∀ {ts:List TypeId} {vs:List Value} {ds:List (DataW H)} {ps:List MemPlace},DataW.TrodAll enc P w base spare held ts vs ds ps→ds.length=ts.length
 | [],[],[],_,_=>rfl
 | _ :: _,_ :: _,_ :: _,_,⟨_,_,_,hs,_⟩=>congrArg (· + 1) (uF hs)
theorem Jx {f:Func} {s:ChangeSpec} {tb:TypeId} {W W':World} {args:Array Value} {ds gs:List (DataW H)} {before:List MemPlace}
 (hl:laidOutB P=true) (SM:f.params.toList.all (fun t=>P.readableRec t && decide (t < P.types.size))=true) (Jy:f.resultTypes=#[tb]) (htb:P.underlying tb=some .bool) (hv:s.vars=[])
 (gm:s.fn H (ds ++ gs)={ results:=[.lit (.bool true)],args:=ds })
 (hW:DataW.Whole enc P f.params.toList s.vars false W args.toList ds gs before) (hb:Below W.heap.size W W') :
 s.post enc P f false true false false W args (.bool true) W':=by
 have Qv:=hW
 obtain ⟨p,q,hA,hV,rfl,hz,hn⟩:=hW
 rw[hv] at hV
 obtain ⟨rfl,rfl⟩:=trodVars_none hV
 rw[List.append_nil] at Qv
 refine ⟨ds,[],p,[],p,[],Qv,?_,?_,?_,hb.frame _,fun h=>by cases h⟩
 ·rw[gm,Jy]
  exact trodAll_cons_mk (shut_bool htb _) trodAll_mk0
 ·rw[gm]
  exact pZ hl hb SM hA (fun x hx=>Qv.lt x hx) (fun x hx=>by simpa using Qv.lt x hx)
 ·rw[gm,hv]; rfl
variable {W:World} {base:Nat} {sp:Nat→Bool} {held:Bool}
def ElR {α:Type} (R:α→List Value→Heap→Prop) (m:Nat) (H:Heap) (a:Option Addr) (l:List α):Prop:=
 l=[]∨∃ b o,a=some ⟨b,o,none⟩∧∀ j (h:j < l.length),∃ vs,vs.length=m∧(∀ i,i < m→ct H b (o + j * m + i)=vs[i]?)∧R l[j] vs H
def SlR {α:Type} (R:α→List Value→Heap→Prop) (m:Nat) (l:List α) (cs:List Value) (H:Heap):Prop:=
 ∃ a c,cs=[.slice a l.length c]∧l.length≤c∧c≤maxLen∧ElR R m H a l
theorem FB {α β:Type} {n:Nat} {Q:Nat→α→Prop} (h:∀ i,i < n→∃ a,Q i a):∃ l:List α,l.length=n∧∀ i (hi:i < l.length),Q i l[i]:=by
 induction n with
 | zero=>exact ⟨[],rfl,fun i hi=>by simp at hi⟩
 | succ n ih=>
   obtain ⟨l,h1,h2⟩:=ih (fun i hi=>h i (by omega))
   obtain ⟨a,ha⟩:=h n (by omega)
   refine ⟨l ++ [a],by simp[h1],fun i hi=>?_⟩
   rcases ae8 i l.length with h' | h'
   ·rw[List.getElem_append_left h']; exact h2 i h'
   ·have:i=l.length:=by simp at hi; omega
    subst this
    simp; rw[h1]; exact ha
end
end Gx
namespace Gx
open Go
def M6 (H:Heap) (a:Option Addr) (l:List Value):Prop:=
 l=[]∨∃ b o,a=some ⟨b,o,none⟩∧∀ j (h:j < l.length),ct H b (o + j)=some l[j]
theorem M6.fr {M:List Nat} {H H':Heap} {a:Option Addr} {l:List Value} (h:M6 H a l) (hf:Fr M H H') (hm:∀ b o,a=some ⟨b,o,none⟩→b ∉ M):M6 H' a l:=by
 rcases h with h | ⟨b,o,h1,h2⟩
 ·exact .inl h
 ·exact .inr ⟨b,o,h1,fun j hj=>ab (h2 j hj) hf (hm b o h1)⟩
theorem M6.ext {H H':Heap} {a:Option Addr} {l:List Value} (h:M6 H a l) (hf:Fr [] H H'):M6 H' a l:=h.fr hf (by simp)
section
variable {α:Type} {f:α→List Value} {m:Nat}
def gn (f:α→List Value) (H:Heap) (a:Option Addr) (l:List α):Prop:=M6 H a (l.flatMap f)
theorem gn.fr {M:List Nat} {H H':Heap} {a:Option Addr} {l:List α} (h:gn f H a l) (hf:Fr M H H') (hm:∀ b o,a=some ⟨b,o,none⟩→b ∉ M):gn f H' a l:=M6.fr h hf hm
theorem gn.ext {H H':Heap} {a:Option Addr} {l:List α} (h:gn f H a l) (hf:Fr [] H H'):gn f H' a l:=M6.ext h hf
theorem ru (hm:∀ x,(f x).length=m):∀ l:List α,(l.flatMap f).length=l.length * m
 | []=>by simp
 | x :: l=>by simp[ru hm l,hm,afU,af6]
theorem wc (hm:∀ x,(f x).length=m):∀ (l:List α) (n:Nat),(l.flatMap f).drop (n * m)=(l.drop n).flatMap f
 | [],n=>by simp
 | x :: l,0=>by simp
 | x :: l,n + 1=>by
   rw[afN,afQ,← wc hm l n,agr,afO (by rw[hm,afU]; omega),hm]
   simp[afU]
theorem GW (hm:∀ x,(f x).length=m) (l:List α) (j i:Nat) (hj:j < l.length) (hi:i < m):(l.flatMap f)[j * m + i]?=(f l[j])[i]?:=by
 have h1:=wc hm l j
 have h2:(l.flatMap f)[j * m + i]?=((l.flatMap f).drop (j * m))[i]?:=by simp
 rw[h2,h1,afM hj,afN,List.getElem?_append_left (by rw[hm]; exact hi)]
theorem gn.get {H:Heap} {a:Option Addr} {l:List α} (h:gn f H a l) (hm:∀ x,(f x).length=m) (j:Nat) (hj:j < l.length) (h0:0 < m):∃ b o,a=some ⟨b,o,none⟩∧∀ i,i < m→ct H b (o + j * m + i)=(f l[j])[i]?:=by
 have hlen:=ru hm l
 have hle:(j + 1) * m≤l.length * m:=afZ _ hj
 rcases h with h | ⟨b,o,h1,h2⟩
 ·rw[h] at hlen; simp at hlen; rw[afU] at hle; omega
 ·refine ⟨b,o,h1,fun i hi=>?_⟩
  have ba:j * m + i < (l.flatMap f).length:=by rw[hlen]; rw[afU] at hle; omega
  rw[afY,h2 _ ba,← GW hm l j i hj hi,List.getElem?_eq_getElem ba]
theorem Own.csR {H:Heap} {a:Option Addr} {n c e:Nat} {xs:List Value} {g:Option Nat} (h:Own H e m (.slice a n c) n xs g):M6 H a xs:=by
 rcases h.2 with ⟨h1,h2,h3⟩ | ⟨b,cap,cur,h1,h2,h3,h4,h5,h6,h7⟩
 ·subst h3; refine .inl (afL ?_); have:=h.1; omega
 ·refine .inr ⟨b,0,by simp at h2; exact h2.1,fun j hj=>?_⟩
  subst h1
  rw[afT,h.cell j (by have:=h.1; omega)]
  simp[hj]
theorem Own.z7 {H:Heap} {a:Option Addr} {n c e:Nat} {l:List α} {g:Option Nat} (h:Own H e m (.slice a n c) n (l.flatMap f) g):gn f H a l:=Own.csR h
end
theorem aC {b t:Nat} {l vs:List Value} {H:Heap} {R:Heap→Prop} (h:eg H b t l) (hl:vs.length=l.length) (h1:∀ v ∈ vs,v.oneCell'=true)
 (hR:∀ H',eg H' b t vs→Fr [b] H H'→H'.size=H.size→R H'):Nz H ⟨b,0,none⟩ vs 0 R:=
 z1 vs H l 0 0 h (by omega) h1 fun H' hb hf hs=>hR H' (by
  rw[zZ _ _ _ (by omega)] at hb
  rw[afO (by omega)] at hb
  simpa using hb) hf hs
def CsA (H:Heap) (M:List Nat) (a:Option Addr) (l:List Value):Prop:=
 l=[]∨∃ b o,a=some ⟨b,o,none⟩∧b ∉ M∧∀ j (h:j < l.length),ct H b (o + j)=some l[j]
def nI (H:Heap) (M:List Nat) (H':Heap) (M':List Nat):Prop:=∀ b,b < H.size→b ∉ M→b ∉ M'∧H'[b]?=H[b]?
theorem nI.fr {H H':Heap} {M M':List Nat} (hf:Fr M' H H') (hm:∀ x,x ∈ M'→x ∈ M∨H.size≤x):nI H M H' M:=fun b hb hn=>
 ⟨hn,hf.same b hb fun h=>by rcases hm b h with q | q; exact hn q; omega⟩
theorem nI.ext {H H':Heap} {M:List Nat} (hf:Fr [] H H'):nI H M H' M:=nI.fr hf (by simp)
theorem CsA.to {H H':Heap} {M M':List Nat} {a:Option Addr} {l:List Value} (h:CsA H M a l) (hs:nI H M H' M'):CsA H' M' a l:=by
 rcases h with h | ⟨b,o,h1,h2,h3⟩
 ·exact .inl h
 ·rcases Nat.eq_zero_or_pos l.length with h0 | h0
  ·exact .inl (afL h0)
  ·have ba:=j6 (h3 0 h0)
   obtain ⟨q1,q2⟩:=hs b ba h2
   refine .inr ⟨b,o,h1,q1,fun j hj=>?_⟩
   have:=h3 j hj
   unfold ct at *
   rw[q2]; exact this
inductive iH where
 | v (x:Value)
 | list (m:Nat) (l:List iH)
 | agg (l:List iH)
mutual
def dA (H:Heap) (M:List Nat):iH→List Value→Prop
 | .v x,cs=>cs=[x]
 | .list m l,cs=>∃ a c css,cs=[.slice a l.length c]∧l.length≤c∧c≤maxLen∧cS H M l css∧(∀ x ∈ css,x.length=m)∧CsA H M a css.flatten
 | .agg l,cs=>∃ css,cs=css.flatten∧cS H M l css
def cS (H:Heap) (M:List Nat):List iH→List (List Value)→Prop
 | [],css=>css=[]
 | d :: ds,css=>∃ x xs,css=x :: xs∧dA H M d x∧cS H M ds xs
end
section
variable {H H':Heap} {M M':List Nat} {α:Type}
mutual
theorem dA.to (hs:nI H M H' M'):∀ (d:iH) (cs:List Value),dA H M d cs→dA H' M' d cs
 | .v x,cs,h=>by simpa [dA] using h
 | .list m l,cs,h=>by
   simp only[dA] at h ⊢
   obtain ⟨a,c,css,h1,h2,h3,h4,h5,h6⟩:=h
   exact ⟨a,c,css,h1,h2,h3,cS.to hs l css h4,h5,h6.to hs⟩
 | .agg l,cs,h=>by
   simp only[dA] at h ⊢
   obtain ⟨css,h1,h2⟩:=h
   exact ⟨css,h1,cS.to hs l css h2⟩
theorem cS.to (hs:nI H M H' M'):∀ (l:List iH) (css:List (List Value)),cS H M l css→cS H' M' l css
 | [],css,h=>by simpa [cS] using h
 | d :: ds,css,h=>by
   simp only[cS] at h ⊢
   obtain ⟨x,xs,h1,h2,h3⟩:=h
   exact ⟨x,xs,h1,dA.to hs d x h2,cS.to hs ds xs h3⟩
end
theorem dA.ext {d:iH} {cs:List Value} (h:dA H M d cs) (hf:Fr [] H H'):dA H' M d cs:=dA.to (nI.ext hf) d cs h
theorem dA.stay {d:iH} {cs:List Value} (h:dA H M d cs) (hs:nI H M H' M'):dA H' M' d cs:=dA.to hs d cs h
theorem cS.length:∀ {l:List iH} {css:List (List Value)},cS H M l css→css.length=l.length
 | [],css,h=>by simp only[cS] at h; subst h; rfl
 | d :: ds,css,h=>by
   simp only[cS] at h
   obtain ⟨x,xs,rfl,_,h3⟩:=h
   simp[cS.length h3]
theorem cS.get:∀ {l:List iH} {css:List (List Value)},cS H M l css→∀ (j:Nat) (hj:j < l.length),∃ x,css[j]?=some x∧dA H M l[j] x
 | [],css,h,j,hj=>by simp at hj
 | d :: ds,css,h,j,hj=>by
   simp only[cS] at h
   obtain ⟨x,xs,rfl,h2,h3⟩:=h
   cases j with
   | zero=>exact ⟨x,rfl,h2⟩
   | succ j=>simpa using cS.get h3 j (by simpa using hj)
theorem cS.append:∀ {l l':List iH} {css BH:List (List Value)},cS H M l css→cS H M l' BH→cS H M (l ++ l') (css ++ BH)
 | [],l',css,BH,h,h'=>by simp only[cS] at h; subst h; exact h'
 | d :: ds,l',css,BH,h,h'=>by
   simp only[cS] at h
   obtain ⟨x,xs,rfl,h2,h3⟩:=h
   exact ⟨x,xs ++ BH,rfl,h2,cS.append h3 h'⟩
theorem cS.take:∀ {l:List iH} {css:List (List Value)} (n:Nat),cS H M l css→cS H M (l.take n) (css.take n)
 | [],css,n,h=>by simp only[cS] at h; subst h; simp[cS]
 | d :: ds,css,0,h=>by simp[cS]
 | d :: ds,css,n + 1,h=>by
   simp only[cS] at h
   obtain ⟨x,xs,rfl,h2,h3⟩:=h
   exact ⟨x,xs.take n,rfl,h2,cS.take n h3⟩
theorem cS.drop:∀ {l:List iH} {css:List (List Value)} (n:Nat),cS H M l css→cS H M (l.drop n) (css.drop n)
 | [],css,n,h=>by simp only[cS] at h; subst h; simp[cS]
 | d :: ds,css,0,h=>h
 | d :: ds,css,n + 1,h=>by
   simp only[cS] at h
   obtain ⟨x,xs,rfl,h2,h3⟩:=h
   exact cS.drop n h3
theorem kL {m:Nat}:∀ {css:List (List Value)},(∀ x ∈ css,x.length=m)→css.flatten.length=css.length * m
 | [],_=>by simp
 | x :: css,h=>by
   have:=kL (css:=css) fun y hy=>h y (by simp[hy])
   simp[this,h x (by simp),afU,af6]
theorem rv {m:Nat}:∀ {css:List (List Value)} (n:Nat),(∀ x ∈ css,x.length=m)→css.flatten.take (n * m)=(css.take n).flatten
 | [],n,_=>by simp
 | x :: css,0,h=>by simp
 | x :: css,n + 1,h=>by
   rw[afW,List.take_succ_cons,afW,← rv n (fun y hy=>h y (by simp[hy])),List.take_append,List.take_of_length_le (by rw[h x (by simp),afU]; omega),h x (by simp)]
   simp[afU]
theorem iw {m:Nat}:∀ {css:List (List Value)} (n:Nat),(∀ x ∈ css,x.length=m)→css.flatten.drop (n * m)=(css.drop n).flatten
 | [],n,_=>by simp
 | x :: css,0,h=>by simp
 | x :: css,n + 1,h=>by
   rw[afW,afQ,← iw n (fun y hy=>h y (by simp[hy])),agr,afO (by rw[h x (by simp),afU]; omega),h x (by simp)]
   simp[afU]
theorem dA.at {m:Nat} {l:List iH} {v:Value} (h:dA H M (.list m l) [v]) (j:Nat) (hj:j < l.length) (h0:0 < m) :
 ∃ b o c x,v= .slice (some ⟨b,o,none⟩) l.length c∧b ∉ M∧x.length=m∧(∀ i,i < m→ct H b (o + j * m + i)=x[i]?)∧dA H M l[j] x:=by
 simp only[dA] at h
 obtain ⟨a,c,css,h1,h2,h3,h4,h5,h6⟩:=h
 simp only[afV.injEq,and_true] at h1
 have hlen:=cS.length h4
 obtain ⟨x,hx,hr⟩:=cS.get h4 j hj
 have hxm:x ∈ css:=afR hx
 have NV:=h5 x hxm
 have NW:=kL h5
 have hle:(j + 1) * m≤l.length * m:=afZ _ hj
 rw[afU,Nat.one_mul] at hle
 rcases h6 with h6 | ⟨b,o,h7,h8,h9⟩
 ·rw[h6,hlen] at NW
  simp only[List.length_nil] at NW
  omega
 ·refine ⟨b,o,c,x,by rw[h1,h7],h8,NV,fun i hi=>?_,hr⟩
  have ba:j * m + i < css.flatten.length:=by rw[NW,hlen]; omega
  rw[afY,h9 _ ba,← List.getElem?_eq_getElem ba]
  have e1:css.flatten[j * m + i]?=(css.flatten.drop (j * m))[i]?:=by simp
  have hj':j < css.length:=by omega
  rw[e1,iw j h5,afM hj',afW,List.getElem?_append_left (by
   rw[List.getElem?_eq_getElem hj'] at hx; cases hx; omega)]
  rw[List.getElem?_eq_getElem hj'] at hx; cases hx; rfl
theorem dA.slice {m:Nat} {l:List iH} {v:Value} (h:dA H M (.list m l) [v]):∃ a c,v= .slice a l.length c∧l.length≤c∧c≤maxLen:=by
 simp only[dA] at h
 obtain ⟨a,c,css,h1,h2,h3,_⟩:=h
 simp only[afV.injEq,and_true] at h1
 exact ⟨a,c,h1,h2,h3⟩
theorem dA.nil (m:Nat):dA H M (.list m []) [.slice none 0 0]:=by
 simp only[dA]
 exact ⟨none,0,[],rfl,afJ _,by decide,rfl,by simp,.inl rfl⟩
theorem dA.BI {m:Nat} {l:List iH} {a:Option Addr} {n c:Nat} (h:dA H M (.list m l) [.slice a n c]) {k:Nat} (hk:k≤l.length):dA H M (.list m (l.take k)) [.slice a k c]:=by
 simp only[dA] at h ⊢
 obtain ⟨a',c',css,h1,h2,h3,h4,h5,h6⟩:=h
 simp only[afV.injEq,and_true,Value.slice.injEq] at h1
 obtain ⟨rfl,rfl,rfl⟩:=h1
 refine ⟨a,c,css.take k,by rw[afP,Nat.min_eq_left hk],by rw[afP]; omega,h3,cS.take k h4,fun x hx=>h5 x (List.mem_of_mem_take hx),?_⟩
 rw[← rv k h5]
 rcases h6 with h6 | ⟨b,o,h7,h8,h9⟩
 ·exact .inl (by rw[h6]; simp)
 ·refine .inr ⟨b,o,h7,h8,fun j hj=>?_⟩
  simp only[afP] at hj
  rw[h9 j (by omega)]; simp
def leaf (f:α→List Value) (x:α):iH:=.agg ((f x).map .v)
end
end Gx
namespace Go.Proofs
def Tryz.z8:Go.Shelf.Ren:=⟨fun | 173=>100 | 246=>117 | 283=>131 | 284=>132 | 285=>133 | 286=>134 | 129=>139 | 317=>138 | 318=>140 | 319=>141 | 320=>142 | 337=>149 | 338=>150 | n=>n,fun | 2=>2 | 3=>3 | 9=>9 | 4=>4 | 171=>128 | 0=>0 | 53=>129 | 37=>41 | 5=>5 | 173=>132 | 212=>137 | 51=>138 | 20=>20 | 213=>139 | 46=>141 | 232=>154 | 233=>155 | n=>n,fun | 17=>0 | 18=>3 | 19=>4 | n=>n⟩
theorem Tryz.Jz:Go.Proofs.LaysM.n173 afI Tryz.z8:={
 mixed:=by kernel_rfl
 f129:=agY.trans (congrArg some (by kernel_rfl))
 f173:=Tryz.func100.trans (congrArg some (by kernel_rfl))
 f246:=agZ.trans (congrArg some (by kernel_rfl))
 f283:=ag0.trans (congrArg some (by kernel_rfl))
 f284:=ag1.trans (congrArg some (by kernel_rfl))
 f285:=ag2.trans (congrArg some (by kernel_rfl))
 f286:=ag3.trans (congrArg some (by kernel_rfl))
 f317:=ag4.trans (congrArg some (by kernel_rfl))
 f318:=ag5.trans (congrArg some (by kernel_rfl))
 f319:=ag6.trans (congrArg some (by kernel_rfl))
 f320:=ag7.trans (congrArg some (by kernel_rfl))
 f337:=ag8.trans (congrArg some (by kernel_rfl))
 f338:=ag9.trans (congrArg some (by kernel_rfl))
 t0:=ags
 a0:=Tryz.isAgg0
 z0:=aha
 v0:=agy
 t2:=af7
 a2:=Tryz.isAgg2
 z2:=ahb
 v2:=agz
 t3:=af0
 a3:=Tryz.isAgg3
 z3:=ahc
 v3:=agA
 t4:=agt
 a4:=Tryz.isAgg4
 z4:=ahd
 v4:=agB
 t5:=agu
 a5:=Tryz.isAgg5
 z5:=ahe
 v5:=agC
 t9:=af1
 a9:=Tryz.isAgg9
 z9:=ahf
 v9:=agD
 t20:=agi
 a20:=ahg
 z20:=agN
 v20:=agv
 t37:=af5
 a37:=ahh
 z37:=agO
 v37:=agw
 t46:=af9
 a46:=agP
 z46:=agE
 v46:=agj
 t51:=aga
 a51:=agQ
 z51:=agF
 v51:=agk
 t53:=af2
 a53:=agR
 z53:=agG
 v53:=agl
 t171:=agb
 a171:=agS
 z171:=agH
 v171:=agm
 t173:=agc
 a173:=agT
 z173:=agI
 v173:=agn
 t212:=af3
 a212:=agU
 z212:=agJ
 v212:=ago
 t213:=agd
 a213:=agV
 z213:=agK
 t232:=age
 a232:=agW
 z232:=agL
 v232:=agp
 t233:=agf
 a233:=agX
 z233:=agM
 v233:=agq
 g17:=by kernel_rfl
 g18:=by kernel_rfl
 g19:=by kernel_rfl
 i0:=by kernel_rfl
 i2:=by kernel_rfl
 i3:=by kernel_rfl
 i4:=by kernel_rfl
 i5:=by kernel_rfl
 i9:=by kernel_rfl
 i20:=by kernel_rfl
 i37:=by kernel_rfl
 i46:=by kernel_rfl
 i51:=by kernel_rfl
 i53:=by kernel_rfl
 i171:=by kernel_rfl
 i173:=by kernel_rfl
 i212:=by kernel_rfl
 i232:=by kernel_rfl
 i233:=by kernel_rfl
 m17:=by kernel_rfl
 m18:=by kernel_rfl
 m19:=by kernel_rfl }
open Go.RowKit Go.Sort Go.Lib in
theorem Tryz.strconv_FormatInt_10 (n:Int) (h0:-9223372036854775808≤n) (h1:n≤9223372036854775807) (w:World) (acx:Lib.TabIs afI w "internal/strconv.uint64pow10" .u64 Lib.pow10Tab) :
 Calls afI 100 #[.int .i64 n,.int .i64 10] w fun e w'=>e= .returned (.string ⟨(Lib.itoa n).toArray⟩)∧∃ k os,w'=grow (w.drewN k) os:=Any.strconv_FormatInt_10 Tryz.Jz n h0 h1 w acx
def Tryz.Aa:Go.Shelf.Ren:=⟨fun | 174=>128 | 247=>135 | 245=>136 | 287=>143 | 279=>144 | 280=>145 | 281=>146 | 282=>147 | 321=>151 | 322=>152 | 316=>153 | 171=>155 | 205=>154 | 243=>157 | 246=>117 | 283=>131 | 284=>132 | 285=>133 | 286=>134 | 129=>139 | 317=>138 | 318=>140 | 319=>141 | 320=>142 | 337=>149 | 338=>150 | n=>n,fun | 9=>9 | 3=>3 | 2=>2 | 75=>79 | 85=>125 | 4=>4 | 167=>143 | 5=>5 | 53=>129 | 175=>144 | 46=>141 | 168=>146 | 37=>41 | 0=>0 | 210=>152 | 21=>21 | 127=>102 | 145=>158 | 143=>156 | 171=>128 | 173=>132 | 212=>137 | 51=>138 | 20=>20 | 213=>139 | 232=>154 | 233=>155 | 80=>69 | n=>n,fun | 15=>1 | 16=>2 | 17=>0 | 18=>3 | 19=>4 | n=>n⟩
theorem Tryz.BJ:Go.Proofs.LaysC.n174 afI Tryz.Aa:={
 mixed:=by kernel_rfl
 f129:=agY.trans (congrArg some (by kernel_rfl))
 f171:=Tryz.func155.trans (congrArg some (by kernel_rfl))
 f174:=Tryz.func128.trans (congrArg some (by kernel_rfl))
 f205:=Tryz.func154.trans (congrArg some (by kernel_rfl))
 f243:=Tryz.func157.trans (congrArg some (by kernel_rfl))
 f245:=Tryz.func136.trans (congrArg some (by kernel_rfl))
 f246:=agZ.trans (congrArg some (by kernel_rfl))
 f247:=Tryz.func135.trans (congrArg some (by kernel_rfl))
 f279:=Tryz.func144.trans (congrArg some (by kernel_rfl))
 f280:=Tryz.func145.trans (congrArg some (by kernel_rfl))
 f281:=Tryz.func146.trans (congrArg some (by kernel_rfl))
 f282:=Tryz.func147.trans (congrArg some (by kernel_rfl))
 f283:=ag0.trans (congrArg some (by kernel_rfl))
 f284:=ag1.trans (congrArg some (by kernel_rfl))
 f285:=ag2.trans (congrArg some (by kernel_rfl))
 f286:=ag3.trans (congrArg some (by kernel_rfl))
 f287:=Tryz.func143.trans (congrArg some (by kernel_rfl))
 f316:=Tryz.func153.trans (congrArg some (by kernel_rfl))
 f317:=ag4.trans (congrArg some (by kernel_rfl))
 f318:=ag5.trans (congrArg some (by kernel_rfl))
 f319:=ag6.trans (congrArg some (by kernel_rfl))
 f320:=ag7.trans (congrArg some (by kernel_rfl))
 f321:=Tryz.func151.trans (congrArg some (by kernel_rfl))
 f322:=Tryz.func152.trans (congrArg some (by kernel_rfl))
 f337:=ag8.trans (congrArg some (by kernel_rfl))
 f338:=ag9.trans (congrArg some (by kernel_rfl))
 t0:=ags
 a0:=Tryz.isAgg0
 z0:=aha
 v0:=agy
 t2:=af7
 a2:=Tryz.isAgg2
 z2:=ahb
 v2:=agz
 t3:=af0
 a3:=Tryz.isAgg3
 z3:=ahc
 v3:=agA
 t4:=agt
 a4:=Tryz.isAgg4
 z4:=ahd
 v4:=agB
 t5:=agu
 a5:=Tryz.isAgg5
 z5:=ahe
 v5:=agC
 t9:=af1
 a9:=Tryz.isAgg9
 z9:=ahf
 v9:=agD
 t20:=agi
 a20:=ahg
 z20:=agN
 v20:=agv
 t21:=Tryz.underlying21
 a21:=Tryz.isAgg21
 z21:=Tryz.sizeOf21
 v21:=Tryz.zeroValue21
 t37:=af5
 a37:=ahh
 z37:=agO
 v37:=agw
 t46:=af9
 a46:=agP
 z46:=agE
 v46:=agj
 t51:=aga
 a51:=agQ
 z51:=agF
 v51:=agk
 t53:=af2
 a53:=agR
 z53:=agG
 v53:=agl
 t75:=Tryz.underlying79
 a75:=Tryz.isAgg79
 z75:=Tryz.sizeOf79
 v75:=Tryz.zeroValue79
 t85:=Tryz.underlying125
 a85:=Tryz.isAgg125
 z85:=Tryz.sizeOf125
 v85:=Tryz.zeroValue125
 t127:=Tryz.underlying102
 a127:=Tryz.isAgg102
 z127:=Tryz.sizeOf102
 v127:=Tryz.zeroValue102
 t143:=Tryz.underlying156
 a143:=Tryz.isAgg156
 z143:=Tryz.sizeOf156
 v143:=Tryz.zeroValue156
 t145:=Tryz.underlying158
 a145:=Tryz.isAgg158
 z145:=Tryz.sizeOf158
 v145:=Tryz.zeroValue158
 t167:=Tryz.underlying143
 a167:=Tryz.isAgg143
 z167:=Tryz.sizeOf143
 v167:=Tryz.zeroValue143
 t168:=Tryz.underlying146
 a168:=Tryz.isAgg146
 z168:=Tryz.sizeOf146
 v168:=Tryz.zeroValue146
 t171:=agb
 a171:=agS
 z171:=agH
 v171:=agm
 t173:=agc
 a173:=agT
 z173:=agI
 v173:=agn
 t175:=Tryz.underlying144
 a175:=Tryz.isAgg144
 z175:=Tryz.sizeOf144
 v175:=Tryz.zeroValue144
 t210:=Tryz.underlying152
 a210:=Tryz.isAgg152
 z210:=Tryz.sizeOf152
 v210:=Tryz.zeroValue152
 t212:=af3
 a212:=agU
 z212:=agJ
 v212:=ago
 t213:=agd
 a213:=agV
 z213:=agK
 t232:=age
 a232:=agW
 z232:=agL
 v232:=agp
 t233:=agf
 a233:=agX
 z233:=agM
 v233:=agq
 g15:=by kernel_rfl
 g16:=by kernel_rfl
 g17:=by kernel_rfl
 g18:=by kernel_rfl
 g19:=by kernel_rfl
 t80:=Tryz.underlying69
 a80:=Tryz.isAgg69
 z80:=Tryz.sizeOf69
 v80:=Tryz.zeroValue69
 i0:=by kernel_rfl
 i2:=by kernel_rfl
 i3:=by kernel_rfl
 i4:=by kernel_rfl
 i5:=by kernel_rfl
 i9:=by kernel_rfl
 i20:=by kernel_rfl
 i21:=by kernel_rfl
 i37:=by kernel_rfl
 i46:=by kernel_rfl
 i51:=by kernel_rfl
 i53:=by kernel_rfl
 i75:=by kernel_rfl
 i80:=by kernel_rfl
 i85:=by kernel_rfl
 i127:=by kernel_rfl
 i143:=by kernel_rfl
 i145:=by kernel_rfl
 i167:=by kernel_rfl
 i168:=by kernel_rfl
 i171:=by kernel_rfl
 i173:=by kernel_rfl
 i175:=by kernel_rfl
 i210:=by kernel_rfl
 i212:=by kernel_rfl
 i232:=by kernel_rfl
 i233:=by kernel_rfl
 m15:=by kernel_rfl
 m16:=by kernel_rfl
 m17:=by kernel_rfl
 m18:=by kernel_rfl
 m19:=by kernel_rfl
 c0:=by kernel_rfl
 c2:=by kernel_rfl
 c3:=by kernel_rfl
 c4:=by kernel_rfl
 c5:=by kernel_rfl
 c9:=by kernel_rfl
 c20:=by kernel_rfl
 c21:=by kernel_rfl
 c37:=by kernel_rfl
 c46:=by kernel_rfl
 c51:=by kernel_rfl
 c53:=by kernel_rfl
 c75:=by kernel_rfl
 c80:=by kernel_rfl
 c85:=by kernel_rfl
 c127:=by kernel_rfl
 c143:=by kernel_rfl
 c145:=by kernel_rfl
 c167:=by kernel_rfl
 c168:=by kernel_rfl
 c171:=by kernel_rfl
 c173:=by kernel_rfl
 c175:=by kernel_rfl
 c210:=by kernel_rfl
 c212:=by kernel_rfl
 c213:=by kernel_rfl
 c232:=by kernel_rfl
 c233:=by kernel_rfl }
open Go.RowKit in
theorem Tryz.strconv_ParseInt_10_at64_ok (s:ByteArray) (BK:s.size≤9223372036854775806) (v:Int) (h:af4 64 s.data.toList= .ok v) (w:World) :
 Calls afI 128 #[.string s,.int .i64 10,.int .i64 64] w fun e w'=>e= .returned (.tuple #[.int .i64 v,.nilIface])∧(w'=w∨∃ t,w'=Lib.bytesWorld w 5 t):=Any.strconv_ParseInt_10_at64_ok Tryz.BJ s BK v h w
open Go.RowKit in
theorem Tryz.strconv_ParseInt_10_at64_range (s:ByteArray) (acy:s.size≤281474976710656) (h:af4 64 s.data.toList= .range) (ev:Value) (w:World) (hv:w.cell? ⟨2,0,none⟩=some ev) (hev:ev= .nilIface∨∃ te pe,ev= .iface te pe) :
 Calls afI 128 #[.string s,.int .i64 10,.int .i64 64] w fun e w'=>∃ N,e= .returned (.tuple #[.int .i64 (Lib.intSat 64 s.data.toList),.iface 146 (.pointer (some ⟨N,0,none⟩))])∧w.heap.size≤N∧w'.heap[N]?=some (.cells #[.string ⟨#[80,97,114,115,101,73,110,116]⟩,.string s,ev] 152 (0,0))∧Below w.heap.size w w':=Any.strconv_ParseInt_10_at64_range Tryz.BJ s acy h ev w hv hev
end Go.Proofs
namespace Go.Proofs.YtmhdkbmnpekpoaaGreatDoor
open Gx Go
@[go_sem] def XT:List Nat:=[0,2]
def c27:Gx.Fn:=⟨5,XT,(.seq (.ops [oS 1 (.al 24 [(I 0),(.string ⟨⟨[]⟩⟩),(I 0),(I 0),Z])]) (.seq (.ops [mT S0,oT (.call 28 [T0]),oN (.st 5 S1 T0)]) .ret)),[(.cell S1 (some 5))]⟩
theorem XU:ai afI XT Tryz.f27=some c27:=by kernel_rfl
@[go_sem] def XV:List Nat:=[0,2,3,4,5,8]
def c28:Gx.Fn:=⟨31,XV,(.seq (.ops [oS 1 (.al 24 [(I 0),(.string ⟨⟨[]⟩⟩),(I 0),(I 0),Z])]) (.seq (.seq (.ops [mT S0,oT (.call 54 [T0,(.c (.string ⟨⟨[105,102]⟩⟩))]),oS 5 (.v (.un .not T0))]) (.cond S5 (.seq (.ops [mT S0,oT (.call 55 [T0]),oN (.st 5 S1 T0)]) .ret) .skip)) (.seq (.ops [mT S0,oT (.call 56 [T0,(.c (.string ⟨⟨[105,102]⟩⟩))]),oT (.v (.jA [(I 0),(.string ⟨⟨[]⟩⟩),(I 0),(I 0),Z] [(0,(1,(C 30))),(3,(1,T0))])),oS 2 (.al 24 [(I 0),(.string ⟨⟨[]⟩⟩),(I 0),(I 0),Z]),oN (.st 5 S2 T0)]) (.seq (.ops [mT S0,oT (.call 28 [T0]),oS 3 (.al 24 [(I 0),(.string ⟨⟨[]⟩⟩),(I 0),(I 0),Z]),oN (.st 5 S3 T0)]) (.seq (.ops [mT S0,oT (.call 57 [T0,(.c (.string ⟨⟨[116,104,101,110]⟩⟩))])]) (.seq (.ops [mT S0,oT (.call 28 [T0]),oS 4 (.al 24 [(I 0),(.string ⟨⟨[]⟩⟩),(I 0),(I 0),Z]),oN (.st 5 S4 T0)]) (.seq (.ops [mT S0,oT (.call 57 [T0,(.c (.string ⟨⟨[101,108,115,101]⟩⟩))])]) (.seq (.de (.rd none .t (.ld (some 5) S3) [4,6] (.rd none .t (.ld (some 5) S4) [4,6] (rm S0 [3,4,6] (.ef 3 none .t (.call 28 [T0]) (.ef 4 none .t (.bs 24 3 [(I 0),(.string ⟨⟨[]⟩⟩),(I 0),(I 0),Z,(I 0),(.string ⟨⟨[]⟩⟩),(I 0),(I 0),Z,(I 0),(.string ⟨⟨[]⟩⟩),(I 0),(I 0),Z] [(0,(5,T3)),(5,(5,T2)),(10,(5,T0))]) (rf 4 S2 [6] (.ef 6 none .no (.st 1 T0 T1) .done)))))))) (.seq (.ops [mT S0,oT (.call 58 [T0])]) (.seq (.ops [oT (.ld (some 5) S2),oN (.st 5 S1 T0)]) .ret)))))))))),[(.cell S1 (some 5))]⟩
theorem XW:ai afI XV Tryz.f28=some c28:=by kernel_rfl
@[go_sem] def SN:List Nat:=[0,2,3,8]
def c34:Gx.Fn:=⟨17,SN,(.seq (.ops [oS 1 (.al 24 [(I 0),(.string ⟨⟨[]⟩⟩),(I 0),(I 0),Z])]) (.seq (.ops [oT (.v (.jA [(I 0),(.string ⟨⟨[]⟩⟩),(I 0),(I 0),Z] [(0,(1,(C 1)))])),oS 2 (.al 24 [(I 0),(.string ⟨⟨[]⟩⟩),(I 0),(I 0),Z]),oN (.st 5 S2 T0)]) (.seq (.block 0 (.loop SN (.seq (.seq (.ops [mT S0,oT (.call 35 [T0]),oT (.v (.jW 0 T0)),oS 3 (.v (.bin .neq T0 (C 6)))]) (.cond S3 .skip (.exit 0))) (.block 1 (.de (rf 4 S2 [5,7] (rl T0 [5,7] (rm S0 [3,4,5,7] (.ef 3 none .t (.call 36 [T0]) (.ef 4 none .t (.bs 24 1 [(I 0),(.string ⟨⟨[]⟩⟩),(I 0),(I 0),Z] [(0,(5,T0))]) (.ef 5 none .t (.ap 22 22 T3 T0) (rf 4 S2 [7] (.ef 7 none .no (.st 1 T0 T1) .done))))))))))))) (.seq (.ops [oT (.ld (some 5) S2),oN (.st 5 S1 T0)]) .ret)))),[(.cell S1 (some 5))]⟩
theorem XX:ai afI SN Tryz.f34=some c34:=by kernel_rfl
@[go_sem] def XY:List Nat:=[0,2]
def c35:Gx.Fn:=⟨13,XY,(.seq (.ops [oS 1 (.al 58 [(I 0),(.string ⟨⟨[]⟩⟩),(I 0),(I 0)])]) (.seq (.de (rm S0 [10] (.rd none .t (.v (.nc T0)) [10] (rf 0 T0 [10] (rl T0 [10] (rm S0 [10] (.rd none .t (.v (.nc T0)) [10] (rf 1 T0 [10] (rl T0 [10] (.rd none .t (.v (.ix 4 T4 T0)) [10] (.rd none .t (.ld (some 4) T0) [10] (.ef 10 none .no (.st 4 S1 T0) .done)))))))))))) .ret)),[(.cell S1 (some 4))]⟩
theorem XZ:ai afI XY Tryz.f35=some c35:=by kernel_rfl
@[go_sem] def SO:List Nat:=[0,2,3,4,11,15,19,23,32,38,59,74,82]
@[go_sem] def JA:List pL:=[mT S0,oT (.call 57 [T0,(.c (.string ⟨⟨[40]⟩⟩))])]
@[go_sem] def JB:List pL:=[mT S0,oT (.call 57 [T0,(.c (.string ⟨⟨[61]⟩⟩))])]
abbrev JC:cI:=(.de (rf 4 S2 [5,7] (rl T0 [5,7] (rm S0 [3,4,5,7] (.ef 3 none .t (.call 28 [T0]) (.ef 4 none .t (.bs 24 1 [(I 0),(.string ⟨⟨[]⟩⟩),(I 0),(I 0),Z] [(0,(5,T0))]) (.ef 5 none .t (.ap 22 22 T3 T0) (rf 4 S2 [7] (.ef 7 none .no (.st 1 T0 T1) .done)))))))))
def DR:cI:=(.seq (.ops JB) JC)
theorem JD:U DR (.seq (.ops JB) JC):=fun _ _ _ _ _=>rfl
abbrev JE:cI:=(.seq (.seq (.ops [mT S0,oT (.call 61 [T0,(.c (.string ⟨⟨[41]⟩⟩))]),oT (.v (.un .not T0)),mS 3 T0]) (.block 2 (.loop SO (.seq (.seq (.ops [mS 9 S3]) (.cond S9 .skip (.exit 2))) (.seq (.block 3 (.de (rf 4 S2 [5,7] (rl T0 [5,7] (rm S0 [3,4,5,7] (.ef 3 none .t (.call 64 [T0]) (.ef 4 none .t (.bs 24 1 [(I 0),(.string ⟨⟨[]⟩⟩),(I 0),(I 0),Z] [(0,(5,T0))]) (.ef 5 none .t (.ap 22 22 T3 T0) (rf 4 S2 [7] (.ef 7 none .no (.st 1 T0 T1) .done)))))))))) (.ops [mT S0,oT (.call 63 [T0]),mS 3 T0])))))) (.seq (.ops [mT S0,oT (.call 57 [T0,(.c (.string ⟨⟨[111,110]⟩⟩))])]) (.seq (.de (rf 4 S2 [5,7] (rl T0 [5,7] (rm S0 [3,4,5,7] (.ef 3 none .t (.call 65 [T0,(C 48)]) (.ef 4 none .t (.bs 24 1 [(I 0),(.string ⟨⟨[]⟩⟩),(I 0),(I 0),Z] [(0,(5,T0))]) (.ef 5 none .t (.ap 22 22 T3 T0) (rf 4 S2 [7] (.ef 7 none .no (.st 1 T0 T1) .done))))))))) (.seq (.seq (.ops [fT 0 S2,lT T0,oS 10 (.v (.bin .eql T0 (C 5)))]) (.cond rq (.seq (.ops [mT S0,oT (.call 57 [T0,(.c (.string ⟨⟨[58]⟩⟩))])]) (.ops [mT S0,oT (.call 66 [T0]),fT 2 S2,oN (.st 1 T0 T1)])) .skip)) DR))))
def DS:cI:=(.seq (.ops JA) JE)
theorem JF:U DS (.seq (.ops JA) JE):=fun _ _ _ _ _=>rfl
def c36:Gx.Fn:=⟨93,SO,(.seq (.ops [oS 1 (.al 24 [(I 0),(.string ⟨⟨[]⟩⟩),(I 0),(I 0),Z])]) (.seq (.ops [mT S0,oT (.call 35 [T0]),oT (.v (.jW 3 T0)),oT (.v (.jA [(I 0),(.string ⟨⟨[]⟩⟩),(I 0),(I 0),Z] [(3,(1,T0))])),oS 2 (.al 24 [(I 0),(.string ⟨⟨[]⟩⟩),(I 0),(I 0),Z]),oN (.st 5 S2 T0)]) (.seq (.block 0 (.seq (.ops [mT S0,oT (.call 61 [T0,(.c (.string ⟨⟨[108,97,116,116,105,99,101]⟩⟩))]),mS 4 T0]) (.cond S4 (.ops [fT 0 S2,oN (.st 1 T0 (C 2))]) (.seq (.ops [mT S0,oT (.call 61 [T0,(.c (.string ⟨⟨[111,98,106,101,99,116]⟩⟩))]),mS 5 T0]) (.cond S5 (.ops [fT 0 S2,oN (.st 1 T0 (C 3))]) (.seq (.ops [mT S0,oT (.call 61 [T0,(.c (.string ⟨⟨[117,112,100,97,116,101]⟩⟩))]),mS 6 T0]) (.cond S6 (.ops [fT 0 S2,oN (.st 1 T0 (C 4))]) (.seq (.ops [mT S0,oT (.call 61 [T0,(.c (.string ⟨⟨[113,117,101,114,121]⟩⟩))]),mS 7 T0]) (.cond S7 (.ops [fT 0 S2,oN (.st 1 T0 (C 5))]) (.ops [mT S0,oT (.call 53 [T0,(C 2)])])))))))))) (.seq (.ops [mT S0,oT (.call 62 [T0,(C 1)]),oT (.v (.jW 1 T0)),fT 1 S2,oN (.st 1 T0 T1)]) (.seq (.seq (.ops [fT 0 S2,oS 8 (.ld none T0)]) (.block 1 (.seq (.ops [oT (.v (.bin .eql S8 (C 2))),mS 11 T0]) (.cond u9 (.seq (.ops [mT S0,oT (.call 57 [T0,(.c (.string ⟨⟨[61]⟩⟩))])]) (.ops [mT S0,oT (.call 40 [T0]),oT (.bs 24 1 [(I 0),(.string ⟨⟨[]⟩⟩),(I 0),(I 0),Z] [(0,(5,T0))]),fT 4 S2,oN (.st 1 T0 T1)])) (.seq (.ops [oT (.v (.bin .eql S8 (C 3))),mS 12 T0]) (.cond wb (.seq (.ops [mT S0,oT (.call 57 [T0,(.c (.string ⟨⟨[58]⟩⟩))])]) (.ops [mT S0,oT (.call 40 [T0]),oT (.bs 24 1 [(I 0),(.string ⟨⟨[]⟩⟩),(I 0),(I 0),Z] [(0,(5,T0))]),fT 4 S2,oN (.st 1 T0 T1)])) DS)))))) (.seq (.ops [mT S0,oT (.call 57 [T0,(.c (.string ⟨⟨[59]⟩⟩))])]) (.seq (.ops [oT (.ld (some 5) S2),oN (.st 5 S1 T0)]) .ret))))))),[(.cell S1 (some 5))]⟩
theorem X0:ai afI SO Tryz.f36=some c36:=by kernel_rfl
@[go_sem] def X1:List Nat:=[0,2]
def c39:Gx.Fn:=⟨5,X1,(.seq (.ops [oS 1 (.al 24 [(I 0),(.string ⟨⟨[]⟩⟩),(I 0),(I 0),Z])]) (.seq (.ops [mT S0,oT (.call 40 [T0]),oN (.st 5 S1 T0)]) .ret)),[(.cell S1 (some 5))]⟩
theorem X2:ai afI X1 Tryz.f39=some c39:=by kernel_rfl
@[go_sem] def SQ:List Nat:=[0,2,3,4,5,6,14,20,24,28,35,42,60,69,78,91,97,118]
def c40:Gx.Fn:=⟨126,SQ,(.seq (.ops [oS 1 (.al 24 [(I 0),(.string ⟨⟨[]⟩⟩),(I 0),(I 0),Z])]) (.seq (.ops [mT S0,oT (.call 35 [T0]),oS 2 (.al 58 [(I 0),(.string ⟨⟨[]⟩⟩),(I 0),(I 0)]),oN (.st 4 S2 T0)]) (.seq (.ops [fT 3 S2,lT T0,oT (.v (.jA [(I 0),(.string ⟨⟨[]⟩⟩),(I 0),(I 0),Z] [(3,(1,T0))])),oS 3 (.al 24 [(I 0),(.string ⟨⟨[]⟩⟩),(I 0),(I 0),Z]),oN (.st 5 S3 T0)]) (.seq (.block 0 (.seq (.ops [fT 0 S2,lT T0,oT (.v (.bin .eql T0 (C 1))),mS 6 T0]) (.cond S6 (.seq (.ops [mT S0,oT (.call 65 [T0,(C 21)]),oN (.st 5 S1 T0)]) .ret) (.seq (.ops [mT S0,oT (.call 61 [T0,(.c (.string ⟨⟨[102,108,97,103]⟩⟩))]),mS 7 T0]) (.cond S7 (.ops [fT 0 S3,oN (.st 1 T0 (C 10))]) (.seq (.ops [mT S0,oT (.call 61 [T0,(.c (.string ⟨⟨[114,101,103,105,115,116,101,114]⟩⟩))]),mS 8 T0]) (.cond S8 (.ops [fT 0 S3,oN (.st 1 T0 (C 18))]) (.seq (.ops [mT S0,oT (.call 61 [T0,(.c (.string ⟨⟨[115,101,116]⟩⟩))]),mS 9 T0]) (.cond S9 (.ops [mT S0,oT (.call 71 [T0]),fT 0 S3,oN (.st 1 T0 (C 13)),fT 4 S3,oN (.st 1 T0 T2)]) (.seq (.ops [mT S0,oT (.call 61 [T0,(.c (.string ⟨⟨[102,108,97,116]⟩⟩))]),mS 10 T0]) (.cond rq (.ops [mT S0,oT (.call 71 [T0]),fT 0 S3,oN (.st 1 T0 (C 17)),fT 4 S3,oN (.st 1 T0 T2)]) (.seq (.ops [mT S0,oT (.call 54 [T0,(.c (.string ⟨⟨[109,97,112]⟩⟩))]),mS 11 T0]) (.cond u9 (.seq (.ops [mT S0,oT (.call 56 [T0,(.c (.string ⟨⟨[109,97,112]⟩⟩))])]) (.seq (.ops [mT S0,oT (.call 71 [T0]),fT 0 S3,oN (.st 1 T0 (C 14)),fT 4 S3,oN (.st 1 T0 T2)]) (.seq (.de (rf 4 S3 [5,7] (rl T0 [5,7] (rm S0 [3,4,5,7] (.ef 3 none .t (.call 40 [T0]) (.ef 4 none .t (.bs 24 1 [(I 0),(.string ⟨⟨[]⟩⟩),(I 0),(I 0),Z] [(0,(5,T0))]) (.ef 5 none .t (.ap 22 22 T3 T0) (rf 4 S3 [7] (.ef 7 none .no (.st 1 T0 T1) .done))))))))) (.ops [mT S0,oT (.call 58 [T0])])))) (.seq (.ops [mT S0,oT (.call 61 [T0,(.c (.string ⟨⟨[109,97,120]⟩⟩))]),mS 12 T0]) (.cond wb (.ops [mT S0,mT S0,oT (.v (.Fq 73 [T0] [])),oT (.call 72 [T2,T0]),fT 0 S3,oN (.st 1 T0 (C 11)),fT 4 S3,oN (.st 1 T0 T2)]) (.seq (.ops [mT S0,oT (.call 61 [T0,(.c (.string ⟨⟨[109,105,110]⟩⟩))]),mS 13 T0]) (.cond Dp (.ops [mT S0,mT S0,oT (.v (.Fq 73 [T0] [])),oT (.call 72 [T2,T0]),fT 0 S3,oN (.st 1 T0 (C 12)),fT 4 S3,oN (.st 1 T0 T2)]) (.seq (.ops [mT S0,oT (.call 54 [T0,(.c (.string ⟨⟨[108,101,120]⟩⟩))]),mS 14 T0]) (.cond DQ (.seq (.ops [mT S0,oT (.call 56 [T0,(.c (.string ⟨⟨[108,101,120]⟩⟩))])]) (.seq (.ops [mT S0,mT S0,oT (.v (.Fq 40 [T0] [])),oT (.call 72 [T2,T0]),fT 0 S3,oN (.st 1 T0 (C 16)),fT 4 S3,oN (.st 1 T0 T2)]) (.ops [mT S0,oT (.call 58 [T0])]))) (.seq (.ops [mT S0,oT (.call 54 [T0,(.c (.string ⟨⟨[123]⟩⟩))]),mS 15 T0]) (.cond M0 (.seq (.ops [mT S0,oT (.call 56 [T0,(.c (.string ⟨⟨[123]⟩⟩))])]) (.seq (.ops [fT 0 S3,oN (.st 1 T0 (C 15))]) (.seq (.seq (.ops [mS 4 (.c (.bool true))]) (.block 1 (.loop SQ (.seq (.seq (.ops [mS 16 S4]) (.cond NU .skip (.exit 1))) (.seq (.block 2 (.seq (.ops [mT S0,oT (.call 65 [T0,(C 22)]),oS 5 (.al 24 [(I 0),(.string ⟨⟨[]⟩⟩),(I 0),(I 0),Z]),oN (.st 5 S5 T0)]) (.seq (.ops [mT S0,oT (.call 57 [T0,(.c (.string ⟨⟨[58]⟩⟩))])]) (.seq (.ops [mT S0,oT (.call 40 [T0]),oT (.bs 24 1 [(I 0),(.string ⟨⟨[]⟩⟩),(I 0),(I 0),Z] [(0,(5,T0))]),fT 4 S5,oN (.st 1 T0 T1)]) (.ops [fT 4 S3,lT T0,oT (.ld (some 5) S5),oT (.bs 24 1 [(I 0),(.string ⟨⟨[]⟩⟩),(I 0),(I 0),Z] [(0,(5,T0))]),oT (.ap 22 22 T2 T0),fT 4 S3,oN (.st 1 T0 T1)]))))) (.ops [mT S0,oT (.call 61 [T0,(.c (.string ⟨⟨[44]⟩⟩))]),mS 4 T0])))))) (.seq (.ops [mT S0,oT (.call 57 [T0,(.c (.string ⟨⟨[125]⟩⟩))])]) (.ops [mT S0,oT (.call 58 [T0])]))))) (.seq (.ops [mT S0,oT (.call 61 [T0,(.c (.string ⟨⟨[99,108,111,115,101,100]⟩⟩))]),mS 17 T0]) (.cond Qh (.ops [mT S0,oT (.call 74 [T0]),fT 0 S3,oN (.st 1 T0 (C 19)),fT 4 S3,oN (.st 1 T0 T2)]) (.ops [mT S0,oT (.call 53 [T0,(C 2)])])))))))))))))))))))))))) (.seq (.ops [oT (.ld (some 5) S3),oN (.st 5 S1 T0)]) .ret))))),[(.cell S1 (some 5))]⟩
theorem X3:ai afI SQ Tryz.f40=some c40:=by kernel_rfl
@[go_sem] def X4:List Nat:=[0,1]
def c53:Gx.Fn:=⟨10,X4,(.ops [mT S1,mT S0,oT (.call 35 [T0]),oT (.v (.jW 3 T0)),oT (.v (.jA [(I 0),(I 0)] [(0,(1,T3)),(1,(1,T0))])),oT (.v (.WJ 31 T0)),oN (.VM T0)]),[]⟩
theorem X5:ai afI X4 Tryz.f53=some c53:=by kernel_rfl
@[go_sem] def X6:List Nat:=[0,1,4,5]
def c54:Gx.Fn:=⟨22,X6,(.seq (.ops [mS 2 (.c (.bool false))]) (.seq (.ops [mT S0,oT (.call 35 [T0]),oS 3 (.al 58 [(I 0),(.string ⟨⟨[]⟩⟩),(I 0),(I 0)]),oN (.st 4 S3 T0)]) (.seq (.ops [fT 0 S3,lT T0,oT (.v (.bin .eql T0 (C 2))),mT T0,(.eO T0 false [(.op (.v (.fa 0 S3))),(.op (.ld none T0)),(.op (.v (.bin .eql T0 (C 5))))] .t (.c (.bool true)) T0),mT T0,(.eO T0 true [(.op (.v (.fa 1 S3))),(.op (.ld none T0)),(.op (.v (.mv S1))),(.op (.v (.bin .eql T1 T0)))] .t T0 (.c (.bool false))),mS 2 T0]) .ret))),[(.tmp S2)]⟩
theorem X7:ai afI X6 Tryz.f54=some c54:=by kernel_rfl
@[go_sem] def X8:List Nat:=[0,2]
def c55:Gx.Fn:=⟨9,X8,(.seq (.ops [oS 1 (.al 24 [(I 0),(.string ⟨⟨[]⟩⟩),(I 0),(I 0),Z])]) (.seq (.ops [mT S0,mT S0,oT (.v (.Fq 97 [T0] [])),oT .mm,oN (.ins T0 (.c (.string ⟨⟨[111,114]⟩⟩)) (C 31)),mT T0,oT (.call 96 [T4,T2,T0]),oN (.st 5 S1 T0)]) .ret)),[(.cell S1 (some 5))]⟩
theorem X9:ai afI X8 Tryz.f55=some c55:=by kernel_rfl
@[go_sem] def Ya:List Nat:=[0,1,4,5,15]
def c56:Gx.Fn:=⟨29,Ya,(.seq (.ops [mS 2 (C 0)]) (.seq (.seq (.ops [mT S0,mT S1,oT (.call 54 [T1,T0]),mT T0,(.eO T0 true [(.op (.v (.mv S0))),(.op (.v (.nc T0))),(.op (.v (.fa 2 T0))),(.op (.ld none T0)),(.op (.v (.bin .eql T0 (C 64))))] (.s 4) T0 (.c (.bool false)))]) (.cond S4 (.ops [mT S0,oT (.call 53 [T0,(C 6)])]) .skip)) (.seq (.ops [mT S0,mT S1,oT (.call 57 [T1,T0]),mS 3 T0]) (.seq (.ops [mT S0,oT (.v (.nc T0)),fT 2 T0,lT T0,oT (.v (.bin .add T0 (C 1))),oT (.v (.nc T4)),fT 2 T0,oN (.st 1 T0 T2)]) (.seq (.ops [mT S3,mS 2 T0]) .ret))))),[(.tmp S2)]⟩
theorem Qw:ai afI Ya Tryz.f56=some c56:=by kernel_rfl
@[go_sem] def Yb:List Nat:=[0,1,4,5,12]
def c57:Gx.Fn:=⟨16,Yb,(.seq (.ops [mS 2 (C 0)]) (.seq (.ops [mT S0,oT (.call 35 [T0]),oT (.v (.jW 3 T0)),mS 3 T0]) (.seq (.seq (.ops [mT S0,mT S1,oT (.call 61 [T1,T0]),oS 4 (.v (.un .not T0))]) (.cond S4 (.ops [mT S0,oT (.call 53 [T0,(C 2)])]) .skip)) (.seq (.ops [mT S3,mS 2 T0]) .ret)))),[(.tmp S2)]⟩
theorem Yc:ai afI Yb Tryz.f57=some c57:=by kernel_rfl
@[go_sem] def Yd:List Nat:=[0]
def c58:Gx.Fn:=⟨9,Yd,(.ops [mT S0,oT (.v (.nc T0)),fT 2 T0,lT T0,oT (.v (.bin .sub T0 (C 1))),oT (.v (.nc T4)),fT 2 T0,oN (.st 1 T0 T2)]),[]⟩
theorem Ye:ai afI Yd Tryz.f58=some c58:=by kernel_rfl
@[go_sem] def Yf:List Nat:=[0,1,4,8]
def c61:Gx.Fn:=⟨16,Yf,(.seq (.ops [mS 2 (.c (.bool false))]) (.seq (.seq (.ops [mT S0,mT S1,oT (.call 54 [T1,T0]),oS 3 (.v (.un .not T0))]) (.cond S3 (.seq (.ops [mS 2 (.c (.bool false))]) .ret) .skip)) (.seq (.ops [mT S0,oT (.v (.nc T0)),fT 1 T0,lT T0,oT (.v (.bin .add T0 (C 1))),oT (.v (.nc T4)),fT 1 T0,oN (.st 1 T0 T2)]) (.seq (.ops [mS 2 (.c (.bool true))]) .ret)))),[(.tmp S2)]⟩
theorem Yg:ai afI Yf Tryz.f61=some c61:=by kernel_rfl
@[go_sem] def Yh:List Nat:=[0,1,4,5,11]
def c62:Gx.Fn:=⟨22,Yh,(.seq (.ops [oS 2 (.al 58 [(I 0),(.string ⟨⟨[]⟩⟩),(I 0),(I 0)])]) (.seq (.ops [mT S0,oT (.call 35 [T0]),oS 3 (.al 58 [(I 0),(.string ⟨⟨[]⟩⟩),(I 0),(I 0)]),oN (.st 4 S3 T0)]) (.seq (.seq (.ops [fT 0 S3,lT T0,mT S1,oS 4 (.v (.bin .neq T1 T0))]) (.cond S4 (.ops [mT S0,oT (.call 53 [T0,(C 2)])]) .skip)) (.seq (.ops [mT S0,oT (.v (.nc T0)),fT 1 T0,lT T0,oT (.v (.bin .add T0 (C 1))),oT (.v (.nc T4)),fT 1 T0,oN (.st 1 T0 T2)]) (.seq (.ops [oT (.ld (some 4) S3),oN (.st 4 S2 T0)]) .ret))))),[(.cell S2 (some 4))]⟩
theorem Yi:ai afI Yh Tryz.f62=some c62:=by kernel_rfl
@[go_sem] def Yj:List Nat:=[0,2,4]
def c63:Gx.Fn:=⟨7,Yj,(.seq (.ops [mS 1 (.c (.bool false))]) (.seq (.seq (.ops [mT S0,oS 2 (.call 61 [T0,(.c (.string ⟨⟨[44]⟩⟩))])]) (.cond S2 (.seq (.ops [mS 1 (.c (.bool true))]) .ret) .skip)) (.seq (.ops [mT S0,oT (.call 57 [T0,(.c (.string ⟨⟨[41]⟩⟩))])]) (.seq (.ops [mS 1 (.c (.bool false))]) .ret)))),[(.tmp S1)]⟩
theorem Yk:ai afI Yj Tryz.f63=some c63:=by kernel_rfl
@[go_sem] def Yl:List Nat:=[0,2,3]
def c64:Gx.Fn:=⟨12,Yl,(.seq (.ops [oS 1 (.al 24 [(I 0),(.string ⟨⟨[]⟩⟩),(I 0),(I 0),Z])]) (.seq (.ops [mT S0,oT (.call 65 [T0,(C 6)]),oS 2 (.al 24 [(I 0),(.string ⟨⟨[]⟩⟩),(I 0),(I 0),Z]),oN (.st 5 S2 T0)]) (.seq (.ops [mT S0,oT (.call 57 [T0,(.c (.string ⟨⟨[58]⟩⟩))])]) (.seq (.ops [mT S0,oT (.call 66 [T0]),fT 2 S2,oN (.st 1 T0 T1)]) (.seq (.ops [oT (.ld (some 5) S2),oN (.st 5 S1 T0)]) .ret))))),[(.cell S1 (some 5))]⟩
theorem Ym:ai afI Yl Tryz.f64=some c64:=by kernel_rfl
@[go_sem] def Yn:List Nat:=[0,1,4,5]
def c65:Gx.Fn:=⟨14,Yn,(.seq (.ops [oS 2 (.al 24 [(I 0),(.string ⟨⟨[]⟩⟩),(I 0),(I 0),Z])]) (.seq (.ops [mT S0,oT (.call 62 [T0,(C 1)]),oS 3 (.al 58 [(I 0),(.string ⟨⟨[]⟩⟩),(I 0),(I 0)]),oN (.st 4 S3 T0)]) (.seq (.ops [mT S1,fT 1 S3,lT T0,fT 3 S3,lT T0,oT (.v (.jA [(I 0),(.string ⟨⟨[]⟩⟩),(I 0),(I 0),Z] [(0,(1,T4)),(1,(1,T2)),(3,(1,T0))])),oN (.st 5 S2 T0)]) .ret))),[(.cell S2 (some 5))]⟩
theorem Yo:ai afI Yn Tryz.f65=some c65:=by kernel_rfl
@[go_sem] def SR:List Nat:=[0,2,3,4,5,6,7,8,14]
def c66:Gx.Fn:=⟨20,SR,(.seq (.ops [mS 1 (C 0)]) (.seq (.seq (.ops [oS 4 (.bs 9 4 [(.string ⟨⟨[]⟩⟩),(.string ⟨⟨[]⟩⟩),(.string ⟨⟨[]⟩⟩),(.string ⟨⟨[]⟩⟩)] [(0,(1,(.c (.string ⟨⟨[105,110,116]⟩⟩)))),(1,(1,(.c (.string ⟨⟨[98,111,111,108]⟩⟩)))),(2,(1,(.c (.string ⟨⟨[110,97,109,101]⟩⟩)))),(3,(1,(.c (.string ⟨⟨[110,97,109,101,115]⟩⟩))))]),oS 5 (.v (.len S4)),mS 6 (C 0)]) (.block 0 (.loop SR (.seq (.ops [oS 7 (.v (.bin .lss S6 S5))]) (.seq (.cond S7 .skip (.exit 0)) (.seq (.block 1 (.seq (.ops [mT S6,oT (.v (.ix 1 S4 S6)),lT T0,mS 2 T2,mS 3 T0]) (.seq (.ops [mT S0,mT S3,oS 8 (.call 61 [T1,T0])]) (.cond S8 (.seq (.ops [mT S2,oT (.v (.bin .add T0 (C 1))),mS 1 T0]) .ret) .skip)))) (.ops [oT (.v (.bin .add S6 (C 1))),mS 6 T0]))))))) (.seq (.ops [mT S0,oT (.call 53 [T0,(C 2)])]) (.seq (.ops [mS 1 (C 0)]) .ret)))),[(.tmp S1)]⟩
theorem Yp:ai afI SR Tryz.f66=some c66:=by kernel_rfl
@[go_sem] def Yq:List Nat:=[0,2,3,6]
def c71:Gx.Fn:=⟨12,Yq,(.seq (.ops [mS 1 (.c Z)]) (.seq (.seq (.ops [mT S0,oT (.call 61 [T0,(.c (.string ⟨⟨[40]⟩⟩))]),oS 3 (.v (.un .not T0))]) (.cond S3 (.seq (.ops [mS 1 (.c Z)]) .ret) .skip)) (.seq (.ops [mT S0,oT (.call 102 [T0]),mS 2 T0]) (.seq (.ops [mT S0,oT (.call 57 [T0,(.c (.string ⟨⟨[41]⟩⟩))])]) (.seq (.ops [mT S2,mS 1 T0]) .ret))))),[(.tmp S1)]⟩
theorem Yr:ai afI Yq Tryz.f71=some c71:=by kernel_rfl
@[go_sem] def Ys:List Nat:=[0,1,4,5,6]
def c72:Gx.Fn:=⟨20,Ys,(.seq (.ops [mS 2 (.c Z)]) (.seq (.ops [mT S0,oT (.call 57 [T0,(.c (.string ⟨⟨[40]⟩⟩))])]) (.seq (.ops [mT S1,oT (.cv T0 []),oS 3 (.al 24 [(I 0),(.string ⟨⟨[]⟩⟩),(I 0),(I 0),Z]),oN (.st 5 S3 T0)]) (.seq (.ops [mT S0,oT (.call 57 [T0,(.c (.string ⟨⟨[44]⟩⟩))])]) (.seq (.ops [mT S1,oT (.cv T0 []),oS 4 (.al 24 [(I 0),(.string ⟨⟨[]⟩⟩),(I 0),(I 0),Z]),oN (.st 5 S4 T0)]) (.seq (.ops [mT S0,oT (.call 57 [T0,(.c (.string ⟨⟨[41]⟩⟩))])]) (.seq (.ops [oT (.ld (some 5) S3),oT (.ld (some 5) S4),oT (.bs 24 2 [(I 0),(.string ⟨⟨[]⟩⟩),(I 0),(I 0),Z,(I 0),(.string ⟨⟨[]⟩⟩),(I 0),(I 0),Z] [(0,(5,T1)),(5,(5,T0))]),mS 2 T0]) .ret))))))),[(.tmp S2)]⟩
theorem Yt:ai afI Ys Tryz.f72=some c72:=by kernel_rfl
@[go_sem] def Yu:List Nat:=[0,2,3,9]
def c73:Gx.Fn:=⟨21,Yu,(.seq (.ops [oS 1 (.al 24 [(I 0),(.string ⟨⟨[]⟩⟩),(I 0),(I 0),Z])]) (.seq (.ops [mT S0,oT (.call 35 [T0]),oT (.v (.jW 3 T0)),oT (.v (.jA [(I 0),(.string ⟨⟨[]⟩⟩),(I 0),(I 0),Z] [(0,(1,(C 44))),(3,(1,T0))])),oS 2 (.al 24 [(I 0),(.string ⟨⟨[]⟩⟩),(I 0),(I 0),Z]),oN (.st 5 S2 T0)]) (.seq (.seq (.ops [mT S0,oS 3 (.call 61 [T0,(.c (.string ⟨⟨[45]⟩⟩))])]) (.cond S3 (.seq (.ops [mT S0,oT (.call 62 [T0,(C 3)]),oT (.v (.jW 2 T0)),oT (.v (.un .neg T0)),fT 2 S2,oN (.st 1 T0 T1)]) (.seq (.ops [oT (.ld (some 5) S2),oN (.st 5 S1 T0)]) .ret)) .skip)) (.seq (.ops [mT S0,oT (.call 62 [T0,(C 3)]),oT (.v (.jW 2 T0)),fT 2 S2,oN (.st 1 T0 T1)]) (.seq (.ops [oT (.ld (some 5) S2),oN (.st 5 S1 T0)]) .ret))))),[(.cell S1 (some 5))]⟩
theorem Yv:ai afI Yu Tryz.f73=some c73:=by kernel_rfl
@[go_sem] def NX:List Nat:=[0,2,3,4,10,14,22]
@[go_sem] def JG:List pL:=[mT S0,oT (.call 57 [T0,(.c (.string ⟨⟨[61,62]⟩⟩))])]
abbrev JH:cI:=(.seq (.de (rf 4 S3 [5,7] (rl T0 [5,7] (rm S0 [3,4,5,7] (.ef 3 none .t (.call 103 [T0]) (.ef 4 none .t (.bs 24 1 [(I 0),(.string ⟨⟨[]⟩⟩),(I 0),(I 0),Z] [(0,(5,T0))]) (.ef 5 none .t (.ap 22 22 T3 T0) (rf 4 S3 [7] (.ef 7 none .no (.st 1 T0 T1) .done))))))))) (.ops [mT S2,oT (.ld (some 5) S3),oT (.bs 24 1 [(I 0),(.string ⟨⟨[]⟩⟩),(I 0),(I 0),Z] [(0,(5,T0))]),oT (.ap 22 22 T2 T0),mS 2 T0]))
def DU:cI:=(.seq (.ops JG) JH)
theorem JI:U DU (.seq (.ops JG) JH):=fun _ _ _ _ _=>rfl
abbrev JJ:cI:=(.seq (.seq (.ops [mT S0,oS 5 (.call 61 [T0,(.c (.string ⟨⟨[59]⟩⟩))])]) (.cond S5 .skip (.exit 0))) (.block 1 (.seq (.ops [mT S0,oT (.call 35 [T0]),oT (.v (.jW 3 T0)),oT (.v (.jA [(I 0),(.string ⟨⟨[]⟩⟩),(I 0),(I 0),Z] [(0,(1,(C 20))),(3,(1,T0))])),oS 3 (.al 24 [(I 0),(.string ⟨⟨[]⟩⟩),(I 0),(I 0),Z]),oN (.st 5 S3 T0)]) (.seq (.seq (.ops [mT S0,oT (.call 35 [T0]),oT (.v (.jW 0 T0)),oS 6 (.v (.bin .eql T0 (C 4)))]) (.cond S6 (.ops [mT S0,oT (.call 102 [T0]),fT 4 S3,oN (.st 1 T0 T1)]) .skip)) DU))))
abbrev JK:cI:=(.seq (.ops [mT S0,oT (.call 57 [T0,(.c (.string ⟨⟨[41]⟩⟩))])]) (.seq (.ops [mT S2,mS 1 T0]) .ret))
def DV:cI:=(.seq (.block 0 (.loop NX JJ)) JK)
theorem JL:U DV (.seq (.block 0 (.loop NX JJ)) JK):=fun _ _ _ _ _=>rfl
def c74:Gx.Fn:=⟨42,NX,(.seq (.ops [mS 1 (.c Z)]) (.seq (.ops [mS 2 (.c Z)]) (.seq (.ops [mT S0,oT (.call 57 [T0,(.c (.string ⟨⟨[40]⟩⟩))])]) (.seq (.seq (.ops [mT S0,oT (.call 35 [T0]),oT (.v (.jW 0 T0)),oS 4 (.v (.bin .eql T0 (C 4)))]) (.cond S4 (.ops [mT S0,oT (.call 102 [T0]),mS 2 T0]) .skip)) DV)))),[(.tmp S1)]⟩
theorem Yw:ai afI NX Tryz.f74=some c74:=by kernel_rfl
@[go_sem] def SS:List Nat:=[0,1,2,6,7,8,9,26]
def c96:Gx.Fn:=⟨36,SS,(.seq (.ops [oS 3 (.al 24 [(I 0),(.string ⟨⟨[]⟩⟩),(I 0),(I 0),Z])]) (.seq (.ops [mT S1,oT (.cv T0 []),oS 4 (.al 24 [(I 0),(.string ⟨⟨[]⟩⟩),(I 0),(I 0),Z]),oN (.st 5 S4 T0)]) (.block 0 (.loop SS (.block 1 (.seq (.ops [mT S0,oT (.call 35 [T0]),oS 5 (.al 58 [(I 0),(.string ⟨⟨[]⟩⟩),(I 0),(I 0)]),oN (.st 4 S5 T0)]) (.seq (.ops [mT S2,fT 1 S5,lT T0,oT (.RT (I 0) T2 T0),mS 6 T0]) (.seq (.seq (.ops [mT S6,oT (.v (.bin .eql T0 (C 0))),mT T0,(.op (some (T0,(false,true))) .t (.v (.mv S0))),(.op (some (T1,(false,false))) .t (.v (.fa 1 S5))),(.op (some (T2,(false,false))) .t (.ld none T0)),(.op (some (T3,(false,false))) .t (.call 61 [T2,T0])),(.op (some (T4,(false,false))) .t (.v (.un .not T0))),oS 7 (.v (.pick T5 (.c (.bool true)) T0))]) (.cond S7 (.seq (.ops [oT (.ld (some 5) S4),oN (.st 5 S3 T0)]) .ret) .skip)) (.de (rm S6 [8] (rf 3 S5 [8] (rl T0 [8] (.rd none .t (.ld (some 5) S4) [6,8] (rm S1 [5,6,8] (.ef 5 none .t (.cv T0 []) (.ef 6 none .t (.bs 24 2 [(I 0),(.string ⟨⟨[]⟩⟩),(I 0),(I 0),Z,(I 0),(.string ⟨⟨[]⟩⟩),(I 0),(I 0),Z] [(0,(5,T2)),(5,(5,T0))]) (.rd none .t (.v (.jA [(I 0),(.string ⟨⟨[]⟩⟩),(I 0),(I 0),Z] [(0,(1,T6)),(3,(1,T4)),(4,(1,T0))])) [8] (.ef 8 none .no (.st 5 S4 T0) .done)))))))))))))))))),[(.cell S3 (some 5))]⟩
theorem Yx:ai afI SS Tryz.f96=some c96:=by kernel_rfl
@[go_sem] def Yy:List Nat:=[0,2]
def c97:Gx.Fn:=⟨9,Yy,(.seq (.ops [oS 1 (.al 24 [(I 0),(.string ⟨⟨[]⟩⟩),(I 0),(I 0),Z])]) (.seq (.ops [mT S0,mT S0,oT (.v (.Fq 115 [T0] [])),oT .mm,oN (.ins T0 (.c (.string ⟨⟨[97,110,100]⟩⟩)) (C 32)),mT T0,oT (.call 96 [T4,T2,T0]),oN (.st 5 S1 T0)]) .ret)),[(.cell S1 (some 5))]⟩
theorem Yz:ai afI Yy Tryz.f97=some c97:=by kernel_rfl
@[go_sem] def JM:List Nat:=[0,2,3,8]
def YA:Gx.Fn:=⟨15,JM,(.seq (.ops [mS 1 (.c Z)]) (.seq (.ops [mT S0,oT (.call 103 [T0]),oT (.bs 24 1 [(I 0),(.string ⟨⟨[]⟩⟩),(I 0),(I 0),Z] [(0,(5,T0))]),mS 2 T0]) (.seq (.block 0 (.loop JM (.seq (.seq (.ops [mT S0,oS 3 (.call 61 [T0,(.c (.string ⟨⟨[44]⟩⟩))])]) (.cond S3 .skip (.exit 0))) (.block 1 (.ops [mT S2,mT S0,oT (.call 103 [T0]),oT (.bs 24 1 [(I 0),(.string ⟨⟨[]⟩⟩),(I 0),(I 0),Z] [(0,(5,T0))]),oT (.ap 22 22 T3 T0),mS 2 T0]))))) (.seq (.ops [mT S2,mS 1 T0]) .ret)))),[(.tmp S1)]⟩
theorem SU:ai afI JM Tryz.f102=some YA:=by kernel_rfl
@[go_sem] def Qx:List Nat:=[0,2,3]
def YB:Gx.Fn:=⟨11,Qx,(.seq (.ops [oS 1 (.al 24 [(I 0),(.string ⟨⟨[]⟩⟩),(I 0),(I 0),Z])]) (.seq (.ops [mT S0,oT (.call 62 [T0,(C 4)]),oS 2 (.al 58 [(I 0),(.string ⟨⟨[]⟩⟩),(I 0),(I 0)]),oN (.st 4 S2 T0)]) (.seq (.ops [fT 1 S2,lT T0,fT 3 S2,lT T0,oT (.v (.jA [(I 0),(.string ⟨⟨[]⟩⟩),(I 0),(I 0),Z] [(0,(1,(C 47))),(1,(1,T2)),(3,(1,T0))])),oN (.st 5 S1 T0)]) .ret))),[(.cell S1 (some 5))]⟩
theorem SV:ai afI Qx Tryz.f103=some YB:=by kernel_rfl
@[go_sem] def Qy:List Nat:=[0,2,3,6]
def YC:Gx.Fn:=⟨19,Qy,(.seq (.ops [oS 1 (.al 24 [(I 0),(.string ⟨⟨[]⟩⟩),(I 0),(I 0),Z])]) (.seq (.seq (.ops [mT S0,oT (.call 54 [T0,(.c (.string ⟨⟨[110,111,116]⟩⟩))]),oS 3 (.v (.un .not T0))]) (.cond S3 (.seq (.ops [mT S0,oT (.call 130 [T0]),oN (.st 5 S1 T0)]) .ret) .skip)) (.seq (.ops [mT S0,oT (.call 56 [T0,(.c (.string ⟨⟨[110,111,116]⟩⟩))]),oT (.v (.jA [(I 0),(.string ⟨⟨[]⟩⟩),(I 0),(I 0),Z] [(0,(1,(C 33))),(3,(1,T0))])),oS 2 (.al 24 [(I 0),(.string ⟨⟨[]⟩⟩),(I 0),(I 0),Z]),oN (.st 5 S2 T0)]) (.seq (.ops [mT S0,oT (.call 115 [T0]),oT (.bs 24 1 [(I 0),(.string ⟨⟨[]⟩⟩),(I 0),(I 0),Z] [(0,(5,T0))]),fT 4 S2,oN (.st 1 T0 T1)]) (.seq (.ops [mT S0,oT (.call 58 [T0])]) (.seq (.ops [oT (.ld (some 5) S2),oN (.st 5 S1 T0)]) .ret)))))),[(.cell S1 (some 5))]⟩
theorem SW:ai afI Qy Tryz.f115=some YC:=by kernel_rfl
@[go_sem] def Qz:List Nat:=[0,2,3,4,5,6,24]
def c130:Gx.Fn:=⟨34,Qz,(.seq (.ops [oS 1 (.al 24 [(I 0),(.string ⟨⟨[]⟩⟩),(I 0),(I 0),Z])]) (.seq (.ops [mT S0,oT (.call 137 [T0]),oS 2 (.al 24 [(I 0),(.string ⟨⟨[]⟩⟩),(I 0),(I 0),Z]),oN (.st 5 S2 T0)]) (.seq (.ops [oT .mm,oN (.ins T0 (.c (.string ⟨⟨[60,61]⟩⟩)) (C 34)),oN (.ins T0 (.c (.string ⟨⟨[60]⟩⟩)) (C 35)),oN (.ins T0 (.c (.string ⟨⟨[61,61]⟩⟩)) (C 36)),oN (.ins T0 (.c (.string ⟨⟨[105,110]⟩⟩)) (C 37)),oN (.ins T0 (.c (.string ⟨⟨[108,101,113]⟩⟩)) (C 38)),mT T0,mS 3 T0]) (.seq (.ops [mT S0,oT (.call 35 [T0]),oS 4 (.al 58 [(I 0),(.string ⟨⟨[]⟩⟩),(I 0),(I 0)]),oN (.st 4 S4 T0)]) (.seq (.seq (.ops [mT S3,fT 1 S4,lT T0,oT (.RT (I 0) T2 T0),mS 5 T0]) (.seq (.ops [mT S5,oT (.v (.bin .neq T0 (C 0))),mT T0,(.op (some (T0,(true,true))) .t (.v (.mv S0))),(.op (some (T1,(true,false))) .t (.v (.fa 1 S4))),(.op (some (T2,(true,false))) .t (.ld none T0)),(.op (some (T3,(true,false))) .t (.call 61 [T2,T0])),oS 6 (.v (.pick T4 T0 (.c (.bool false))))]) (.cond S6 (.seq (.de (rm S5 [8] (rf 3 S4 [8] (rl T0 [8] (.rd none .t (.ld (some 5) S2) [6,8] (rm S0 [5,6,8] (.ef 5 none .t (.call 137 [T0]) (.ef 6 none .t (.bs 24 2 [(I 0),(.string ⟨⟨[]⟩⟩),(I 0),(I 0),Z,(I 0),(.string ⟨⟨[]⟩⟩),(I 0),(I 0),Z] [(0,(5,T2)),(5,(5,T0))]) (.rd none .t (.v (.jA [(I 0),(.string ⟨⟨[]⟩⟩),(I 0),(I 0),Z] [(0,(1,T6)),(3,(1,T4)),(4,(1,T0))])) [8] (.ef 8 none .no (.st 5 S1 T0) .done)))))))))) .ret) .skip))) (.seq (.ops [oT (.ld (some 5) S2),oN (.st 5 S1 T0)]) .ret)))))),[(.cell S1 (some 5))]⟩
theorem SX:ai afI Qz Tryz.f130=some c130:=by kernel_rfl
@[go_sem] def QA:List Nat:=[0,2]
def YD:Gx.Fn:=⟨9,QA,(.seq (.ops [oS 1 (.al 24 [(I 0),(.string ⟨⟨[]⟩⟩),(I 0),(I 0),Z])]) (.seq (.ops [mT S0,mT S0,oT (.v (.Fq 148 [T0] [])),oT .mm,oN (.ins T0 (.c (.string ⟨⟨[106,111,105,110]⟩⟩)) (C 39)),mT T0,oT (.call 96 [T4,T2,T0]),oN (.st 5 S1 T0)]) .ret)),[(.cell S1 (some 5))]⟩
theorem SY:ai afI QA Tryz.f137=some YD:=by kernel_rfl
@[go_sem] def QB:List Nat:=[0,2]
def c148:Gx.Fn:=⟨9,QB,(.seq (.ops [oS 1 (.al 24 [(I 0),(.string ⟨⟨[]⟩⟩),(I 0),(I 0),Z])]) (.seq (.ops [mT S0,mT S0,oT (.v (.Fq 156 [T0] [])),oT .mm,oN (.ins T0 (.c (.string ⟨⟨[43]⟩⟩)) (C 40)),oN (.ins T0 (.c (.string ⟨⟨[45]⟩⟩)) (C 41)),mT T0,oT (.call 96 [T4,T2,T0]),oN (.st 5 S1 T0)]) .ret)),[(.cell S1 (some 5))]⟩
theorem SZ:ai afI QB Tryz.f148=some c148:=by kernel_rfl
@[go_sem] def JN:List Nat:=[0,2,3,4,11,21]
def c156:Gx.Fn:=⟨36,JN,(.seq (.ops [oS 1 (.al 24 [(I 0),(.string ⟨⟨[]⟩⟩),(I 0),(I 0),Z])]) (.seq (.ops [mT S0,oT (.call 158 [T0]),oS 2 (.al 24 [(I 0),(.string ⟨⟨[]⟩⟩),(I 0),(I 0),Z]),oN (.st 5 S2 T0)]) (.block 0 (.loop JN (.block 1 (.seq (.ops [mT S0,oT (.call 35 [T0]),oT (.v (.jW 3 T0)),mS 3 T0]) (.block 2 (.seq (.ops [mT S0,oT (.call 61 [T0,(.c (.string ⟨⟨[46]⟩⟩))]),mS 4 T0]) (.cond S4 (.de (rm S3 [7] (rm S0 [2,7] (.rd none .t (.ld (some 5) S2) [5,7] (.br (.ef 2 none .t (.call 62 [T1,(C 1)]) (.rd none .t (.v (.jW 1 T0)) [7] (.ef 5 none .t (.bs 24 1 [(I 0),(.string ⟨⟨[]⟩⟩),(I 0),(I 0),Z] [(0,(5,T2))]) (.rd none .t (.v (.jA [(I 0),(.string ⟨⟨[]⟩⟩),(I 0),(I 0),Z] [(0,(1,(C 42))),(3,(1,T5)),(1,(1,T1)),(4,(1,T0))])) [7] (.ef 7 none .no (.st 5 S2 T0) .done))))) (.ef 5 none .t (.bs 24 1 [(I 0),(.string ⟨⟨[]⟩⟩),(I 0),(I 0),Z] [(0,(5,T0))]) (.ef 2 none .t (.call 62 [T2,(C 1)]) (.rd none .t (.v (.jW 1 T0)) [7] (.rd none .t (.v (.jA [(I 0),(.string ⟨⟨[]⟩⟩),(I 0),(I 0),Z] [(0,(1,(C 42))),(3,(1,T5)),(1,(1,T0)),(4,(1,T2))])) [7] (.ef 7 none .no (.st 5 S2 T0) .done)))))))))) (.seq (.ops [mT S0,oT (.call 54 [T0,(.c (.string ⟨⟨[91]⟩⟩))]),mS 5 T0]) (.cond S5 (.seq (.ops [mT S0,oT (.call 56 [T0,(.c (.string ⟨⟨[91]⟩⟩))])]) (.seq (.de (rm S3 [6] (.rd none .t (.ld (some 5) S2) [4,6] (rm S0 [3,4,6] (.ef 3 none .t (.call 28 [T0]) (.ef 4 none .t (.bs 24 2 [(I 0),(.string ⟨⟨[]⟩⟩),(I 0),(I 0),Z,(I 0),(.string ⟨⟨[]⟩⟩),(I 0),(I 0),Z] [(0,(5,T2)),(5,(5,T0))]) (.rd none .t (.v (.jA [(I 0),(.string ⟨⟨[]⟩⟩),(I 0),(I 0),Z] [(0,(1,(C 43))),(3,(1,T4)),(4,(1,T0))])) [6] (.ef 6 none .no (.st 5 S2 T0) .done)))))))) (.seq (.ops [mT S0,oT (.call 57 [T0,(.c (.string ⟨⟨[93]⟩⟩))])]) (.ops [mT S0,oT (.call 58 [T0])])))) (.seq (.ops [oT (.ld (some 5) S2),oN (.st 5 S1 T0)]) .ret)))))))))))),[(.cell S1 (some 5))]⟩
theorem Ta:ai afI JN Tryz.f156=some c156:=by kernel_rfl
@[go_sem] def JO:List Nat:=[0,2,3,4,5,13,23,29,35,39,43,47,51,62,87]
def YE:Gx.Fn:=⟨102,JO,(.seq (.ops [oS 1 (.al 24 [(I 0),(.string ⟨⟨[]⟩⟩),(I 0),(I 0),Z])]) (.seq (.ops [mT S0,oT (.call 35 [T0]),oS 2 (.al 58 [(I 0),(.string ⟨⟨[]⟩⟩),(I 0),(I 0)]),oN (.st 4 S2 T0)]) (.seq (.ops [fT 3 S2,lT T0,oT (.v (.jA [(I 0),(.string ⟨⟨[]⟩⟩),(I 0),(I 0),Z] [(3,(1,T0))])),oS 3 (.al 24 [(I 0),(.string ⟨⟨[]⟩⟩),(I 0),(I 0),Z]),oN (.st 5 S3 T0)]) (.seq (.block 0 (.seq (.ops [fT 0 S2,lT T0,oT (.v (.bin .eql T0 (C 3))),mT T0,(.op (some (T0,(false,true))) .t (.v (.mv S0))),(.op (some (T1,(false,false))) .t (.call 54 [T0,(.c (.string ⟨⟨[45]⟩⟩))])),oT (.v (.pick T2 (.c (.bool true)) T0)),mS 5 T0]) (.cond S5 (.seq (.ops [mT S0,oT (.call 73 [T0]),oN (.st 5 S1 T0)]) .ret) (.seq (.ops [fT 0 S2,lT T0,oT (.v (.bin .eql T0 (C 4))),mS 6 T0]) (.cond S6 (.seq (.ops [mT S0,oT (.call 103 [T0]),oN (.st 5 S1 T0)]) .ret) (.seq (.ops [fT 0 S2,lT T0,oT (.v (.bin .eql T0 (C 1))),mS 7 T0]) (.cond S7 (.seq (.ops [mT S0,oT (.call 65 [T0,(C 48)]),oN (.st 5 S1 T0)]) .ret) (.seq (.ops [mT S0,oT (.call 61 [T0,(.c (.string ⟨⟨[116,114,117,101]⟩⟩))]),mS 8 T0]) (.cond S8 (.ops [fT 0 S3,oN (.st 1 T0 (C 45))]) (.seq (.ops [mT S0,oT (.call 61 [T0,(.c (.string ⟨⟨[102,97,108,115,101]⟩⟩))]),mS 9 T0]) (.cond S9 (.ops [fT 0 S3,oN (.st 1 T0 (C 46))]) (.seq (.ops [mT S0,oT (.call 61 [T0,(.c (.string ⟨⟨[115]⟩⟩))]),mS 10 T0]) (.cond rq (.ops [fT 0 S3,oN (.st 1 T0 (C 49))]) (.seq (.ops [mT S0,oT (.call 61 [T0,(.c (.string ⟨⟨[98,111,116,116,111,109]⟩⟩))]),mS 11 T0]) (.cond u9 (.ops [fT 0 S3,oN (.st 1 T0 (C 50))]) (.seq (.ops [mT S0,oT (.call 54 [T0,(.c (.string ⟨⟨[40]⟩⟩))]),mS 12 T0]) (.cond wb (.seq (.ops [mT S0,oT (.call 56 [T0,(.c (.string ⟨⟨[40]⟩⟩))])]) (.seq (.ops [mT S0,oT (.call 28 [T0]),oN (.st 5 S3 T0)]) (.seq (.ops [mT S0,oT (.call 57 [T0,(.c (.string ⟨⟨[41]⟩⟩))])]) (.ops [mT S0,oT (.call 58 [T0])])))) (.seq (.ops [fT 0 S2,lT T0,oT (.v (.bin .eql T0 (C 2))),mT T0,(.op (some (T0,(true,true))) .t (.v (.fa 1 S2))),(.op (some (T1,(true,false))) .t (.ld none T0)),(.op (some (T2,(true,false))) .t (.call 159 [T0])),oT (.v (.pick T3 T0 (.c (.bool false)))),mS 13 T0]) (.cond Dp (.seq (.ops [mT S0,oT (.v (.nc T0)),fT 1 T0,lT T0,oT (.v (.bin .add T0 (C 1))),oT (.v (.nc T4)),fT 1 T0,oN (.st 1 T0 T2)]) (.seq (.de (rf 1 S2 [5] (rl T0 [5] (rf 0 S3 [3,5] (.ef 3 none .no (.st 1 T0 (C 51)) (rf 1 S3 [5] (.ef 5 none .no (.st 1 T0 T2) .done))))))) (.seq (.ops [mT S0,oT (.call 56 [T0,(.c (.string ⟨⟨[40]⟩⟩))])]) (.seq (.seq (.ops [mT S0,oT (.call 61 [T0,(.c (.string ⟨⟨[41]⟩⟩))]),oT (.v (.un .not T0)),mS 4 T0]) (.block 1 (.loop JO (.seq (.seq (.ops [mS 14 S4]) (.cond DQ .skip (.exit 1))) (.seq (.block 2 (.de (rf 4 S3 [7,9] (rl T0 [7,9] (rm S0 [5,6,7,9] (rf 1 S2 [5,6,7,9] (rl T0 [5,6,7,9] (.ef 5 none .t (.call 160 [T2,T0]) (.ef 6 none .t (.bs 24 1 [(I 0),(.string ⟨⟨[]⟩⟩),(I 0),(I 0),Z] [(0,(5,T0))]) (.ef 7 none .t (.ap 22 22 T5 T0) (rf 4 S3 [9] (.ef 9 none .no (.st 1 T0 T1) .done)))))))))))) (.ops [mT S0,oT (.call 63 [T0]),mS 4 T0])))))) (.ops [mT S0,oT (.call 58 [T0])]))))) (.ops [mT S0,oT (.call 53 [T0,(C 2)])])))))))))))))))))))) (.seq (.ops [oT (.ld (some 5) S3),oN (.st 5 S1 T0)]) .ret))))),[(.cell S1 (some 5))]⟩
theorem Tb:ai afI JO Tryz.f158=some YE:=by kernel_rfl
@[go_sem] def QC:List Nat:=[0,2,3,4]
def c159:Gx.Fn:=⟨22,QC,(.seq (.ops [mS 1 (.c (.bool false))]) (.seq (.seq (.ops [mS 2 S0]) (.block 0 (.seq (.seq (.ops [oT (.v (.bin .eql S2 (.c (.string ⟨⟨[102,108,97,103]⟩⟩)))),mS 3 T0]) (.cond S3 .skip (.seq (.ops [oT (.v (.bin .eql S2 (.c (.string ⟨⟨[110,117,109]⟩⟩)))),mS 3 T0]) (.cond S3 .skip (.seq (.ops [oT (.v (.bin .eql S2 (.c (.string ⟨⟨[115,101,116]⟩⟩)))),mS 3 T0]) (.cond S3 .skip (.seq (.ops [oT (.v (.bin .eql S2 (.c (.string ⟨⟨[109,97,112]⟩⟩)))),mS 3 T0]) (.cond S3 .skip (.seq (.ops [oT (.v (.bin .eql S2 (.c (.string ⟨⟨[114,101,99]⟩⟩)))),mS 3 T0]) (.cond S3 .skip (.seq (.ops [oT (.v (.bin .eql S2 (.c (.string ⟨⟨[112,97,105,114]⟩⟩)))),mS 3 T0]) (.cond S3 .skip (.seq (.ops [oT (.v (.bin .eql S2 (.c (.string ⟨⟨[111,110,101]⟩⟩)))),mS 3 T0]) (.cond S3 .skip (.seq (.ops [oT (.v (.bin .eql S2 (.c (.string ⟨⟨[119,114,105,116,101]⟩⟩)))),mS 3 T0]) (.cond S3 .skip (.seq (.ops [oT (.v (.bin .eql S2 (.c (.string ⟨⟨[115,105,122,101]⟩⟩)))),mS 3 T0]) (.cond S3 .skip (.seq (.ops [oT (.v (.bin .eql S2 (.c (.string ⟨⟨[115,117,109]⟩⟩)))),mS 3 T0]) (.cond S3 .skip (.seq (.ops [oT (.v (.bin .eql S2 (.c (.string ⟨⟨[110,117,109,98,101,114]⟩⟩)))),mS 3 T0]) (.cond S3 .skip (.seq (.ops [oT (.v (.bin .eql S2 (.c (.string ⟨⟨[111,110]⟩⟩)))),mS 3 T0]) (.cond S3 .skip (.seq (.ops [oT (.v (.bin .eql S2 (.c (.string ⟨⟨[107,101,121,115]⟩⟩)))),mS 3 T0]) (.cond S3 .skip (.seq (.ops [oT (.v (.bin .eql S2 (.c (.string ⟨⟨[118,97,108,117,101,115]⟩⟩)))),mS 3 T0]) (.cond S3 .skip (.seq (.ops [oT (.v (.bin .eql S2 (.c (.string ⟨⟨[102,105,114,115,116]⟩⟩)))),mS 3 T0]) (.cond S3 .skip (.seq (.ops [oT (.v (.bin .eql S2 (.c (.string ⟨⟨[115,101,99,111,110,100]⟩⟩)))),mS 3 T0]) (.cond S3 .skip (.ops [oT (.v (.bin .eql S2 (.c (.string ⟨⟨[99,111,110,102,108,105,99,116]⟩⟩)))),mS 3 T0]))))))))))))))))))))))))))))))))) (.cond S3 (.seq (.ops [mS 1 (.c (.bool true))]) .ret) .skip)))) (.seq (.ops [mS 1 (.c (.bool false))]) .ret))),[(.tmp S1)]⟩
theorem Tc:ai afI QC Tryz.f159=some c159:=by kernel_rfl
@[go_sem] def QD:List Nat:=[0,1,4,5,10,13,19]
def c160:Gx.Fn:=⟨35,QD,(.seq (.ops [oS 2 (.al 24 [(I 0),(.string ⟨⟨[]⟩⟩),(I 0),(I 0),Z])]) (.seq (.ops [mT S0,oT (.call 35 [T0]),oT (.v (.jW 3 T0)),oT (.v (.jA [(I 0),(.string ⟨⟨[]⟩⟩),(I 0),(I 0),Z] [(0,(1,(C 52))),(3,(1,T0))])),oS 3 (.al 24 [(I 0),(.string ⟨⟨[]⟩⟩),(I 0),(I 0),Z]),oN (.st 5 S3 T0)]) (.seq (.seq (.ops [mS 4 S1]) (.block 0 (.seq (.ops [oT (.v (.bin .eql S4 (.c (.string ⟨⟨[114,101,99]⟩⟩)))),mS 5 T0]) (.cond S5 (.ops [mT S0,oT (.call 62 [T0,(C 1)]),oT (.v (.jW 1 T0)),fT 1 S3,oN (.st 1 T0 T1)]) (.seq (.ops [oT (.v (.bin .eql S4 (.c (.string ⟨⟨[109,97,112]⟩⟩)))),mS 6 T0]) (.cond S6 (.ops [mT S0,oT (.call 28 [T0]),oT (.bs 24 1 [(I 0),(.string ⟨⟨[]⟩⟩),(I 0),(I 0),Z] [(0,(5,T0))]),fT 4 S3,oN (.st 1 T0 T1)]) (.seq (.ops [mT S0,oT (.call 28 [T0]),oN (.st 5 S2 T0)]) .ret))))))) (.seq (.ops [mT S0,oT (.call 57 [T0,(.c (.string ⟨⟨[58]⟩⟩))])]) (.seq (.de (rf 4 S3 [5,7] (rl T0 [5,7] (rm S0 [3,4,5,7] (.ef 3 none .t (.call 28 [T0]) (.ef 4 none .t (.bs 24 1 [(I 0),(.string ⟨⟨[]⟩⟩),(I 0),(I 0),Z] [(0,(5,T0))]) (.ef 5 none .t (.ap 22 22 T3 T0) (rf 4 S3 [7] (.ef 7 none .no (.st 1 T0 T1) .done))))))))) (.seq (.ops [oT (.ld (some 5) S3),oN (.st 5 S2 T0)]) .ret)))))),[(.cell S2 (some 5))]⟩
theorem Td:ai afI QD Tryz.f160=some c160:=by kernel_rfl
end Go.Proofs.YtmhdkbmnpekpoaaGreatDoor
namespace Gx
open Go
def gp (P:Program) (g:FuncId) (args:Array Value) (u u':FrameMode) (H:Heap) (R:Heap→Prop):Prop:=
 ∀ w:World,w.heap=H→CallsD P g args u w fun e m w'=>∃ v,e= .returned v∧settle m=u'∧R w'.heap∧Same w w'
theorem gp.mono {P:Program} {g:FuncId} {args:Array Value} {u u':FrameMode} {H:Heap} {R R':Heap→Prop} (h:gp P g args u u' H R) (hr:∀ H',R H'→R' H'):gp P g args u u' H R':=
 fun w hw=>(h w hw).mono fun _ _ _ ⟨v,h1,h2,h3,h4⟩=>⟨v,h1,h2,hr _ h3,h4⟩
def oI (o1 o2:Oper):Option (Nat × Nat × List Nat):=
 match o1.op,o1.dst,o1.guard,o2.op,o2.dst,o2.guard with
 | .makeFunc (.func g) first uX,some d,none,.defer { callee:=.value (.tmp d'),args,argTypes:=_ },none,none=>
   if d=d'∧first.toList.isEmpty=true∧args.toList.isEmpty=true then
    match uX.toList.mapM (fun (x:Operand)=>match x with | .tmp t=>some t | _=>none) with
    | some cs=>some (g,d,cs)
    | none=>none
   else none
 | _,_,_,_,_,_=>none
structure DFn where
 n:Nat
 keep:List Nat
 fx:List Nat
 pre:cI
 g:Nat
 uX:List Nat
 code:cI
 res:List RV
 acz:List RV
def YF:Code→Bool
 | .region _ ops false=>match ops.toList with
   | [o1,o2]=>(oI o1 o2).isSome
   | _=>false
 | _=>false
def eI:Code→Option (List Code × Code)
 | .seq a b=>if YF a then some ([],.seq a b) else match eI b with
   | some (l,r)=>some (a :: l,r)
   | none=>none
 | _=>none
def spine:List Code→Code→Code
 | [],r=>r
 | a :: l,r=>.seq a (spine l r)
theorem ry:∀ {c:Code} {l:List Code} {r:Code},eI c=some (l,r)→c=spine l r
 | .seq a b,l,r,h=>by
   simp only[eI] at h
   split at h
   ·simp only[ae9.injEq,aff.injEq] at h
    obtain ⟨rfl,rfl⟩:=h; rfl
   ·split at h
    ·rename_i l' r' hb
     simp only[ae9.injEq,aff.injEq] at h
     obtain ⟨rfl,rfl⟩:=h
     rw[spine,← ry hb]
    ·cases h
 | .skip,_,_,h=>by simp[eI] at h
 | .region ..,_,_,h=>by simp[eI] at h
 | .cond ..,_,_,h=>by simp[eI] at h
 | .block ..,_,_,h=>by simp[eI] at h
 | .loop ..,_,_,h=>by simp[eI] at h
 | .exit ..,_,_,h=>by simp[eI] at h
 | .ret,_,_,h=>by simp[eI] at h
 | .rangeFunc ..,_,_,h=>by simp[eI] at h
 | .scope ..,_,_,h=>by simp[eI] at h
 | .label ..,_,_,h=>by simp[eI] at h
 | .goto ..,_,_,h=>by simp[eI] at h
 | .refuse ..,_,_,h=>by simp[eI] at h
def lI (P:Program) (n:Nx) (keep:List Nat):List Code→Option cI
 | []=>some .skip
 | a :: l=>match strip P n keep a,lI P n keep l with
   | some x,some y=>some (.seq x y)
   | _,_=>none
def we (P:Program) (keep fx:List Nat) (fn:Func):Option DFn:=
 if keep.all (fun t=>decide (t < fn.ntmps)) then
  match fn.body with
  | some c=>match eI c with
    | some (A,.seq (.region _ ops false) C)=>
      match ops.toList with
      | [o1,o2]=>match oI o1 o2 with
        | some (g,d,cs)=>
          if decide (d < fn.ntmps) && (posOf keep d).isNone && !fx.elem d && dV P g then
           match lI P ⟨fn.ntmps,[]⟩ keep A,strip P ⟨fn.ntmps,fx⟩ keep C,iv P fx fn.results.toList,iv P keep fn.results.toList with
           | some a,some c,some rs,some rs0=>some ⟨fn.ntmps,keep,fx,a,g,cs,c,rs,rs0⟩
           | _,_,_,_=>none
          else none
        | none=>none
      | _=>none
    | _=>none
  | none=>none
 else none
def rz (keep:List Nat) (σ:bf):List Nat→Option (List Value)
 | []=>some []
 | t :: r=>match nH keep σ t,rz keep σ r with
   | some v,some vs=>some (v :: vs)
   | _,_=>none
def YG (P:Program) (F:DFn) (R:Value→Heap→Prop):lF
 | .yg,σ,H=>∃ vs cs,rz F.keep σ F.fx=some vs∧rz F.keep σ F.uX=some cs∧
  vc P (fun c H'=>gp P F.g cs.toArray (.panicking c) .returning H' fun nA=>tv R nA (j4 (vs.map some) nA F.res)) F.code σ H fun x _ H'=>
   match x with
   | .ext _=>False
   | _=>gp P F.g cs.toArray .returning .returning H' fun nA=>tv R nA (j4 (vs.map some) nA F.res)
 | .ret,σ,H=>tv R H (j4 σ H F.acz)
 | .ext _,_,_=>False
section
variable {P:Program}
theorem mw {n:Nx} {dd:DD} {keep:List Nat} {σ:bf} {a:Act} (h:F2 n dd keep [] σ [] a):∀ {ts:List Nat} {vs:List Value},rz keep σ ts=some vs→ts.map (fun t=>a.tmps.getD t undef)=vs∧∀ t ∈ ts,a.tmps[t]?=some (a.tmps.getD t undef)
 | [],vs,hv=>by simp[rz] at hv; subst hv; exact ⟨rfl,fun t ht=>by cases ht⟩
 | t :: ts,vs,hv=>by
   simp only[rz] at hv
   split at hv
   ·rename_i v vs' h1 h2
    simp at hv; subst hv
    obtain ⟨k,hk,hs⟩:=tr h1
    have e:=h.mZ t k v hk hs
    obtain ⟨i1,i2⟩:=mw h h2
    have e':a.tmps.getD t undef=v:=by simp[afm,e]
    refine ⟨by rw[List.map_cons,e',i1],fun t' Bu=>?_⟩
    rcases List.mem_cons.1 Bu with rfl | Bu
    ·rw[e',e]
    ·exact i2 t' Bu
   ·cases hv
theorem yS {xs:List Operand} {cs:List Nat} (h:xs.mapM (fun (x:Operand)=>match x with | .tmp t=>some t | _=>none)=some cs):xs=cs.map .tmp:=by
 induction xs generalizing cs with
 | nil=>simp at h; subst h; rfl
 | cons x xs ih=>
   simp only[List.mapM_cons,Option.bind_eq_bind,Option.bind_eq_some_iff,Option.pure_def,ae9.injEq] at h
   obtain ⟨t,h1,ts,h2,rfl⟩:=h
   cases x with
   | tmp u=>simp at h1; subst h1; simp[ih h2]
   | const u=>simp at h1
   | global u=>simp at h1
   | func u=>simp at h1
theorem wg {o1 o2:Oper} {g d:Nat} {cs:List Nat} (h:oI o1 o2=some (g,d,cs)) :
 o1.op= .makeFunc (.func g) #[] (cs.map Operand.tmp).toArray∧o1.dst=some d∧o1.guard=none∧(∃ GX,o2.op= .defer { callee:=.value (.tmp d),args:=#[],argTypes:=GX })∧o2.dst=none∧o2.guard=none:=by
 unfold oI at h
 split at h
 ·rename_i g' first uX d' d'' args GX h1 h2 h3 h4 h5 h6
  split at h
  ·rename_i hc
   obtain ⟨rfl,yh,tg⟩:=hc
   split at h
   ·rename_i JP Iu
    simp at h
    obtain ⟨rfl,rfl,rfl⟩:=h
    have e1:first=#[]:=by
     apply afh.1; simpa using yh
    have e2:args=#[]:=by
     apply afh.1; simpa using tg
    have e3:uX=(JP.map Operand.tmp).toArray:=by
     apply afh.1; simpa using yS Iu
    subst e1 e2 e3
    exact ⟨h1,h2,h3,⟨GX,h4⟩,h5,h6⟩
   ·cases h
  ·cases h
 ·cases h
theorem tz {E:cd→Heap→Prop} {n:Nx} {dd:DD} {keep:List Nat} {rest:Code} {T:Exit→Act→World→Prop} {Q:lF} {w0:World} (hT:∀ e a w,e≠.normal→QX E n dd keep w0 Q e a w→T e a w)
 (QE:∀ a w σ,F2 n dd keep [] σ [] a→Same w0 w→Q .yg σ w.heap→rest.wp P T a w):∀ {l:List Code} {s:cI},lI P n keep l=some s→∀ {σ:bf} {a:Act} {w:World},F2 n dd keep [] σ [] a→Same w0 w→vc P E s σ w.heap Q→(spine l rest).wp P T a w
 | [],s,hs,σ,a,w,hf,hw,hv=>by
   simp only[lI,ae9.injEq] at hs; subst hs
   exact QE a w σ hf hw hv
 | x :: l,s,hs,σ,a,w,hf,hw,hv=>by
   simp only[lI] at hs
   split at hs
   ·rename_i sx sl h1 h2
    simp only[ae9.injEq] at hs; subst hs
    refine wp_seq (wp_mono (dI x h1 hf hw hv) fun e a' w' hq=>?_)
    cases e with
    | normal=>
      obtain ⟨DK,σ',fJ,BE⟩:=hq
      exact tz hT QE h2 fJ DK BE
    | exit i=>exact hT _ _ _ (by simp) hq
    | ret=>exact hT _ _ _ (by simp) hq
    | panic c=>exact hT _ _ _ (by simp) hq
    | _=>first | exact hq.elim | exact hT _ _ _ (by simp) hq
   ·cases hs
theorem vb {f:Nat} {fn:Func} {keep fx:List Nat} {F:DFn} {args:List Value} {H:Heap} {R:Value→Heap→Prop} (hf:P.funcs[f]?=some fn) (hs:we P keep fx fn=some F)
 (hn:args.length≤F.n) (h:vc P (fun _ _=>False) F.pre (pM F.keep args) H (YG P F R)):aE P f args.toArray H R:=by
 unfold we at hs
 split at hs
 case isFalse=>cases hs
 rename_i DL
 split at hs
 case h_2=>cases hs
 rename_i body hb
 split at hs
 case h_2=>cases hs
 rename_i A rid ops C rr
 have YH:=ry rr
 subst YH
 split at hs
 case h_2=>cases hs
 rename_i o1 o2 DW
 split at hs
 case h_2=>cases hs
 rename_i g d cs W8
 split at hs
 case isFalse=>cases hs
 rename_i hc
 split at hs
 case h_2=>cases hs
 rename_i sa sc rs rs0 hA hC hR hR0
 simp at hs; subst hs
 simp only[ae5,decide_eq_true_eq,Bool.not_eq_true',Option.isNone_iff_eq_none] at hc
 obtain ⟨⟨⟨Br,hdk⟩,hdx⟩,hgb⟩:=hc
 obtain ⟨e1,e2,e3,⟨GX,e4⟩,e5,e6⟩:=wg W8
 intro w hw
 subst hw
 refine calls_of_wp_defers hf hb ?_
 refine tz (fun e a w1 he hq=>?_) (fun a w1 σ fp gK hq=>?_) hA (lH (dd:=⟨[],fun _=>undef⟩) hn DL) (Same.refl w) h
 ·cases e <;> simp only[QX,bodyPostD] at hq ⊢
  case normal=>exact absurd rfl he
  case exit=>exact hq.2.elim fun σ h=>h.2.elim
  case panic=>exact hq.2.2.elim
  case ret=>
   obtain ⟨gK,σ,fp,cg⟩:=hq
   rw[fp.ir.1]
   unfold Leaves
   replace cg:tv R w1.heap (j4 σ w1.heap rs0):=cg
   cases hr:j4 σ w1.heap rs0 with
   | none=>rw[hr] at cg; exact cg.elim
   | some us=>
     rw[hr] at cg
     refine ⟨_,j5 fp hR0 hr,?_,gK⟩
     match us,cg with
     | [],cg=>exact cg
     | [v],cg=>exact cg
     | v :: u :: r,cg=>exact cg
 obtain ⟨vs,Fp,hvs,acA,hv⟩:=hq
 obtain ⟨f1,f2⟩:=mw fp hvs
 obtain ⟨g1,g2⟩:=mw fp acA
 -- the frame behind the V9
 let fv:Value:=.func (.func g) #[] Fp.toArray
 let a2:Act:={ (a.put (some d) fv) with defers:=[{ target:=.fn (.func g) Fp.toArray,args:=#[] }] }
 have hd:d < a.tmps.size:=by rw[fp.size]; exact Br
 have BL:a.defers=[]:=fp.ir.1
 refine wp_seq (wp_region_list ?_)
 rw[DW]
 have w1':afj o1 (yielded ops a.tmps)=true:=by simp[afj,e3]
 have w2':afj o2 (yielded ops (a.put o1.dst fv).tmps)=true:=by simp[afj,e6]
 have x1:(execOp a.eval o1).run P w1= .ok (.value fv) w1:=by
  have:(cs.map Operand.tmp).toArray.map a.eval=Fp.toArray:=by
   apply afh.1
   simp only[agx,agh]
   rw[← g1]
   apply af8
   intro t ht
   rfl
  simp[execOp,e1,Instr.makeFunc,fv,← this]
 have x2:(execOp (a.put o1.dst fv).eval o2).run P w1= .ok (.defer { target:=.fn (.func g) Fp.toArray,args:=#[] }) w1:=by
  have:(a.put o1.dst fv).eval (.tmp d)=fv:=by
   simp[Act.eval,e2,Act.put,afm,hd]
  simp[execOp,e4,resolve,this,fv,Deferred.ofValue]
 unfold wpList
 rw[if_pos w1']
 refine .inl ?_
 unfold Oper.wp
 rw[x1]
 simp only[Oper.upon_value]
 unfold wpList
 rw[if_pos w2']
 refine .inl ?_
 unfold Oper.wp
 rw[x2]
 simp only[Oper.upon_defer]
 unfold wpList
 have Te:({ (a.put o1.dst fv) with defers:={ target:=.fn (.func g) Fp.toArray,args:=#[] } :: (a.put o1.dst fv).defers }:Act).put o2.dst undef=a2:=by
  simp[e2,e5,a2,Act.put,BL]
 rw[Te]
 simp only[Exit.then]
 -- the code behind it
 let dd:DD:=⟨[{ target:=.fn (.func g) Fp.toArray,args:=#[] }],fun t=>a.tmps.getD t undef⟩
 have dH:∀ t ∈ fx,d≠t:=by
  rintro t ht rfl
  simp only[List.elem_eq_contains,List.contains_eq_mem,decide_eq_false_iff_not] at hdx
  exact hdx ht
 have NY:∀ t,d≠t→a2.tmps[t]?=a.tmps[t]?:=fun t ht=>by simp[a2,Act.put,Array.getElem?_setIfInBounds_ne ht]
 have JQ:F2 ⟨fn.ntmps,fx⟩ dd keep [] σ [] a2:=by
  refine ⟨by simp[a2,Act.put]; exact fp.size,⟨rfl,fun t ht=>?_⟩,fun t k v ht hu=>?_,fun t k v _ hk _=>by simp[posOf] at hk⟩
  ·rw[NY t (dH t ht)]; exact f2 t ht
  ·have:d≠t:=by rintro rfl; rw[hdk] at ht; cases ht
   rw[NY t this]; exact fp.mZ t k v ht hu
 have fin:∀ (a':Act) (w':World) (u:FrameMode),u≠.run→jY ⟨fn.ntmps,fx⟩ dd a'→Same w w'→gp P g Fp.toArray u .returning w'.heap (fun nA=>tv R nA (j4 (vs.map some) nA rs))→
  Leaves P fn a'.tmps (pI R (fun _ _=>False) w) a'.defers u w':=by
  intro a' w' u hu Jg iF hD
  rw[Jg.1]
  refine leaves_cons (f:=g) (args:=Fp.toArray) hu ?_ ((hD w' rfl).mono fun e m WI ⟨v,he,hm,QF,Tf⟩=>?_)
  ·simp[invoke,jB hgb]
  ·subst he
   simp only[hm]
   unfold Leaves
   -- the results
   have hF:F2 ⟨a'.tmps.size,fx⟩ dd fx [] (vs.map some) [] a':=by
    refine ⟨rfl,Jg,fun t k v' ht hu=>?_,fun t k v _ hk _=>by simp[posOf] at hk⟩
    have hg:=lC ht
    have GY:t ∈ fx:=afR hg
    rw[Jg.2 t GY]
    rw[← f1] at hu
    simp only[List.getElem?_map,hg,Option.map_some,ae9.injEq] at hu
    simpa [dd] using hu
   replace QF:tv R WI.heap (j4 (vs.map some) WI.heap rs):=QF
   cases hr:j4 (vs.map some) WI.heap rs with
   | none=>rw[hr] at QF; exact QF.elim
   | some us=>
     rw[hr] at QF
     refine ⟨_,j5 hF hR hr,?_,iF.trans Tf⟩
     match us,QF with
     | [],cg=>exact cg
     | [v],cg=>exact cg
     | v :: u :: r,cg=>exact cg
 refine wp_mono (dI C hC JQ gK hv) fun e a' w' hq=>?_
 cases e <;> simp only[QX,bodyPostD] at hq ⊢
 ·obtain ⟨iF,σ',fJ,hq⟩:=hq; exact fin a' w' _ (by simp) fJ.ir iF hq
 ·exact hq.2.elim fun _ h=>h.2.elim
 ·obtain ⟨iF,σ',fJ,hq⟩:=hq; exact fin a' w' _ (by simp) fJ.ir iF hq
 ·obtain ⟨iF,Jg,hq⟩:=hq; exact fin a' w' _ (by simp) Jg iF hq
structure RFn where
 n:Nat
 keep:List Nat
 d0:Nat
 d1:Nat
 code:cI
 res:List RV
def DX (o0 o1:Oper):Option (Nat × Nat):=
 match o0.op,o0.dst,o0.guard,o1.op,o1.dst,o1.guard with
 | .call { callee:=.builtin .recover,args:=_,argTypes:=_ },some d0,none,.assign (.tmp d),some d1,none=>if d=d0 then some (d0,d1) else none
 | _,_,_,_,_,_=>none
def wh (P:Program) (keep:List Nat) (fn:Func):Option RFn:=
 if keep.all (fun t=>decide (t < fn.ntmps)) then
  match fn.body with
  | some (.seq (.region _ ops false) C)=>
    match ops.toList with
    | [o0,o1]=>match DX o0 o1 with
      | some (d0,d1)=>
        if decide (d0 < fn.ntmps) && decide (d1 < fn.ntmps) then
         match strip P ⟨fn.ntmps,[]⟩ keep C,iv P keep fn.results.toList with
         | some c,some rs=>some ⟨fn.ntmps,keep,d0,d1,c,rs⟩
         | _,_=>none
        else none
      | none=>none
    | _=>none
  | _=>none
 else none
def NZ:FrameMode→Option (Value × FrameMode)
 | .returning=>some (.nilIface,.returning)
 | .panicking [{ v,recovered:=false,goexit:=false }]=>some (v,.panicking [{ v,recovered:=true }])
 | _=>none
theorem BM {o0 o1:Oper} {d0 d1:Nat} (h:DX o0 o1=some (d0,d1)) :
 (∃ xs GX,o0.op= .call { callee:=.builtin .recover,args:=xs,argTypes:=GX })∧o0.dst=some d0∧o0.guard=none∧o1.op= .assign (.tmp d0)∧o1.dst=some d1∧o1.guard=none:=by
 unfold DX at h
 split at h
 ·rename_i xs GX e0 d e1 h1 h2 h3 h4 h5 h6
  split at h
  ·rename_i hc
   simp at h; obtain ⟨rfl,rfl⟩:=h
   subst hc
   exact ⟨⟨_,_,h1⟩,h2,h3,h4,h5,h6⟩
  ·cases h
 ·cases h
theorem p5 {g:Nat} {fn:Func} {keep:List Nat} {F:RFn} {args:List Value} {H:Heap} {R:Heap→Prop} {u m:FrameMode} {v:Value} (hf:P.funcs[g]?=some fn) (hs:wh P keep fn=some F)
 (hn:args.length≤F.n) (hu:NZ u=some (v,m)) (h:vc P (fun _ _=>False) F.code (eh (cD F.keep (some F.d1)) v (eh (cD F.keep (some F.d0)) v (pM F.keep args))) H (u5 F.res (fun _ H'=>R H'))) :
 gp P g args.toArray u (settle m) H R:=by
 unfold wh at hs
 split at hs
 case isFalse=>cases hs
 rename_i DL
 split at hs
 case h_2=>cases hs
 rename_i rid ops C hb
 split at hs
 case h_2=>cases hs
 rename_i o0 o1 DW
 split at hs
 case h_2=>cases hs
 rename_i d0 d1 hro
 split at hs
 case isFalse=>cases hs
 rename_i hc
 split at hs
 case h_2=>cases hs
 rename_i sc rs hC hR
 simp at hs; subst hs
 simp only[ae5,decide_eq_true_eq] at hc
 obtain ⟨Tg,hd1⟩:=hc
 obtain ⟨⟨xs,GX,e1⟩,e2,e3,e4,e5,e6⟩:=BM hro
 intro w hw
 subst hw
 refine callsD_of_wpS hf hb fun c₀ cs hc₀=>?_
 refine wpS_seq (wpS_region ?_)
 have dO:ops.size=2:=by rw[← Array.length_toList,DW]; rfl
 have hg0:ops[0]?=some o0:=by rw[← Array.getElem?_toList,DW]; rfl
 have Th:ops[1]?=some o1:=by rw[← Array.getElem?_toList,DW]; rfl
 have Ti:List.range ops.size=[0,1]:=by rw[dO]; rfl
 rw[Ti]
 let a0:Act:={ tmps:=args.toArray ++ Array.replicate (fn.ntmps - args.toArray.size) undef,defers:=[] }
 have hF0:F2 ⟨fn.ntmps,[]⟩ ⟨[],fun _=>undef⟩ keep [] (pM keep args) [] a0:=lH (dd:=⟨[],fun _=>undef⟩) hn DL
 have td:=(hF0.put (d:=some d0) (by simp[gy,Tg]) v).rest
 have BN:=(td.put (d:=some d1) (by simp[gy,hd1]) v).rest
 -- the two Tj
 have x0:(execOp a0.eval o0).run P w= .ok .recover w:=by simp[execOp,e1,resolve,invoke,builtin]
 have x1:(execOp (a0.put o0.dst v).eval o1).run P w= .ok (.value v) w:=by
  have YI:d0 < a0.tmps.size:=by rw[hF0.size]; exact Tg
  have:(a0.put o0.dst v).eval (.tmp d0)=v:=by
   simp[Act.eval,e2,Act.put,afm,YI]
  simp[execOp,e4,this]
 have w0':afj o0 (yielded ops a0.tmps)=true:=by simp[afj,e3]
 have w1':afj o1 (yielded ops (a0.put o0.dst v).tmps)=true:=by simp[afj,e6]
 have DY:∃ JP,(∀ Q:Exit→Act→List Frame→World→Prop,wpOpsS P ops Q [1] (a0.put o0.dst v) JP w→wpOpsS P ops Q [0,1] a0 (c₀ :: cs) w)∧JP={ c₀ with mode:=m } :: cs:=by
  cases u with
  | run=>simp[NZ] at hu
  | returning=>
    simp[NZ] at hu; obtain ⟨rfl,rfl⟩:=hu
    refine ⟨c₀ :: cs,fun Q hq=>?_,by rw[← hc₀]⟩
    rw[wpOpsS,hg0]
    simp only[if_pos w0',x0,recoverD,hc₀]
    exact hq
  | panicking chain=>
    match chain,hu with
    | [{ v:=v',recovered:=false,goexit:=false }],hu=>
      simp[NZ] at hu; obtain ⟨rfl,rfl⟩:=hu
      refine ⟨_,fun Q hq=>?_,rfl⟩
      rw[wpOpsS,hg0]
      simp only[if_pos w0',x0,recoverD,hc₀]
      exact hq
 obtain ⟨JP,YJ,rfl⟩:=DY
 refine YJ _ ?_
 rw[wpOpsS,Th]
 simp only[if_pos w1',x1,Oper.upon_value]
 rw[wpOpsS]
 simp only[Exit.thenS]
 rw[e2,e5]
 refine wpS_of_wp ?_
 refine wp_mono (dI C hC BN (Same.refl w) h) fun e a w' hq=>?_
 have fin:∀ σ,F2 ⟨fn.ntmps,[]⟩ ⟨[],fun _=>undef⟩ keep [] σ [] a→Same w w'→tv (fun _ H'=>R H') w'.heap (j4 σ w'.heap rs)→
  a.defers=[]∧∃ u',{ c₀ with mode:=m } :: cs={ c₀ with mode:=u' } :: cs∧∃ v,(results fn a.tmps).run P w'= .ok v w'∧∃ v',Ending.returned v= .returned v'∧settle u'=settle m∧R w'.heap∧Same w w':=by
  intro σ fp gC cg
  refine ⟨fp.ir.1,m,rfl,?_⟩
  cases hr:j4 σ w'.heap rs with
  | none=>rw[hr] at cg; exact cg.elim
  | some vs=>
    rw[hr] at cg
    refine ⟨_,j5 fp hR hr,_,rfl,rfl,?_,gC⟩
    match vs,cg with
    | [],cg=>exact cg
    | [v],cg=>exact cg
    | v :: u :: r,cg=>exact cg
 cases e <;> simp only[QX,bodyPostS,u5] at hq ⊢
 ·obtain ⟨gC,σ,fp,cg⟩:=hq; exact fin σ fp gC cg
 ·obtain ⟨_,_,_,cg⟩:=hq; exact cg
 ·obtain ⟨gC,σ,fp,cg⟩:=hq; exact fin σ fp gC cg
 ·exact hq.2.2.elim
end
def DZ (o:Oper):Option (Nat × List Nat):=
 match o.op,o.dst,o.guard with
 | .defer { callee:=.value (.func g),args,argTypes:=_ },none,none=>
   match args.toList.mapM (fun (x:Operand)=>match x with | .tmp t=>some t | _=>none) with
   | some ts=>some (g,ts)
   | none=>none
 | _,_,_=>none
structure CFn where
 n:Nat
 keep:List Nat
 pre:cI
 acB:cI
 c:cE
 mid:cI
 last:List pL
 g:Nat
 args:List Nat
 code:cI
structure YK where
 p:Code
 c:Operand
 b:Code
 i:Nat
 ops:Array Oper
def JR:Code→Option YK
 | .seq p (.cond c (.seq b (.region i ops false)) .skip)=>some ⟨p,c,b,i,ops⟩
 | _=>none
def dJ:Code→Option (List Code × YK × Code)
 | .seq a b=>match JR a with
   | some x=>some ([],x,b)
   | none=>match dJ b with
     | some (l,x,r)=>some (a :: l,x,r)
     | none=>none
 | _=>none
def QG (x:YK):Code:=.seq x.p (.cond x.c (.seq x.b (.region x.i x.ops false)) .skip)
theorem D0 {c:Code} {x:YK} (h:JR c=some x):c=QG x:=by
 unfold JR at h
 split at h
 ·simp only[ae9.injEq] at h; subst h; rfl
 ·cases h
theorem p6:∀ {c:Code} {l:List Code} {x:YK} {r:Code},dJ c=some (l,x,r)→c=spine l (.seq (QG x) r)
 | .seq a b,l,x,r,h=>by
   simp only[dJ] at h
   split at h
   ·rename_i y hy
    simp only[ae9.injEq,aff.injEq] at h
    obtain ⟨rfl,rfl,rfl⟩:=h
    rw[D0 hy]; rfl
   ·split at h
    ·rename_i l' x' r' hb
     simp only[ae9.injEq,aff.injEq] at h
     obtain ⟨rfl,rfl,rfl⟩:=h
     rw[spine,← p6 hb]
    ·cases h
 | .skip,_,_,_,h=>by simp[dJ] at h
 | .region ..,_,_,_,h=>by simp[dJ] at h
 | .cond ..,_,_,_,h=>by simp[dJ] at h
 | .block ..,_,_,_,h=>by simp[dJ] at h
 | .loop ..,_,_,_,h=>by simp[dJ] at h
 | .exit ..,_,_,_,h=>by simp[dJ] at h
 | .ret,_,_,_,h=>by simp[dJ] at h
 | .rangeFunc ..,_,_,_,h=>by simp[dJ] at h
 | .scope ..,_,_,_,h=>by simp[dJ] at h
 | .label ..,_,_,_,h=>by simp[dJ] at h
 | .goto ..,_,_,_,h=>by simp[dJ] at h
 | .refuse ..,_,_,_,h=>by simp[dJ] at h
def tA (P:Program) (keep:List Nat) (fn:Func):Option CFn:=
 if keep.all (fun t=>decide (t < fn.ntmps)) && fn.results.toList.isEmpty then
  match fn.body with
  | some c=>match dJ c with
    | some (A,⟨p,x,B,_,ops⟩,C)=>
      match ops.toList.reverse with
      | o :: l=>match DZ o,lG P ⟨fn.ntmps,[]⟩ ops.toList l.reverse with
        | some (g,ts),some gs=>
          if dV P g then
           match lI P ⟨fn.ntmps,[]⟩ keep A,strip P ⟨fn.ntmps,[]⟩ keep p,strip P ⟨fn.ntmps,[]⟩ keep B,strip P ⟨fn.ntmps,[]⟩ keep C with
           | some a,some a2,some b,some c=>some ⟨fn.ntmps,keep,a,a2,cO keep [] x,b,comp keep (gs.length + 1) none [] gs,g,ts,c⟩
           | _,_,_,_=>none
          else none
        | _,_=>none
      | []=>none
    | none=>none
  | none=>none
 else none
def QH (P:Program) (F:CFn) (R:Value→Heap→Prop):lF
 | .yg,σ,H=>vc P (fun _ _=>False) F.acB σ H (u4 (fun σ H=>pY
  (vc P (fun _ _=>False) F.mid σ H (u4 (fun σ H=>ei P (fun _ _=>False) F.last σ [] H fun σ H=>∃ cs,rz F.keep σ F.args=some cs∧
   vc P (fun _ _=>False) F.code σ H fun x _ H'=>match x with
    | .ext _=>False
    | _=>gp P F.g cs.toArray .returning .returning H' (R (.tuple #[]))) fun _ _ _=>False))
  (vc P (fun _ _=>False) F.code σ H fun x _ H'=>match x with
   | .ext _=>False
   | _=>R (.tuple #[]) H')
  (fO σ [] F.c)) fun _ _ _=>False)
 | _,_,_=>False
section
variable {P:Program}
theorem nJ {E:cd→Heap→Prop} {n:Nx} {dd:DD} {ops:Array Oper} {Q:Exit→Act→World→Prop} {Q':Act→Heap→Prop} {r2:List Oper}:∀ (l:List Oper) (a:Act) (w w0:World),Same w0 w→
 jY n dd a→(∀ o ∈ l,gy n o.dst=true)→(∀ a w',Same w0 w'→Q' a w'.heap→wpList P ops Q r2 a w')→(∀ c a w',jY n dd a→Same w0 w'→E c w'.heap→Q (.panic c) a w')→jC (gY.all P E) ops Q' l a w.heap→wpList P ops Q (l ++ r2) a w
 | [],a,w,w0,hs,hd,hl,h,hE,hr=>h a w hs hr
 | o :: r,a,w,w0,hs,hd,hl,h,hE,hr=>by
   unfold jC at hr
   rw[List.cons_append]
   unfold wpList
   split
   ·rename_i hw; rw[if_pos hw] at hr
    exact .inl (qV.wp hr (fun v w' hR iF=>nJ r _ w' w0 (hs.trans iF) (hd.put (hl o (by simp)) _) (fun q hq=>hl q (by simp[hq])) h hE hR) fun c w' hc iF=>hE c a w' hd (hs.trans iF) hc)
   ·rename_i hw; rw[if_neg hw] at hr
    exact nJ r _ w w0 hs (hd.put (hl o (by simp)) _) (fun q hq=>hl q (by simp[hq])) h hE hr
theorem BO {o:Oper} {g:Nat} {ts:List Nat} (h:DZ o=some (g,ts)) :
 (∃ GX,o.op= .defer { callee:=.value (.func g),args:=(ts.map Operand.tmp).toArray,argTypes:=GX })∧o.dst=none∧o.guard=none:=by
 unfold DZ at h
 split at h
 ·rename_i g' args GX h1 h2 h3
  split at h
  ·rename_i bQ GZ
   simp only[ae9.injEq,aff.injEq] at h
   obtain ⟨rfl,rfl⟩:=h
   have e3:args=(bQ.map Operand.tmp).toArray:=by
    apply afh.1; simpa using yS GZ
   subst e3
   exact ⟨⟨GX,h1⟩,h2,h3⟩
  ·cases h
 ·cases h
theorem Ab {f:Nat} {fn:Func} {keep:List Nat} {F:Fn} {args:List Value} {H:Heap} {R:Value→Heap→Prop} (hf:P.funcs[f]?=some fn) (hs:ai P keep fn=some F)
 (hn:args.length≤F.n) (h:vc P (fun _ _=>False) F.code (pM F.keep args) H (u5 F.res R)):gp P f args.toArray .returning .returning H (fun H'=>∃ v,R v H'):=by
 unfold ai at hs
 split at hs
 case isFalse=>cases hs
 rename_i DL
 split at hs
 ·rename_i c hb
  split at hs
  ·rename_i s rs h1 h2
   simp at hs; subst hs
   intro w hw
   subst hw
   refine CallsD.mono (callsD_of_wp (R:=pI R (fun _ _=>False) w) hf hb ?_) ?_
   ·refine wp_mono (dI c h1 (lH (dd:=⟨[],fun _=>undef⟩) hn DL) (Same.refl w) h) fun e a w' hq=>?_
    have fin:∀ σ,F2 ⟨fn.ntmps,[]⟩ ⟨[],fun _=>undef⟩ keep [] σ [] a→Same w w'→tv R w'.heap (j4 σ w'.heap rs)→a.defers=[]∧∃ v,(results fn a.tmps).run P w'= .ok v w'∧pI R (fun _ _=>False) w (.returned v) w':=by
     intro σ fp gC cg
     refine ⟨fp.ir.1,?_⟩
     cases hr:j4 σ w'.heap rs with
     | none=>rw[hr] at cg; exact cg.elim
     | some vs=>
       rw[hr] at cg
       refine ⟨_,j5 fp h2 hr,?_,gC⟩
       match vs,cg with
       | [],cg=>exact cg
       | [v],cg=>exact cg
       | v :: u :: r,cg=>exact cg
    cases e <;> simp only[QX,bodyPost,u5] at hq ⊢
    ·obtain ⟨gC,σ,fp,cg⟩:=hq; exact fin σ fp gC cg
    ·obtain ⟨_,_,_,cg⟩:=hq; exact cg
    ·obtain ⟨gC,σ,fp,cg⟩:=hq; exact fin σ fp gC cg
    ·obtain ⟨gC,Jg,hE⟩:=hq; exact ⟨Jg.1,hE,gC⟩
   ·rintro e u' w' ⟨rfl,he⟩
    cases e with
    | returned v=>exact ⟨v,rfl,rfl,⟨v,he.1⟩,he.2⟩
    | panicked c=>exact he.1.elim
    | outgrown=>exact he.elim
  ·simp at hs
 ·simp at hs
theorem yw {f:Nat} {fn:Func} {keep:List Nat} {F:CFn} {args:List Value} {H:Heap} {R:Value→Heap→Prop} (hf:P.funcs[f]?=some fn) (hs:tA P keep fn=some F)
 (hn:args.length≤F.n) (h:vc P (fun _ _=>False) F.pre (pM F.keep args) H (QH P F R)):aE P f args.toArray H R:=by
 unfold tA at hs
 split at hs
 case isFalse=>cases hs
 rename_i DL
 simp only[ae5,List.isEmpty_iff] at DL
 obtain ⟨DL,Jy⟩:=DL
 split at hs
 case h_2=>cases hs
 rename_i body hb
 split at hs
 case h_2=>cases hs
 rename_i A p x B i ops C rr
 have YH:=p6 rr
 subst YH
 split at hs
 case h_2=>cases hs
 rename_i o l DW
 split at hs
 case h_2=>cases hs
 rename_i g ts gs W8 W1
 split at hs
 case isFalse=>cases hs
 rename_i hgb
 split at hs
 case h_2=>cases hs
 rename_i sa sp sb sc hA hp hB hC
 simp only[ae9.injEq] at hs; subst hs
 obtain ⟨⟨GX,e1⟩,e2,e3⟩:=BO W8
 have ln:ops.toList=l.reverse ++ [o]:=by
  have:=congrArg List.reverse DW
  simpa using this
 have hr0:∀ (tmps:Array Value) (w:World),(results fn tmps).run P w= .ok (.tuple #[]) w:=by
  intro tmps w
  have:fn.results=#[]:=afh.1 Jy
  simp[results,this]
 intro w hw
 subst hw
 refine calls_of_wp_defers hf hb ?_
 refine tz (fun e a w1 he hq=>?_) (fun a w1 σ fp gK hq=>?_) hA (lH (dd:=⟨[],fun _=>undef⟩) hn DL) (Same.refl w) h
 ·cases e <;> simp only[QX,bodyPostD] at hq ⊢
  case normal=>exact absurd rfl he
  case exit=>exact hq.2.elim fun σ h=>h.2.elim
  case panic=>exact hq.2.2.elim
  case ret=>exact hq.2.elim fun σ h=>h.2.elim
 ·have plain:∀ (a:Act) (w':World) (σ:bf),F2 ⟨fn.ntmps,[]⟩ ⟨[],fun _=>undef⟩ keep [] σ [] a→Same w w'→
   vc P (fun _ _=>False) sc σ w'.heap (fun x _ H'=>match x with | .ext _=>False | _=>R (.tuple #[]) H')→C.wp P (bodyPostD P fn (pI R (fun _ _=>False) w)) a w':=by
   intro a w' σ fJ iF hv
   refine wp_mono (dI C hC fJ iF hv) fun e a' w' hq=>?_
   have fin:∀ σ',F2 ⟨fn.ntmps,[]⟩ ⟨[],fun _=>undef⟩ keep [] σ' [] a'→Same w w'→R (.tuple #[]) w'.heap→Leaves P fn a'.tmps (pI R (fun _ _=>False) w) a'.defers .returning w':=by
    intro σ' fJ iF hR
    rw[fJ.ir.1]
    exact ⟨_,hr0 _ _,hR,iF⟩
   cases e <;> simp only[QX,bodyPostD] at hq ⊢
   ·obtain ⟨iF,σ',fJ,hq⟩:=hq; exact fin σ' fJ iF hq
   ·exact hq.2.elim fun _ h=>h.2.elim
   ·obtain ⟨iF,σ',fJ,hq⟩:=hq; exact fin σ' fJ iF hq
   ·exact hq.2.2.elim
  refine wp_seq (wp_seq (wp_mono (dI p hp fp gK hq) fun e a w1 hq=>?_))
  cases e <;> simp only[QX,Exit.then,u4] at hq ⊢
  case exit=>exact hq.2.elim fun σ h=>h.2.elim
  case panic=>exact hq.2.2.elim
  case ret=>exact hq.2.elim fun σ h=>h.2.elim
  obtain ⟨gK,σ,fp,hq⟩:=hq
  simp only[pY] at hq
  split at hq
  case h_2=>exact hq.elim
  rename_i t ht
  refine wp_cond_split (fp.agree x _ ht) (fun ht=>?_) (fun ht=>?_)
  ·replace hq:=hq.1 ht
   refine wp_seq (wp_mono (dI B hB fp gK hq) fun e a' w' hq=>?_)
   cases e <;> simp only[QX,Exit.then,u4] at hq ⊢
   case exit=>exact hq.2.elim fun σ h=>h.2.elim
   case panic=>exact hq.2.2.elim
   case ret=>exact hq.2.elim fun σ h=>h.2.elim
   obtain ⟨iF,σ',fJ,hq⟩:=hq
   refine wp_region_list ?_
   rw[ln]
   have ta:=iM W1
   have:=qm (keep:=keep) (gY.all P (fun _ _=>False)) (Q:=fun a H=>∃ σ,F2 ⟨fn.ntmps,[]⟩ ⟨[],fun _=>undef⟩ keep [] σ [] a∧∃ cs,rz keep σ ts=some cs∧
    vc P (fun _ _=>False) sc σ H fun x _ H'=>match x with
     | .ext _=>False
     | _=>gp P g cs.toArray .returning .returning H' (R (.tuple #[]))) (K:=fun σ H=>∃ cs,rz keep σ ts=some cs∧
    vc P (fun _ _=>False) sc σ H fun x _ H'=>match x with
     | .ext _=>False
     | _=>gp P g cs.toArray .returning .returning H' (R (.tuple #[]))) (fun lay σ τ a H hf h=>⟨_,hf.rest,h⟩) (gs.length + 1) none [] gs l.reverse ta uD σ' [] a' w'.heap fJ hq
   refine nJ (n:=⟨fn.ntmps,[]⟩) (dd:=⟨[],fun _=>undef⟩) (E:=fun _ _=>False) l.reverse a' w' w iF fJ.ir (uC ta) (fun a2 w2 jl h2=>?_) (fun c a w' hd iF hE=>hE.elim) this
   obtain ⟨σ2,cQ,cs,Iu,hv⟩:=h2
   obtain ⟨g1,g2⟩:=mw cQ Iu
   unfold wpList
   rw[if_pos (by simp[afj,e3])]
   refine .inl ?_
   unfold Oper.wp
   have x2:(execOp a2.eval o).run P w2= .ok (.defer { target:=.fn (.func g) #[],args:=cs.toArray }) w2:=by
    have:(ts.map Operand.tmp).toArray.map a2.eval=cs.toArray:=by
     apply afh.1
     simp only[agx,agh]
     rw[← g1]
     apply af8
     intro t ht
     rfl
    have ef:a2.eval (.func g)= .func (.func g) #[] #[]:=rfl
    simp[execOp,e1,resolve,ef,Deferred.ofValue,← this]
   rw[x2]
   simp only[Oper.upon_defer]
   unfold wpList
   have Tg:a2.defers=[]:=cQ.ir.1
   let a3:Act:={ a2 with defers:=[{ target:=.fn (.func g) #[],args:=cs.toArray }] }
   have Te:({ a2 with defers:={ target:=.fn (.func g) #[],args:=cs.toArray } :: a2.defers }:Act).put o.dst undef=a3:=by
    simp[e2,a3,Act.put,Tg]
   rw[Te]
   simp only[Exit.then]
   let dd:DD:=⟨[{ target:=.fn (.func g) #[],args:=cs.toArray }],fun _=>undef⟩
   have JQ:F2 ⟨fn.ntmps,[]⟩ dd keep [] σ2 [] a3:=
    ⟨cQ.size,⟨rfl,fun t ht=>by cases ht⟩,fun t k v ht hu=>cQ.mZ t k v ht hu,fun t k v _ hk _=>by simp[posOf] at hk⟩
   refine wp_mono (dI C hC JQ jl hv) fun e a' w' hq=>?_
   have fin:jY ⟨fn.ntmps,[]⟩ dd a'→Same w w'→gp P g cs.toArray .returning .returning w'.heap (R (.tuple #[]))→
    Leaves P fn a'.tmps (pI R (fun _ _=>False) w) a'.defers .returning w':=by
    intro Jg iF hD
    rw[Jg.1]
    refine leaves_cons (f:=g) (args:=cs.toArray) (by simp) ?_ ((hD w' rfl).mono fun e m WI ⟨v,he,hm,QF,Tf⟩=>?_)
    ·simp[invoke,jB hgb]
    ·subst he
     simp only[hm]
     exact ⟨_,hr0 _ _,QF,iF.trans Tf⟩
   cases e <;> simp only[QX,bodyPostD] at hq ⊢
   ·obtain ⟨iF,σ',fJ,hq⟩:=hq; exact fin fJ.ir iF hq
   ·exact hq.2.elim fun _ h=>h.2.elim
   ·obtain ⟨iF,σ',fJ,hq⟩:=hq; exact fin fJ.ir iF hq
   ·exact hq.2.2.elim
  ·exact wp_skip (plain a w1 σ fp gK (hq.2 ht))
end
end Gx
namespace Go.Proofs.YtmhdkbmnpekpoaaGreatDoor
open Gx Go
def YL:cI:=(.seq (.ops [(.op none (.s 2) (.al 24 [(.int .i64 0),(.string ⟨⟨[]⟩⟩),(.int .i64 0),(.int .i64 0),(.slice none 0 0)])),(.op none (.s 3) (.al 31 [(.int .i64 0),(.int .i64 0)]))]) (.seq (.ops [(.op none .t (.v (.mv (.s 0)))),(.op none .t (.call 51 [(.t 0)])),(.op none .t (.v (.mv (.t 0)))),(.op none .t (.v (.ext (.t 0) 0))),(.op none .t (.v (.ext (.t 1) 1))),(.op none (.s 5) (.al 31 [(.int .i64 0),(.int .i64 0)])),(.op none (.s 4) (.v (.mv (.t 1)))),(.op none .no (.st 2 (.s 5) (.t 0)))]) (.seq (.seq (.ops [(.op none .t (.v (.fa 0 (.s 5)))),(.op none .t (.ld none (.t 0))),(.op none (.s 7) (.v (.bin .neq (.t 0) (.c (.int .i64 0)))))]) (.cond (.s 7) (.seq (.de (.rd none .t (.v (.jA [(.int .i64 0),(.string ⟨⟨[]⟩⟩),(.int .i64 0),(.int .i64 0),(.slice none 0 0)] [])) [2,3] (.rd none .t (.ld (some 2) (.s 5)) [3] (.ef 2 none .no (.st 5 (.s 2) (.t 1)) (.ef 3 none .no (.st 2 (.s 3) (.t 0)) .done))))) .ret) .skip)) (.seq (.ops [(.op none .t (.v (.mv (.s 4)))),(.op none .t (.v (.jA [(.slice none 0 0),(.int .i64 0),(.int .i64 0)] [(0,(1,(.t 0)))]))),(.op none .t (.bx 74 (.t 0))),(.op none (.s 6) (.v (.mv (.t 0))))]) .skip))))
def YM:cI:=(.seq (.ops [(.op none .t (.v (.mv (.s 1)))),(.op none .t (.v (.mv (.s 6)))),(.op none .t (.cv (.t 1) [(.t 0)])),(.op none .no (.st 5 (.s 2) (.t 0)))]) (.seq (.seq (.ops [(.op none .t (.v (.mv (.s 6)))),(.op none .t (.call 35 [(.t 0)])),(.op none .t (.v (.jW 0 (.t 0)))),(.op none (.s 8) (.v (.bin .neq (.t 0) (.c (.int .i64 6)))))]) (.cond (.s 8) (.ops [(.op none .t (.v (.mv (.s 6)))),(.op none .t (.call 53 [(.t 0),(.c (.int .i64 2))]))]) .skip)) (.seq (.ops [(.op none .t (.ld (some 5) (.s 2))),(.op none .t (.v (.jA [(.int .i64 0),(.int .i64 0)] []))),(.op none .no (.st 5 (.s 2) (.t 1))),(.op none .no (.st 2 (.s 3) (.t 0)))]) .ret)))
def c26:Gx.DFn:=⟨34,[0,1,4,5,6,7,8,16,29],[4,5],YL,52,[5,4],YM,[(.cell (.s 0) (some 5)),(.cell (.s 1) (some 2))],[(.cell (.s 2) (some 5)),(.cell (.s 3) (some 2))]⟩
theorem YN:we afI [0,1,4,5,6,7,8,16,29] [4,5] Tryz.f26=some c26:=by kernel_rfl
def Tl:cI:=(.seq (.ops [(.op none .t (.v (.mv (.s 2)))),(.op none (.s 3) (.v (.nD true (.t 0))))]) (.cond (.s 3) (.seq (.ops [(.op none .t (.v (.mv (.s 2)))),(.op none .t (.v (.WK 31 (.t 0)))),(.op none .no (.st 2 (.s 0) (.t 0)))]) (.ops [(.op none .t (.v (.jA [(.int .i64 0),(.string ⟨⟨[]⟩⟩),(.int .i64 0),(.int .i64 0),(.slice none 0 0)] []))),(.op none .no (.st 5 (.s 1) (.t 0)))])) .skip))
def c52:Gx.RFn:=⟨9,[0,1,2,5],3,2,Tl,[]⟩
theorem QI:wh afI [0,1,2,5] Tryz.f52=some c52:=by kernel_rfl
def YO:cI:=(.ops [(.op none .t (.ld (some 5) (.s 3))),(.op none .t (.call 45 [(.t 0)])),(.op none .t (.v (.mv (.s 2)))),(.op none (.s 9) (.v (.bin .lss (.t 1) (.t 0))))])
def YP:cI:=(.seq (.ops [(.op none (.s 3) (.bx 24 (.s 1)))]) .skip)
def YQ:cI:=(.ops [(.op none .t (.v (.mv (.s 0)))),(.op none .t (.bs 9 1 [(.string ⟨⟨[]⟩⟩)] [(0,(1,(.c (.string ⟨⟨[40]⟩⟩))))])),(.op none .t (.call 32 [(.t 1),(.t 0)]))])
def YR:List pL:=[(.op none (.s 10) (.v (.mv (.s 0)))),(.op none (.s 11) (.bs 9 1 [(.string ⟨⟨[]⟩⟩)] [(0,(1,(.c (.string ⟨⟨[41]⟩⟩))))]))]
def Tm:cI:=(.seq (.ops [(.op none .t (.v (.fa 0 (.s 3)))),(.op none .t (.ld none (.t 0))),(.op none .t (.call 46 [(.t 0)])),(.op none .t (.v (.mv (.t 0)))),(.op none .t (.v (.ext (.t 0) 0))),(.op none .t (.v (.ext (.t 1) 1))),(.op none .t (.v (.ext (.t 2) 2))),(.op none .t (.v (.ext (.t 3) 3))),(.op none (.s 4) (.v (.mv (.t 3)))),(.op none .t (.v (.mv (.t 2)))),(.op none (.s 5) (.v (.mv (.t 2)))),(.op none (.s 6) (.v (.mv (.t 1))))]) (.block 0 (.seq (.ops [(.op none .t (.v (.mv (.s 4)))),(.op none .t (.v (.bin .neq (.t 0) (.c (.string ⟨⟨[]⟩⟩))))),(.op none (.s 12) (.v (.mv (.t 0))))]) (.cond (.s 12) (.seq (.ops [(.op none .t (.v (.mv (.s 0)))),(.op none .t (.ld (some 5) (.s 3))),(.op none .t (.call 47 [(.t 0)])),(.op none .t (.v (.mv (.t 0)))),(.eO (.t 0) true [(.op (.v (.fa 4 (.s 3)))),(.op (.ld none (.t 0))),(.op (.v (.len (.t 0)))),(.op (.v (.bin .eql (.t 0) (.c (.int .i64 2)))))] .t (.t 0) (.c (.bool false))),(.op none (.s 13) (.call 29 [(.t 4),(.t 0)]))]) (.cond (.s 13) (.seq (.ops [(.op none .t (.v (.mv (.s 0)))),(.op none .t (.v (.fa 4 (.s 3)))),(.op none .t (.ld none (.t 0))),(.op none .t (.v (.ix 5 (.t 0) (.c (.int .i64 0))))),(.op none .t (.ld (some 5) (.t 0))),(.op none .t (.v (.mv (.s 5)))),(.op none .t (.call 23 [(.t 5),(.t 1),(.t 0)]))]) (.seq (.ops [(.op none .t (.v (.mv (.s 0)))),(.op none .t (.v (.mv (.s 4)))),(.op none .t (.bs 9 3 [(.string ⟨⟨[]⟩⟩),(.string ⟨⟨[]⟩⟩),(.string ⟨⟨[]⟩⟩)] [(0,(1,(.c (.string ⟨⟨[32]⟩⟩)))),(1,(1,(.t 0))),(2,(1,(.c (.string ⟨⟨[32]⟩⟩))))])),(.op none .t (.call 32 [(.t 2),(.t 0)]))]) (.ops [(.op none .t (.v (.mv (.s 0)))),(.op none .t (.v (.fa 4 (.s 3)))),(.op none .t (.ld none (.t 0))),(.op none .t (.v (.ix 5 (.t 0) (.c (.int .i64 1))))),(.op none .t (.ld (some 5) (.t 0))),(.op none .t (.v (.mv (.s 6)))),(.op none .t (.call 23 [(.t 5),(.t 1),(.t 0)]))]))) .skip)) (.seq (.ops [(.op none .t (.v (.fa 0 (.s 3)))),(.op none .t (.ld none (.t 0))),(.op none .t (.v (.bin .eql (.t 0) (.c (.int .i64 30))))),(.op none (.s 14) (.v (.mv (.t 0))))]) (.cond (.s 14) (.seq (.ops [(.op none .t (.v (.mv (.s 0)))),(.op none .t (.ld (some 5) (.s 3))),(.op none .t (.call 47 [(.t 0)])),(.op none .t (.v (.mv (.t 0)))),(.eO (.t 0) true [(.op (.v (.fa 4 (.s 3)))),(.op (.ld none (.t 0))),(.op (.v (.len (.t 0)))),(.op (.v (.bin .eql (.t 0) (.c (.int .i64 3)))))] .t (.t 0) (.c (.bool false))),(.op none (.s 15) (.call 29 [(.t 4),(.t 0)]))]) (.cond (.s 15) (.seq (.ops [(.op none (.s 16) (.v (.jA [(.string ⟨⟨[]⟩⟩),(.string ⟨⟨[]⟩⟩),(.string ⟨⟨[]⟩⟩)] [(0,(1,(.c (.string ⟨⟨[105,102,32]⟩⟩)))),(1,(1,(.c (.string ⟨⟨[32,116,104,101,110,32]⟩⟩)))),(2,(1,(.c (.string ⟨⟨[32,101,108,115,101,32]⟩⟩))))]))),(.op none (.s 17) (.v (.mv (.c (.int .i64 0)))))]) (.block 1 (.loop [0,1,2,4,6,8,9,10,11,15,19,20,32,44,63,76,77,78,79,94,107,117,126,139,152] (.seq (.ops [(.op none (.s 18) (.v (.bin .lss (.s 17) (.c (.int .i64 3)))))]) (.seq (.cond (.s 18) .skip (.exit 1)) (.seq (.block 2 (.seq (.ops [(.op none .t (.v (.mv (.s 17)))),(.op none .t (.v (.WL 1 3 (.s 16) (.s 17)))),(.op none (.s 7) (.v (.mv (.t 1)))),(.op none (.s 8) (.v (.mv (.t 0))))]) (.seq (.ops [(.op none .t (.v (.mv (.s 0)))),(.op none .t (.v (.mv (.s 8)))),(.op none .t (.bs 9 1 [(.string ⟨⟨[]⟩⟩)] [(0,(1,(.t 0)))])),(.op none .t (.call 32 [(.t 2),(.t 0)]))]) (.ops [(.op none .t (.v (.mv (.s 0)))),(.op none .t (.v (.fa 4 (.s 3)))),(.op none .t (.ld none (.t 0))),(.op none .t (.v (.mv (.s 7)))),(.op none .t (.v (.ix 5 (.t 1) (.t 0)))),(.op none .t (.ld (some 5) (.t 0))),(.op none .t (.call 23 [(.t 5),(.t 0),(.c (.int .i64 0))]))])))) (.ops [(.op none .t (.v (.bin .add (.s 17) (.c (.int .i64 1))))),(.op none (.s 17) (.v (.mv (.t 0))))]))))))) .skip)) (.seq (.ops [(.op none .t (.v (.fa 0 (.s 3)))),(.op none .t (.ld none (.t 0))),(.op none .t (.v (.bin .eql (.t 0) (.c (.int .i64 33))))),(.op none (.s 19) (.v (.mv (.t 0))))]) (.cond (.s 19) (.seq (.ops [(.op none .t (.v (.mv (.s 0)))),(.op none .t (.ld (some 5) (.s 3))),(.op none .t (.call 47 [(.t 0)])),(.op none .t (.v (.mv (.t 0)))),(.eO (.t 0) true [(.op (.v (.fa 4 (.s 3)))),(.op (.ld none (.t 0))),(.op (.v (.len (.t 0)))),(.op (.v (.bin .eql (.t 0) (.c (.int .i64 1)))))] .t (.t 0) (.c (.bool false))),(.op none (.s 20) (.call 29 [(.t 4),(.t 0)]))]) (.cond (.s 20) (.seq (.ops [(.op none .t (.v (.mv (.s 0)))),(.op none .t (.bs 9 1 [(.string ⟨⟨[]⟩⟩)] [(0,(1,(.c (.string ⟨⟨[110,111,116,32]⟩⟩))))])),(.op none .t (.call 32 [(.t 1),(.t 0)]))]) (.ops [(.op none .t (.v (.mv (.s 0)))),(.op none .t (.v (.fa 4 (.s 3)))),(.op none .t (.ld none (.t 0))),(.op none .t (.v (.ix 5 (.t 0) (.c (.int .i64 0))))),(.op none .t (.ld (some 5) (.t 0))),(.op none .t (.call 23 [(.t 4),(.t 0),(.c (.int .i64 3))]))])) .skip)) (.seq (.ops [(.op none .t (.v (.fa 0 (.s 3)))),(.op none .t (.ld none (.t 0))),(.op none .t (.v (.bin .eql (.t 0) (.c (.int .i64 42))))),(.op none (.s 21) (.v (.mv (.t 0))))]) (.cond (.s 21) (.seq (.ops [(.op none .t (.v (.mv (.s 0)))),(.op none .t (.v (.fa 4 (.s 3)))),(.op none .t (.ld none (.t 0))),(.op none .t (.v (.len (.t 0)))),(.op none .t (.v (.bin .eql (.t 0) (.c (.int .i64 1))))),(.op none (.s 22) (.call 29 [(.t 4),(.t 0)]))]) (.cond (.s 22) (.seq (.ops [(.op none .t (.v (.mv (.s 0)))),(.op none .t (.v (.fa 4 (.s 3)))),(.op none .t (.ld none (.t 0))),(.op none .t (.v (.ix 5 (.t 0) (.c (.int .i64 0))))),(.op none .t (.ld (some 5) (.t 0))),(.op none .t (.call 23 [(.t 4),(.t 0),(.c (.int .i64 7))]))]) (.seq (.ops [(.op none .t (.v (.mv (.s 0)))),(.op none .t (.bs 9 1 [(.string ⟨⟨[]⟩⟩)] [(0,(1,(.c (.string ⟨⟨[46]⟩⟩))))])),(.op none .t (.call 32 [(.t 1),(.t 0)]))]) (.ops [(.op none .t (.v (.mv (.s 0)))),(.op none .t (.ld (some 5) (.s 3))),(.op none .t (.call 48 [(.t 1),(.t 0)]))]))) .skip)) (.seq (.ops [(.op none .t (.v (.fa 0 (.s 3)))),(.op none .t (.ld none (.t 0))),(.op none .t (.v (.bin .eql (.t 0) (.c (.int .i64 43))))),(.op none (.s 23) (.v (.mv (.t 0))))]) (.cond (.s 23) (.seq (.ops [(.op none .t (.v (.mv (.s 0)))),(.op none .t (.ld (some 5) (.s 3))),(.op none .t (.call 47 [(.t 0)])),(.op none .t (.v (.mv (.t 0)))),(.eO (.t 0) true [(.op (.v (.fa 4 (.s 3)))),(.op (.ld none (.t 0))),(.op (.v (.len (.t 0)))),(.op (.v (.bin .eql (.t 0) (.c (.int .i64 2)))))] .t (.t 0) (.c (.bool false))),(.op none (.s 24) (.call 29 [(.t 4),(.t 0)]))]) (.cond (.s 24) (.seq (.ops [(.op none .t (.v (.mv (.s 0)))),(.op none .t (.v (.fa 4 (.s 3)))),(.op none .t (.ld none (.t 0))),(.op none .t (.v (.ix 5 (.t 0) (.c (.int .i64 0))))),(.op none .t (.ld (some 5) (.t 0))),(.op none .t (.call 23 [(.t 4),(.t 0),(.c (.int .i64 7))]))]) (.seq (.ops [(.op none .t (.v (.mv (.s 0)))),(.op none .t (.bs 9 1 [(.string ⟨⟨[]⟩⟩)] [(0,(1,(.c (.string ⟨⟨[91]⟩⟩))))])),(.op none .t (.call 32 [(.t 1),(.t 0)]))]) (.seq (.ops [(.op none .t (.v (.mv (.s 0)))),(.op none .t (.v (.fa 4 (.s 3)))),(.op none .t (.ld none (.t 0))),(.op none .t (.v (.ix 5 (.t 0) (.c (.int .i64 1))))),(.op none .t (.ld (some 5) (.t 0))),(.op none .t (.call 23 [(.t 4),(.t 0),(.c (.int .i64 0))]))]) (.ops [(.op none .t (.v (.mv (.s 0)))),(.op none .t (.bs 9 1 [(.string ⟨⟨[]⟩⟩)] [(0,(1,(.c (.string ⟨⟨[93]⟩⟩))))])),(.op none .t (.call 32 [(.t 1),(.t 0)]))])))) .skip)) (.ops [(.op none .t (.v (.mv (.s 0)))),(.op none .t (.ld (some 5) (.s 3))),(.op none .t (.call 49 [(.t 1),(.t 0)]))])))))))))))))
def c23:Gx.CFn:=⟨171,[0,1,2,4,6,8,9,10,11,15,19,20,32,44,63,76,77,78,79,94,107,117,126,139,152],YP,YO,(.s 9),YQ,YR,32,[19,20],Tm⟩
theorem YS:tA afI [0,1,2,4,6,8,9,10,11,15,19,20,32,44,63,76,77,78,79,94,107,117,126,139,152] Tryz.f23=some c23:=by kernel_rfl
@[go_sem] def c3k:List Nat:=[0,1,2,3,4,5,6,7,8,9,10,12,15,22,26,50,54,60,64,70,101]
def c3:Gx.Fn:=⟨102,c3k,(.seq (.ops [oS 1 (.bx 24 S0),mS 2 (.c (.bool false))]) (.seq (.seq (.ops [oT (.call 9 []),oS 11 (.v (.un .not T0))]) (.cond u9 (.seq (.ops [mS 2 (.c (.bool false))]) .ret) .skip)) (.seq (.seq (.ops [oT (.ld (some 5) S1),oT (.call 10 [T0,(C 120)]),oS 12 (.v (.un .not T0))]) (.cond wb (.seq (.ops [mS 2 (.c (.bool true))]) .ret) .skip)) (.seq (.ops [oT (.ld (some 5) S1),oT (.call 11 [T0]),mT T0,oT (.v (.ext T0 0)),oT (.v (.ext T1 1)),mS 3 T1,mS 4 T0]) (.seq (.seq (.ops [mT S4,oS 13 (.v (.bin .neq T0 (C 0)))]) (.cond Dp (.seq (.ops [mS 2 (.c (.bool true))]) .ret) .skip)) (.seq (.seq (.ops [mS 5 (C 0)]) (.block 0 (.loop c3k (.seq (.seq (.ops [mT S5,mT S3,oT (.v (.gP T0)),oS 14 (.v (.bin .lss T2 T0))]) (.cond DQ .skip (.exit 0))) (.seq (.block 1 (.seq (.seq (.ops [mT S3,mT S5,oT (.v (.vm T1 T0)),oT (.v (.bin .neq T0 (.c (.int .u8 40)))),mT T0,(.op (some (T0,(false,true))) .t (.v (.mv S5))),(.op (some (T1,(false,false))) .t (.v (.bin .gtr T0 (C 0)))),(.op (some (T2,(false,false))) .t (.v (.mv T0))),(.op (some (T0,(true,true))) .t (.v (.mv S3))),(.op (some (T1,(true,false))) .t (.v (.mv S5))),(.op (some (T2,(true,false))) .t (.v (.bin .sub T0 (C 1)))),(.op (some (T3,(true,false))) .t (.v (.vm T2 T0))),(.op (some (T4,(true,false))) .t (.v (.bin .geq T0 (.c (.int .u8 97))))),(.op (some (T8,(false,true))) .t (.v (.pick T5 T0 (.c (.bool false))))),(.op (some (T9,(false,false))) .t (.v (.mv T0))),(.op (some (T0,(true,true))) .t (.v (.mv S3))),(.op (some (T1,(true,false))) .t (.v (.mv S5))),(.op (some (T2,(true,false))) .t (.v (.bin .sub T0 (C 1)))),(.op (some (T3,(true,false))) .t (.v (.vm T2 T0))),(.op (some (T4,(true,false))) .t (.v (.bin .leq T0 (.c (.int .u8 122))))),(.op (some (T15,(false,true))) .t (.v (.pick T5 T0 (.c (.bool false))))),oS 15 (.v (.pick T16 (.c (.bool true)) T0))]) (.cond M0 (.exit 1) .skip)) (.seq (.ops [mT S5,oT (.v (.bin .add T0 (C 1))),mS 6 T0]) (.seq (.seq (.ops [mS 7 (C 1)]) (.block 2 (.loop c3k (.seq (.seq (.ops [mT S7,oS 16 (.v (.bin .gtr T0 (C 0)))]) (.cond NU .skip (.exit 2))) (.seq (.block 3 (.seq (.seq (.ops [mT S6,mT S3,oT (.v (.gP T0)),oS 17 (.v (.bin .geq T2 T0))]) (.cond Qh (.seq (.ops [mS 2 (.c (.bool false))]) .ret) .skip)) (.seq (.seq (.ops [mT S3,mT S6,oT (.v (.vm T1 T0)),oS 18 (.v (.bin .eql T0 (.c (.int .u8 40))))]) (.cond Qi (.ops [mT S7,oT (.v (.bin .add T0 (C 1))),mS 7 T0]) .skip)) (.seq (.ops [mT S3,mT S6,oT (.v (.vm T1 T0)),oS 19 (.v (.bin .eql T0 (.c (.int .u8 41))))]) (.cond Sq (.ops [mT S7,oT (.v (.bin .sub T0 (C 1))),mS 7 T0]) .skip))))) (.ops [mT S6,oT (.v (.bin .add T0 (C 1))),mS 6 T0])))))) (.seq (.dq [mT S3,mT S5,oT (.v (.MR T1 none (some T0))),oT (.v (.bin .add T0 (.c (.string ⟨⟨[32]⟩⟩)))),mT S3,mT S5,oT (.v (.bin .add T0 (C 1))),mT S6,oT (.v (.bin .sub T0 (C 1))),oT (.v (.MR T4 (some T2) (some T0))),oT (.v (.bin .add T6 T0)),oT (.v (.bin .add T0 (.c (.string ⟨⟨[32]⟩⟩)))),mT S3,mT S6,oT (.v (.MR T1 (some T0) none)),oT (.v (.bin .add T3 T0)),mS 8 T0]) (.seq (.ops [mT S8,oT (.call 12 [T0]),mT T0,oT (.v (.ext T0 0)),oT (.v (.ext T1 1)),oS 9 (.al 24 [(I 0),(.string ⟨⟨[]⟩⟩),(I 0),(I 0),Z]),oS 10 (.al 31 [(I 0),(I 0)]),oN (.st 5 S9 T1),oN (.st 2 rq T0)]) (.seq (.ops [fT 0 rq,lT T0,oT (.v (.bin .eql T0 (C 0))),mT T0,(.op (some (T0,(true,true))) .t (.ld (some 5) S9)),(.op (some (T1,(true,false))) .t (.ld (some 5) S1)),(.op (some (T2,(true,false))) .t (.call 13 [T1,T0])),oS 20 (.v (.pick T3 T0 (.c (.bool false))))]) (.cond V8 (.seq (.ops [mS 2 (.c (.bool false))]) .ret) .skip)))))))) (.ops [mT S5,oT (.v (.bin .add T0 (C 1))),mS 5 T0])))))) (.seq (.ops [mS 2 (.c (.bool true))]) .ret))))))),[(.tmp S2)]⟩
@[go_sem] def c4k:List Nat:=[0,1,2,3,4,5,6,7,8,9,10,11,12,13,14,16,19,26,40,47,61,68,82]
def c4:Gx.Fn:=⟨83,c4k,(.seq (.ops [oS 1 (.bx 24 S0),mS 2 (.c (.bool false))]) (.seq (.seq (.ops [oT (.call 9 []),oS 15 (.v (.un .not T0))]) (.cond M0 (.seq (.ops [mS 2 (.c (.bool false))]) .ret) .skip)) (.seq (.seq (.ops [oT (.ld (some 5) S1),oT (.call 10 [T0,(C 300)]),oS 16 (.v (.un .not T0))]) (.cond NU (.seq (.ops [mS 2 (.c (.bool true))]) .ret) .skip)) (.seq (.seq (.ops [oT (.ld (some 5) S1),oT (.call 14 [T0]),mT T0,oT (.v (.ext T0 0)),oT (.v (.ext T1 1)),mS 3 T1,mS 4 T0]) (.seq (.ops [mT S4,oS 17 (.v (.bin .eql T0 (C 0)))]) (.cond Qh (.seq (.ops [mT S3,oT (.call 15 [T0]),mT T0,oT (.v (.ext T0 0)),oT (.v (.ext T1 1)),oS 5 (.al 24 [(I 0),(.string ⟨⟨[]⟩⟩),(I 0),(I 0),Z]),oS 6 (.al 31 [(I 0),(I 0)]),oN (.st 5 S5 T1),oN (.st 2 S6 T0)]) (.seq (.ops [fT 0 S6,lT T0,oT (.v (.bin .neq T0 (C 0))),mT T0,(.op (some (T0,(false,true))) .t (.ld (some 5) S5)),(.op (some (T1,(false,false))) .t (.ld (some 5) S1)),(.op (some (T2,(false,false))) .t (.call 13 [T1,T0])),(.op (some (T3,(false,false))) .t (.v (.un .not T0))),oS 18 (.v (.pick T4 (.c (.bool true)) T0))]) (.cond Qi (.seq (.ops [mS 2 (.c (.bool false))]) .ret) .skip))) .skip))) (.seq (.seq (.ops [oT (.ld (some 5) S1),oT (.call 11 [T0]),mT T0,oT (.v (.ext T0 0)),oT (.v (.ext T1 1)),mS 7 T1,mS 8 T0]) (.seq (.ops [mT S8,oS 19 (.v (.bin .eql T0 (C 0)))]) (.cond Sq (.seq (.ops [mT S7,oT (.call 12 [T0]),mT T0,oT (.v (.ext T0 0)),oT (.v (.ext T1 1)),oS 9 (.al 24 [(I 0),(.string ⟨⟨[]⟩⟩),(I 0),(I 0),Z]),oS 10 (.al 31 [(I 0),(I 0)]),oN (.st 5 S9 T1),oN (.st 2 rq T0)]) (.seq (.ops [fT 0 rq,lT T0,oT (.v (.bin .neq T0 (C 0))),mT T0,(.op (some (T0,(false,true))) .t (.ld (some 5) S9)),(.op (some (T1,(false,false))) .t (.ld (some 5) S1)),(.op (some (T2,(false,false))) .t (.call 13 [T1,T0])),(.op (some (T3,(false,false))) .t (.v (.un .not T0))),oS 20 (.v (.pick T4 (.c (.bool true)) T0))]) (.cond V8 (.seq (.ops [mS 2 (.c (.bool false))]) .ret) .skip))) .skip))) (.seq (.seq (.ops [oT (.ld (some 5) S1),oT (.call 16 [T0]),mT T0,oT (.v (.ext T0 0)),oT (.v (.ext T1 1)),mS 11 T1,mS 12 T0]) (.seq (.ops [mT wb,oS 21 (.v (.bin .eql T0 (C 0)))]) (.cond Qj (.seq (.ops [mT u9,oT (.call 17 [T0]),mT T0,oT (.v (.ext T0 0)),oT (.v (.ext T1 1)),oS 13 (.al 24 [(I 0),(.string ⟨⟨[]⟩⟩),(I 0),(I 0),Z]),oS 14 (.al 31 [(I 0),(I 0)]),oN (.st 5 Dp T1),oN (.st 2 DQ T0)]) (.seq (.ops [fT 0 DQ,lT T0,oT (.v (.bin .neq T0 (C 0))),mT T0,(.op (some (T0,(false,true))) .t (.ld (some 5) Dp)),(.op (some (T1,(false,false))) .t (.ld (some 5) S1)),(.op (some (T2,(false,false))) .t (.call 13 [T1,T0])),(.op (some (T3,(false,false))) .t (.v (.un .not T0))),oS 22 (.v (.pick T4 (.c (.bool true)) T0))]) (.cond S22 (.seq (.ops [mS 2 (.c (.bool false))]) .ret) .skip))) .skip))) (.seq (.ops [mS 2 (.c (.bool true))]) .ret))))))),[(.tmp S2)]⟩
@[go_sem] def c5k:List Nat:=[0,1,2,3,4,5,6,7,8,9,10,11,13,21,45]
def c5:Gx.Fn:=⟨68,c5k,(.seq (.ops [oS 2 (.bx 24 S0),oS 3 (.bx 24 S1),mS 4 (.c (.bool false))]) (.seq (.seq (.ops [oT (.call 9 []),oS 12 (.v (.un .not T0))]) (.cond wb (.seq (.ops [mS 4 (.c (.bool false))]) .ret) .skip)) (.seq (.seq (.ops [oT (.ld (some 5) S2),oT (.call 10 [T0,(C 200)]),oT (.v (.un .not T0)),mT T0,(.op (some (T0,(false,true))) .t (.ld (some 5) S3)),(.op (some (T1,(false,false))) .t (.call 10 [T0,(C 200)])),(.op (some (T2,(false,false))) .t (.v (.un .not T0))),oS 13 (.v (.pick T3 (.c (.bool true)) T0))]) (.cond Dp (.seq (.ops [mS 4 (.c (.bool true))]) .ret) .skip)) (.seq (.ops [oT (.ld (some 5) S2),oT (.call 14 [T0]),mT T0,oT (.v (.ext T0 0)),oT (.v (.ext T1 1)),mS 5 T1,mS 6 T0]) (.seq (.ops [oT (.ld (some 5) S3),oT (.call 14 [T0]),mT T0,oT (.v (.ext T0 0)),oT (.v (.ext T1 1)),mS 7 T1,mS 8 T0]) (.seq (.seq (.ops [mT S6,oT (.v (.bin .neq T0 (C 0))),mT T0,(.eO T0 false [(.op (.v (.mv S8))),(.op (.v (.bin .neq T0 (C 0))))] .t (.c (.bool true)) T0),mT T0,(.eO T0 false [(.op (.v (.mv S5))),(.op (.v (.gP T0))),(.op (.v (.mv S7))),(.op (.v (.gP T0))),(.op (.v (.bin .add T2 T0))),(.op (.v (.bin .gtr T0 (C 65536))))] (.s 14) (.c (.bool true)) T0)]) (.cond DQ (.seq (.ops [mS 4 (.c (.bool true))]) .ret) .skip)) (.seq (.de (rf 4 S2 [3,6,9] (rl T0 [3,6,9] (rf 4 S3 [6,9] (rl T0 [6,9] (.br (.ef 0 none .t (.bs 24 0 [] []) (.br (.ef 3 none .t (.ap 22 22 T0 T3) (.br (.ef 6 none .t (.ap 22 22 T0 T2) (.rd none .t (.v (.jA [(I 0),(.string ⟨⟨[]⟩⟩),(I 0),(I 0),Z] [(0,(1,(C 1))),(4,(1,T0))])) [9] (.ef 8 none (.s 9) (.al 24 [(I 0),(.string ⟨⟨[]⟩⟩),(I 0),(I 0),Z]) (.ef 9 none .no (.st 5 S9 T0) .done)))) (.ef 8 none (.s 9) (.al 24 [(I 0),(.string ⟨⟨[]⟩⟩),(I 0),(I 0),Z]) (.ef 6 none .t (.ap 22 22 T0 T2) (.rd none .t (.v (.jA [(I 0),(.string ⟨⟨[]⟩⟩),(I 0),(I 0),Z] [(0,(1,(C 1))),(4,(1,T0))])) [9] (.ef 9 none .no (.st 5 S9 T0) .done)))))) (.ef 8 none (.s 9) (.al 24 [(I 0),(.string ⟨⟨[]⟩⟩),(I 0),(I 0),Z]) (.ef 3 none .t (.ap 22 22 T0 T3) (.ef 6 none .t (.ap 22 22 T0 T2) (.rd none .t (.v (.jA [(I 0),(.string ⟨⟨[]⟩⟩),(I 0),(I 0),Z] [(0,(1,(C 1))),(4,(1,T0))])) [9] (.ef 9 none .no (.st 5 S9 T0) .done))))))) (.ef 8 none (.s 9) (.al 24 [(I 0),(.string ⟨⟨[]⟩⟩),(I 0),(I 0),Z]) (.ef 0 none .t (.bs 24 0 [] []) (.ef 3 none .t (.ap 22 22 T0 T3) (.ef 6 none .t (.ap 22 22 T0 T2) (.rd none .t (.v (.jA [(I 0),(.string ⟨⟨[]⟩⟩),(I 0),(I 0),Z] [(0,(1,(C 1))),(4,(1,T0))])) [9] (.ef 9 none .no (.st 5 S9 T0) .done)))))))))))) (.seq (.ops [oT (.ld (some 5) S9),oT (.call 14 [T0]),mT T0,oT (.v (.ext T0 0)),oT (.v (.ext T1 1)),mS 10 T1,mS 11 T0]) (.seq (.ops [mT u9,oT (.v (.bin .eql T0 (C 0))),mT T0,(.eO T0 true [(.op (.v (.mv rq))),(.op (.v (.mv S5))),(.op (.v (.mv S7))),(.op (.v (.bin .add T1 T0))),(.op (.v (.bin .eql T3 T0)))] .t T0 (.c (.bool false))),mS 4 T0]) .ret))))))))),[(.tmp S4)]⟩
@[go_sem] def c6k:List Nat:=[0,1,2,3,4,5,6,7,8,9,10,11,12,13,14,16,19]
def c6:Gx.Fn:=⟨78,c6k,(.seq (.ops [oS 1 (.bx 24 S0),mS 2 (.c (.bool false))]) (.seq (.seq (.ops [oT (.call 9 []),oS 15 (.v (.un .not T0))]) (.cond M0 (.seq (.ops [mS 2 (.c (.bool false))]) .ret) .skip)) (.seq (.seq (.ops [oT (.ld (some 5) S1),oT (.call 10 [T0,(C 300)]),oS 16 (.v (.un .not T0))]) (.cond NU (.seq (.ops [mS 2 (.c (.bool true))]) .ret) .skip)) (.seq (.ops [oT (.ld (some 5) S1),oT (.call 14 [T0]),mT T0,oT (.v (.ext T0 0)),oT (.v (.ext T1 1)),mS 3 T1,mS 4 T0]) (.seq (.ops [oT (.ld (some 5) S1),oT (.call 18 [T0]),mT T0,oT (.v (.ext T0 0)),oT (.v (.ext T1 1)),mS 5 T1,mS 6 T0]) (.seq (.ops [oT (.ld (some 5) S1),oT (.call 11 [T0]),mT T0,oT (.v (.ext T0 0)),oT (.v (.ext T1 1)),mS 7 T1,mS 8 T0]) (.seq (.ops [oT (.ld (some 5) S1),oT (.call 19 [T0]),mT T0,oT (.v (.ext T0 0)),oT (.v (.ext T1 1)),mS 9 T1,mS 10 T0]) (.seq (.ops [oT (.ld (some 5) S1),oT (.call 16 [T0]),mT T0,oT (.v (.ext T0 0)),oT (.v (.ext T1 1)),mS 11 T1,mS 12 T0]) (.seq (.ops [oT (.ld (some 5) S1),oT (.call 20 [T0]),mT T0,oT (.v (.ext T0 0)),oT (.v (.ext T1 1)),mS 13 T1,mS 14 T0]) (.seq (.ops [mT S3,mT S5,oT (.v (.bin .eql T1 T0)),mT T0,(.eO T0 true [(.op (.v (.mv S4))),(.op (.v (.mv S6))),(.op (.v (.bin .eql T1 T0)))] .t T0 (.c (.bool false))),mT T0,(.eO T0 true [(.op (.v (.mv S7))),(.op (.v (.mv S9))),(.op (.v (.bin .eql T1 T0)))] .t T0 (.c (.bool false))),mT T0,(.eO T0 true [(.op (.v (.mv S8))),(.op (.v (.mv rq))),(.op (.v (.bin .eql T1 T0)))] .t T0 (.c (.bool false))),mT T0,(.eO T0 true [(.op (.v (.mv u9))),(.op (.v (.mv Dp))),(.op (.v (.bin .eql T1 T0)))] .t T0 (.c (.bool false))),mT T0,(.eO T0 true [(.op (.v (.mv wb))),(.op (.v (.mv DQ))),(.op (.v (.bin .eql T1 T0)))] .t T0 (.c (.bool false))),mS 2 T0]) .ret)))))))))),[(.tmp S2)]⟩
theorem acC:ai afI c6k Tryz.f6=some c6:=by kernel_rfl
@[go_sem] def c7k:List Nat:=[0,2,3,4,5,6,7,8,9,10,12,15,23]
def c7:Gx.Fn:=⟨60,c7k,(.seq (.ops [mS 1 (.c (.bool false))]) (.seq (.seq (.ops [oT (.call 9 []),oS 10 (.v (.un .not T0))]) (.cond rq (.seq (.ops [mS 1 (.c (.bool false))]) .ret) .skip)) (.seq (.seq (.ops [mT S0,oT (.v (.gP T0)),oS 11 (.v (.bin .gtr T0 (C 4000)))]) (.cond u9 (.seq (.ops [mS 1 (.c (.bool true))]) .ret) .skip)) (.seq (.ops [mT S0,oT (.call 15 [T0]),mT T0,oT (.v (.ext T0 0)),oT (.v (.ext T1 1)),oS 2 (.al 24 [(I 0),(.string ⟨⟨[]⟩⟩),(I 0),(I 0),Z]),oS 3 (.al 31 [(I 0),(I 0)]),oN (.st 5 S2 T1),oN (.st 2 S3 T0)]) (.seq (.seq (.ops [fT 0 S3,lT T0,oS 12 (.v (.bin .neq T0 (C 0)))]) (.cond wb (.seq (.ops [mS 1 (.c (.bool true))]) .ret) .skip)) (.seq (.ops [oT (.ld (some 5) S2),oT (.call 14 [T0]),mT T0,oT (.v (.ext T0 0)),oT (.v (.ext T1 1)),mS 4 T1,mS 5 T0]) (.seq (.ops [mT S4,oT (.call 15 [T0]),mT T0,oT (.v (.ext T0 0)),oT (.v (.ext T1 1)),oS 6 (.al 24 [(I 0),(.string ⟨⟨[]⟩⟩),(I 0),(I 0),Z]),oS 7 (.al 31 [(I 0),(I 0)]),oN (.st 5 S6 T1),oN (.st 2 S7 T0)]) (.seq (.ops [oT (.ld (some 5) S6),oT (.call 14 [T0]),mT T0,oT (.v (.ext T0 0)),oT (.v (.ext T1 1)),mS 8 T1,mS 9 T0]) (.seq (.ops [mT S5,oT (.v (.bin .eql T0 (C 0))),mT T0,(.eO T0 true [(.op (.v (.fa 0 S7))),(.op (.ld none T0)),(.op (.v (.bin .eql T0 (C 0))))] .t T0 (.c (.bool false))),mT T0,(.eO T0 true [(.op (.v (.mv S9))),(.op (.v (.bin .eql T0 (C 0))))] .t T0 (.c (.bool false))),mT T0,(.op (some (T0,(true,true))) .t (.ld (some 5) S6)),(.op (some (T1,(true,false))) .t (.ld (some 5) S2)),(.op (some (T2,(true,false))) .t (.call 13 [T1,T0])),oT (.v (.pick T3 T0 (.c (.bool false)))),mT T0,(.eO T0 true [(.op (.v (.mv S8))),(.op (.v (.mv S4))),(.op (.v (.bin .eql T1 T0)))] .t T0 (.c (.bool false))),mS 1 T0]) .ret))))))))),[(.tmp S1)]⟩
@[go_sem] def c8k:List Nat:=[0,2,3,4,5,6,7,8,10,13,21]
def c8:Gx.Fn:=⟨52,c8k,(.seq (.ops [mS 1 (.c (.bool false))]) (.seq (.seq (.ops [oT (.call 9 []),oS 8 (.v (.un .not T0))]) (.cond S8 (.seq (.ops [mS 1 (.c (.bool false))]) .ret) .skip)) (.seq (.seq (.ops [mT S0,oT (.v (.gP T0)),oS 9 (.v (.bin .gtr T0 (C 4000)))]) (.cond S9 (.seq (.ops [mS 1 (.c (.bool true))]) .ret) .skip)) (.seq (.ops [mT S0,oT (.call 12 [T0]),mT T0,oT (.v (.ext T0 0)),oT (.v (.ext T1 1)),oS 2 (.al 24 [(I 0),(.string ⟨⟨[]⟩⟩),(I 0),(I 0),Z]),oS 3 (.al 31 [(I 0),(I 0)]),oN (.st 5 S2 T1),oN (.st 2 S3 T0)]) (.seq (.seq (.ops [fT 0 S3,lT T0,oS 10 (.v (.bin .neq T0 (C 0)))]) (.cond rq (.seq (.ops [mS 1 (.c (.bool true))]) .ret) .skip)) (.seq (.ops [oT (.ld (some 5) S2),oT (.call 11 [T0]),mT T0,oT (.v (.ext T0 0)),oT (.v (.ext T1 1)),mS 4 T1,mS 5 T0]) (.seq (.ops [mT S4,oT (.call 12 [T0]),mT T0,oT (.v (.ext T0 0)),oT (.v (.ext T1 1)),oS 6 (.al 24 [(I 0),(.string ⟨⟨[]⟩⟩),(I 0),(I 0),Z]),oS 7 (.al 31 [(I 0),(I 0)]),oN (.st 5 S6 T1),oN (.st 2 S7 T0)]) (.seq (.ops [mT S5,oT (.v (.bin .eql T0 (C 0))),mT T0,(.eO T0 true [(.op (.v (.fa 0 S7))),(.op (.ld none T0)),(.op (.v (.bin .eql T0 (C 0))))] .t T0 (.c (.bool false))),mT T0,(.op (some (T0,(true,true))) .t (.ld (some 5) S6)),(.op (some (T1,(true,false))) .t (.ld (some 5) S2)),(.op (some (T2,(true,false))) .t (.call 13 [T1,T0])),oT (.v (.pick T3 T0 (.c (.bool false)))),mT T0,(.eO T0 true [(.op (.v (.mv S4))),(.op (.v (.gP T0))),(.op (.v (.mv S0))),(.op (.v (.gP T0))),(.op (.v (.bin .mul (C 3) T0))),(.op (.v (.bin .leq T3 T0)))] .t T0 (.c (.bool false))),mS 1 T0]) .ret)))))))),[(.tmp S1)]⟩
@[go_sem] def c9k:List Nat:=[0,1,2,3,4,6]
def c9:Gx.Fn:=⟨52,c9k,(.seq (.ops [mS 0 (.c (.bool false))]) (.seq (.ops [oT (.call 15 [(.c (.string ⟨⟨[111,98,106,101,99,116,32,97,58,115,101,116,40,39,120,39,44,39,121,39,41,59]⟩⟩))]),mT T0,oT (.v (.ext T0 0)),oT (.v (.ext T1 1)),oS 1 (.al 24 [(I 0),(.string ⟨⟨[]⟩⟩),(I 0),(I 0),Z]),oS 2 (.al 31 [(I 0),(I 0)]),oN (.st 5 S1 T1),oN (.st 2 S2 T0)]) (.seq (.ops [oT (.ld (some 5) S1),oT (.call 14 [T0]),mT T0,oT (.v (.ext T0 0)),oT (.v (.ext T1 1)),mS 3 T1,mS 4 T0]) (.seq (.ops [oT (.v (.jA [(I 0),(.string ⟨⟨[]⟩⟩),(I 0),(I 0),Z] [(0,(1,(C 45)))])),oT (.call 14 [T0]),mT T0,oT (.v (.ext T0 0)),oT (.v (.ext T1 1)),mT T1,mS 5 T1]) (.seq (.ops [fT 0 S2,lT T0,oT (.v (.bin .eql T0 (C 0))),mT T0,(.eO T0 true [(.op (.v (.mv S4))),(.op (.v (.bin .eql T0 (C 0))))] .t T0 (.c (.bool false))),mT T0,(.eO T0 true [(.op (.v (.mv S3))),(.op (.v (.bin .eql T0 (.c (.string ⟨⟨[111,98,106,101,99,116,32,97,58,32,115,101,116,40,39,120,39,44,32,39,121,39,41,59,10]⟩⟩)))))] .t T0 (.c (.bool false))),mT T0,(.eO T0 true [(.op (.v (.mv S5))),(.op (.v (.bin .eql T0 (C 1))))] .t T0 (.c (.bool false))),mT T0,(.op (some (T0,(true,true))) .t (.call 21 [(.c (.string ⟨⟨[40,40,97,41,43,40,98,32,45,32,99,41,41]⟩⟩))])),(.op (some (T1,(true,false))) .t (.v (.bin .eql T0 (.c (.string ⟨⟨[97,32,43,32,40,98,32,45,32,99,41]⟩⟩))))),oT (.v (.pick T2 T0 (.c (.bool false)))),mT T0,(.op (some (T0,(true,true))) .t (.call 21 [(.c (.string ⟨⟨[40,97,32,45,32,98,41,45,99]⟩⟩))])),(.op (some (T1,(true,false))) .t (.v (.bin .eql T0 (.c (.string ⟨⟨[97,32,45,32,98,32,45,32,99]⟩⟩))))),oT (.v (.pick T2 T0 (.c (.bool false)))),mT T0,(.op (some (T0,(true,true))) .t (.call 21 [(.c (.string ⟨⟨[110,111,116,32,40,97,32,111,114,32,98,41]⟩⟩))])),(.op (some (T1,(true,false))) .t (.v (.bin .eql T0 (.c (.string ⟨⟨[110,111,116,32,40,97,32,111,114,32,98,41]⟩⟩))))),oT (.v (.pick T2 T0 (.c (.bool false)))),mT T0,(.op (some (T0,(true,true))) .t (.call 21 [(.c (.string ⟨⟨[40,105,102,32,97,32,116,104,101,110,32,98,32,101,108,115,101,32,99,41,32,43,32,45,32,49]⟩⟩))])),(.op (some (T1,(true,false))) .t (.v (.bin .eql T0 (.c (.string ⟨⟨[40,105,102,32,97,32,116,104,101,110,32,98,32,101,108,115,101,32,99,41,32,43,32,45,49]⟩⟩))))),oT (.v (.pick T2 T0 (.c (.bool false)))),mS 0 T0]) .ret))))),[(.tmp S0)]⟩
theorem acD:ai afI c9k Tryz.f9=some c9:=by kernel_rfl
@[go_sem] def YT:List Nat:=[0,1,2,4]
def c10:Gx.Fn:=⟨9,YT,(.seq (.ops [oS 2 (.bx 24 S0),mS 3 (.c (.bool false))]) (.seq (.ops [oT (.ld (some 5) S2),mT S1,oT (.call 22 [T1,T0]),oT (.v (.bin .geq T0 (C 0))),mS 3 T0]) .ret)),[(.tmp S3)]⟩
theorem YU:ai afI YT Tryz.f10=some c10:=by kernel_rfl
@[go_sem] def YV:List Nat:=[0,2,3]
def c12:Gx.Fn:=⟨8,YV,(.seq (.ops [oS 1 (.al 24 [(I 0),(.string ⟨⟨[]⟩⟩),(I 0),(I 0),Z]),oS 2 (.al 31 [(I 0),(I 0)])]) (.seq (.ops [mT S0,oT (.call 26 [T0,(.f 27)]),oT (.v (.ext T0 0)),oT (.v (.ext T1 1)),oN (.st 5 S1 T1),oN (.st 2 S2 T0)]) .ret)),[(.cell S1 (some 5)),(.cell S2 (some 2))]⟩
theorem YW:ai afI YV Tryz.f12=some c12:=by kernel_rfl
@[go_sem] def YX:List Nat:=[0,2,3]
def c15:Gx.Fn:=⟨8,YX,(.seq (.ops [oS 1 (.al 24 [(I 0),(.string ⟨⟨[]⟩⟩),(I 0),(I 0),Z]),oS 2 (.al 31 [(I 0),(I 0)])]) (.seq (.ops [mT S0,oT (.call 26 [T0,(.f 34)]),oT (.v (.ext T0 0)),oT (.v (.ext T1 1)),oN (.st 5 S1 T1),oN (.st 2 S2 T0)]) .ret)),[(.cell S1 (some 5)),(.cell S2 (some 2))]⟩
theorem YY:ai afI YX Tryz.f15=some c15:=by kernel_rfl
@[go_sem] def YZ:List Nat:=[0,2,3]
def c17:Gx.Fn:=⟨8,YZ,(.seq (.ops [oS 1 (.al 24 [(I 0),(.string ⟨⟨[]⟩⟩),(I 0),(I 0),Z]),oS 2 (.al 31 [(I 0),(I 0)])]) (.seq (.ops [mT S0,oT (.call 26 [T0,(.f 39)]),oT (.v (.ext T0 0)),oT (.v (.ext T1 1)),oN (.st 5 S1 T1),oN (.st 2 S2 T0)]) .ret)),[(.cell S1 (some 5)),(.cell S2 (some 2))]⟩
theorem Y0:ai afI YZ Tryz.f17=some c17:=by kernel_rfl
@[go_sem] def Y1:List Nat:=[0,2,3,4,5,6,14,21]
def c21:Gx.Fn:=⟨23,Y1,(.seq (.ops [mS 1 (.c (.string ⟨⟨[]⟩⟩))]) (.seq (.ops [mT S0,oT (.call 12 [T0]),mT T0,oT (.v (.ext T0 0)),oT (.v (.ext T1 1)),oS 2 (.al 24 [(I 0),(.string ⟨⟨[]⟩⟩),(I 0),(I 0),Z]),oS 3 (.al 31 [(I 0),(I 0)]),oN (.st 5 S2 T1),oN (.st 2 S3 T0)]) (.seq (.seq (.ops [fT 0 S3,lT T0,oS 6 (.v (.bin .neq T0 (C 0)))]) (.cond S6 (.seq (.ops [mS 1 (.c (.string ⟨⟨[]⟩⟩))]) .ret) .skip)) (.seq (.ops [oT (.ld (some 5) S2),oT (.call 11 [T0]),mT T0,oT (.v (.ext T0 0)),oT (.v (.ext T1 1)),mS 4 T1,mS 5 T0]) (.seq (.seq (.ops [mT S5,oS 7 (.v (.bin .neq T0 (C 0)))]) (.cond S7 (.seq (.ops [mS 1 (.c (.string ⟨⟨[]⟩⟩))]) .ret) .skip)) (.seq (.ops [mT S4,mS 1 T0]) .ret)))))),[(.tmp S1)]⟩
theorem Y2:ai afI Y1 Tryz.f21=some c21:=by kernel_rfl
@[go_sem] def Tn:List Nat:=[0,1,2,4,5,16]
def c22:Gx.Fn:=⟨27,Tn,(.seq (.ops [oS 2 (.bx 24 S0),mS 3 (C 0)]) (.seq (.ops [mT S1,oT (.v (.bin .sub T0 (C 1))),mS 1 T0]) (.seq (.seq (.ops [mS 4 (C 0)]) (.block 0 (.loop Tn (.seq (.seq (.ops [mT S4,fT 4 S2,lT T0,nT T0,oT (.v (.bin .lss T3 T0)),mT T0,(.eO T0 true [(.op (.v (.mv S1))),(.op (.v (.bin .geq T0 (C 0))))] (.s 5) T0 (.c (.bool false)))]) (.cond S5 .skip (.exit 0))) (.seq (.block 1 (.ops [fT 4 S2,lT T0,mT S4,oT (.v (.ix 5 T1 T0)),oT (.ld (some 5) T0),mT S1,oT (.call 22 [T1,T0]),mS 1 T0])) (.ops [mT S4,oT (.v (.bin .add T0 (C 1))),mS 4 T0])))))) (.seq (.ops [mT S1,mS 3 T0]) .ret)))),[(.tmp S3)]⟩
theorem Y3:ai afI Tn Tryz.f22=some c22:=by kernel_rfl
end Go.Proofs.YtmhdkbmnpekpoaaGreatDoor
