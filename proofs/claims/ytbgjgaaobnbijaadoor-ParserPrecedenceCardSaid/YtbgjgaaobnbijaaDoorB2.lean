import Derived.Test.YtbgjgaaobnbijaaDoorB1
import Derived.Deep.AppendSrc
import Derived.Test.YtbgjgaaobnbijaaDoorProg
import Derived.Carry
import Derived.OpenShut
import Derived.Handed
import Derived.Shelf.Strings.Builder1
import Derived.Shelf.Strings.Builder2
import Derived.Shelf.Strings.OnBuilder
import Derived.Shelf.Strings.Builder2Cap
import Derived.Shelf.Strconv.Itoa0
import Derived.Shelf.Strconv.Itoa1
import Derived.Shelf.LaysM
import Derived.Shelf.Strconv.Itoa2
import Derived.Shelf.Strconv.Itoa3
import Derived.Shelf.Strconv.Itoa4
import Derived.Shelf.Strconv.ParseIntEmpty
import Derived.Shelf.Strconv.Clone
import Derived.Shelf.Strconv.SyntaxError
import Derived.Shelf.LaysC
import Derived.Shelf.Strconv.ToError
import Derived.Shelf.Strconv.Lower
import Derived.Shelf.Strconv.ParseUint10
import Derived.Shelf.Strconv.ParseUint10Empty
import Derived.Shelf.Strconv.ParseUint10Any
import Derived.Shelf.Strconv.ParseInt10
import Derived.Shelf.Strconv.RangeError
import Derived.Shelf.Strconv.ToErrorRange
import Derived.Shelf.Strconv.ParseUintEmpty
import Derived.Shelf.Strconv.ParseUint10b64
import Derived.Shelf.Strconv.ParseUint10b32
import Derived.Shelf.Strconv.ParseUint10b16
import Derived.Shelf.Strconv.ParseUint10b8
import Derived.Shelf.Strconv.ParseUint10At
import Derived.Shelf.Strconv.ParseInt10At64
import Derived.Shelf.Strconv.ParseInt10At32
import Derived.Shelf.Strconv.ParseInt10At16
import Derived.Shelf.Strconv.ParseInt10At8
import Derived.Shelf.Strconv.ParseInt10All
import Derived.Shelf.Strconv.ParseIntPublic10
section
/- The rules by which simp goes through stripped code. -/
namespace Gx
open Go

def vcK (P : Program) (E : Chain → Heap → Prop) (b : SCode) (Q : Post) : Slots → Heap → Prop := fun σ H => vc P E b σ H Q

def retK (P : Program) (E : Chain → Heap → Prop) (d : Dst) (r : List GOp) (σ : Slots) (τ : List Value) (K : Slots → Heap → Prop) : Value → Heap → Prop :=
  fun v H' => vcOps P E r (putS d v σ) (putT d v τ) H' K

def gdN (P : Program) (E : Chain → Heap → Prop) (t : Opd) (b fr : Bool) (d : Dst) (s : SOp Opd) (r : List GOp) (σ : Slots) (τ : List Value) (H : Heap) (K : Slots → Heap → Prop) : Option (Option Bool) → Prop
  | some (some c) => (c = b → s.vc P E (evO (gS fr t (.bool b) σ) (gT fr t (.bool b) τ)) H (retK P E d r (gS fr t (.bool b) σ) (gT fr t (.bool b) τ) K)) ∧
      (c = (!b) → vcOps P E r (putS d undef (gS fr t (.bool (!b)) σ)) (putT d undef (gT fr t (.bool (!b)) τ)) H K)
  | some none => vcOps P E r (putS d undef σ) (putT d undef τ) H K
  | none => False

def rdD (P : Program) (E : Chain → Heap → Prop) (next : DT) (d : Dst) (s : SOp Opd) (D : List Nat) (pend : Pend) (σ : Slots) (τ : List Value) (H : Heap) (K : Slots → Heap → Prop) : Option (Prop × Value) → Prop
  | some (p, v) => p ∧ vcD P E next (s.held (evO σ τ) D v pend) (putS d v σ) (putT d v τ) H K
  | none => False

def efK (P : Program) (E : Chain → Heap → Prop) (next : DT) (d : Dst) (pend : Pend) (σ : Slots) (τ : List Value) (K : Slots → Heap → Prop) : Value → Heap → Prop :=
  fun v H' => pendOk H' pend ∧ vcD P E next pend (putS d v σ) (putT d v τ) H' K

def gdRd (P : Program) (E : Chain → Heap → Prop) (t : Opd) (b : Bool) (next : DT) (d : Dst) (s : SOp Opd) (D : List Nat) (pend : Pend) (σ : Slots) (τ : List Value) (H : Heap) (K : Slots → Heap → Prop) : Option (Option Bool) → Prop
  | some (some c) => (c = b → rdD P E next d s D pend (setS t (.bool b) σ) (setT t (.bool b) τ) H K (s.rd (evO (setS t (.bool b) σ) (setT t (.bool b) τ)) H)) ∧
      (c = (!b) → vcD P E next pend (putS d undef (setS t (.bool (!b)) σ)) (putT d undef (setT t (.bool (!b)) τ)) H K)
  | some none => vcD P E next pend (putS d undef σ) (putT d undef τ) H K
  | none => False

def gdEf (P : Program) (E : Chain → Heap → Prop) (t : Opd) (b : Bool) (next : DT) (d : Dst) (s : SOp Opd) (pend : Pend) (σ : Slots) (τ : List Value) (H : Heap) (K : Slots → Heap → Prop) : Option (Option Bool) → Prop
  | some (some c) => (c = b → s.vc P E (evO (setS t (.bool b) σ) (setT t (.bool b) τ)) H (efK P E next d pend (setS t (.bool b) σ) (setT t (.bool b) τ) K)) ∧
      (c = (!b) → vcD P E next pend (putS d undef (setS t (.bool (!b)) σ)) (putT d undef (setT t (.bool (!b)) τ)) H K)
  | some none => vcD P E next pend (putS d undef σ) (putT d undef τ) H K
  | none => False

section
variable {P : Program} {E : Chain → Heap → Prop} {σ : Slots} {τ : List Value} {H : Heap} {Q : Post} {K : Slots → Heap → Prop}

@[go_sem] theorem vc_de (t : DT) : vc P E (.de t) σ H Q = vcD P E t [] σ [] H (nrmK Q) := rfl
@[go_sem] theorem vcD_done (pend : Pend) : vcD P E .done pend σ τ H K = K σ H := rfl
@[go_sem] theorem vcD_rd (d : Dst) (s : SOp Opd) (D : List Nat) (next : DT) (pend : Pend) : vcD P E (.rd none d s D next) pend σ τ H K = rdD P E next d s D pend σ τ H K (s.rd (evO σ τ) H) := by
  simp only [vcD, rdD, rdK]; cases s.rd (evO σ τ) H <;> rfl
@[go_sem] theorem vcD_rdg (t : Opd) (b : Bool) (d : Dst) (s : SOp Opd) (D : List Nat) (next : DT) (pend : Pend) : vcD P E (.rd (some (t, b)) d s D next) pend σ τ H K = gdRd P E t b next d s D pend σ τ H K (guardOf (evO σ τ t)) := by
  simp only [vcD, gdRd, rdD, rdK]
  cases guardOf (evO σ τ t) with
  | none => rfl
  | some x =>
    cases x with
    | none => rfl
    | some c =>
      simp only
      congr 1
      cases s.rd (evO (setS t (.bool b) σ) (setT t (.bool b) τ)) H <;> rfl
@[go_sem] theorem vcD_ef (i : Nat) (d : Dst) (s : SOp Opd) (next : DT) (pend : Pend) : vcD P E (.ef i none d s next) pend σ τ H K = s.vc P E (evO σ τ) H (efK P E next d (pendDrop i pend) σ τ K) := rfl
@[go_sem] theorem vcD_efg (i : Nat) (t : Opd) (b : Bool) (d : Dst) (s : SOp Opd) (next : DT) (pend : Pend) : vcD P E (.ef i (some (t, b)) d s next) pend σ τ H K = gdEf P E t b next d s (pendDrop i pend) σ τ H K (guardOf (evO σ τ t)) := by
  simp only [vcD, gdEf]
  cases guardOf (evO σ τ t) with
  | none => rfl
  | some x => cases x <;> rfl
@[go_sem] theorem vcD_br (a b : DT) (pend : Pend) : vcD P E (.br a b) pend σ τ H K = (vcD P E a pend σ τ H K ∧ vcD P E b pend σ τ H K) := rfl
@[go_sem] theorem rdD_some (next : DT) (d : Dst) (s : SOp Opd) (D : List Nat) (pend : Pend) (p : Prop) (v : Value) : rdD P E next d s D pend σ τ H K (some (p, v)) = (p ∧ vcD P E next (s.held (evO σ τ) D v pend) (putS d v σ) (putT d v τ) H K) := rfl
@[go_sem] theorem efK_app (next : DT) (d : Dst) (pend : Pend) (v : Value) (H' : Heap) : efK P E next d pend σ τ K v H' = (pendOk H' pend ∧ vcD P E next pend (putS d v σ) (putT d v τ) H' K) := rfl
@[go_sem] theorem gdRd_bool (t : Opd) (b : Bool) (next : DT) (d : Dst) (s : SOp Opd) (D : List Nat) (pend : Pend) (c : Bool) : gdRd P E t b next d s D pend σ τ H K (some (some c)) =
    ((c = b → rdD P E next d s D pend (setS t (.bool b) σ) (setT t (.bool b) τ) H K (s.rd (evO (setS t (.bool b) σ) (setT t (.bool b) τ)) H)) ∧ (c = (!b) → vcD P E next pend (putS d undef (setS t (.bool (!b)) σ)) (putT d undef (setT t (.bool (!b)) τ)) H K)) := rfl
@[go_sem 2000] theorem gdRd_hit_true (t : Opd) (next : DT) (d : Dst) (s : SOp Opd) (D : List Nat) (pend : Pend) : gdRd P E t true next d s D pend σ τ H K (some (some true)) = rdD P E next d s D pend (setS t (.bool true) σ) (setT t (.bool true) τ) H K (s.rd (evO (setS t (.bool true) σ) (setT t (.bool true) τ)) H) := by simp [gdRd]
@[go_sem 2000] theorem gdRd_miss_true (t : Opd) (next : DT) (d : Dst) (s : SOp Opd) (D : List Nat) (pend : Pend) : gdRd P E t true next d s D pend σ τ H K (some (some false)) = vcD P E next pend (putS d undef (setS t (.bool false) σ)) (putT d undef (setT t (.bool false) τ)) H K := by simp [gdRd]
@[go_sem 2000] theorem gdEf_hit_true (t : Opd) (next : DT) (d : Dst) (s : SOp Opd) (pend : Pend) : gdEf P E t true next d s pend σ τ H K (some (some true)) = s.vc P E (evO (setS t (.bool true) σ) (setT t (.bool true) τ)) H (efK P E next d pend (setS t (.bool true) σ) (setT t (.bool true) τ) K) := by simp [gdEf]
@[go_sem 2000] theorem gdEf_miss_true (t : Opd) (next : DT) (d : Dst) (s : SOp Opd) (pend : Pend) : gdEf P E t true next d s pend σ τ H K (some (some false)) = vcD P E next pend (putS d undef (setS t (.bool false) σ)) (putT d undef (setT t (.bool false) τ)) H K := by simp [gdEf]
@[go_sem 2000] theorem gdRd_hit_false (t : Opd) (next : DT) (d : Dst) (s : SOp Opd) (D : List Nat) (pend : Pend) : gdRd P E t false next d s D pend σ τ H K (some (some false)) = rdD P E next d s D pend (setS t (.bool false) σ) (setT t (.bool false) τ) H K (s.rd (evO (setS t (.bool false) σ) (setT t (.bool false) τ)) H) := by simp [gdRd]
@[go_sem 2000] theorem gdRd_miss_false (t : Opd) (next : DT) (d : Dst) (s : SOp Opd) (D : List Nat) (pend : Pend) : gdRd P E t false next d s D pend σ τ H K (some (some true)) = vcD P E next pend (putS d undef (setS t (.bool true) σ)) (putT d undef (setT t (.bool true) τ)) H K := by simp [gdRd]
@[go_sem 2000] theorem gdEf_hit_false (t : Opd) (next : DT) (d : Dst) (s : SOp Opd) (pend : Pend) : gdEf P E t false next d s pend σ τ H K (some (some false)) = s.vc P E (evO (setS t (.bool false) σ) (setT t (.bool false) τ)) H (efK P E next d pend (setS t (.bool false) σ) (setT t (.bool false) τ) K) := by simp [gdEf]
@[go_sem 2000] theorem gdEf_miss_false (t : Opd) (next : DT) (d : Dst) (s : SOp Opd) (pend : Pend) : gdEf P E t false next d s pend σ τ H K (some (some true)) = vcD P E next pend (putS d undef (setS t (.bool true) σ)) (putT d undef (setT t (.bool true) τ)) H K := by simp [gdEf]
@[go_sem] theorem gdRd_undef (t : Opd) (b : Bool) (next : DT) (d : Dst) (s : SOp Opd) (D : List Nat) (pend : Pend) : gdRd P E t b next d s D pend σ τ H K (some none) = vcD P E next pend (putS d undef σ) (putT d undef τ) H K := rfl
@[go_sem] theorem gdEf_bool (t : Opd) (b : Bool) (next : DT) (d : Dst) (s : SOp Opd) (pend : Pend) (c : Bool) : gdEf P E t b next d s pend σ τ H K (some (some c)) =
    ((c = b → s.vc P E (evO (setS t (.bool b) σ) (setT t (.bool b) τ)) H (efK P E next d pend (setS t (.bool b) σ) (setT t (.bool b) τ) K)) ∧ (c = (!b) → vcD P E next pend (putS d undef (setS t (.bool (!b)) σ)) (putT d undef (setT t (.bool (!b)) τ)) H K)) := rfl
@[go_sem] theorem gdEf_undef (t : Opd) (b : Bool) (next : DT) (d : Dst) (s : SOp Opd) (pend : Pend) : gdEf P E t b next d s pend σ τ H K (some none) = vcD P E next pend (putS d undef σ) (putT d undef τ) H K := rfl
@[go_sem] theorem pendOk_nil : pendOk H [] = True := rfl
@[go_sem] theorem pendOk_cons (D : List Nat) (h : Held) (r : Pend) : pendOk H ((D, h) :: r) = (h.ok H ∧ pendOk H r) := rfl
@[go_sem] theorem pendDrop_nil (i : Nat) : pendDrop i [] = [] := rfl
@[go_sem] theorem pendDrop_cons (i : Nat) (D : List Nat) (h : Held) (r : Pend) : pendDrop i ((D, h) :: r) = if D.elem i then pendDrop i r else (D, h) :: pendDrop i r := rfl
@[go_sem] theorem held_ok_ld (sz : Option Nat) (a : Addr) (v : Value) : (Held.ld sz a v).ok H = (ldV H sz a = some v) := rfl
@[go_sem] theorem held_ok_b2s (x v : Value) : (Held.b2s x v).ok H = (b2sN H (some x) = some v) := rfl
attribute [go_sem] SOp.held

@[go_sem] theorem vc_skip : vc P E .skip σ H Q = Q .nrm σ H := rfl
@[go_sem] theorem vc_ops (l : List GOp) : vc P E (.ops l) σ H Q = vcOps P E l σ [] H (nrmK Q) := rfl
@[go_sem] theorem vc_dq (l : List GOp) : vc P E (.dq l) σ H Q = vcOps P E l σ [] H (nrmK Q) := rfl
@[go_sem] theorem vc_seq (a b : SCode) : vc P E (.seq a b) σ H Q = vc P E a σ H (seqK (vcK P E b Q) Q) := rfl
@[go_sem] theorem vc_cond (c : Opd) (a b : SCode) : vc P E (.cond c a b) σ H Q = condN (vc P E a σ H Q) (vc P E b σ H Q) (evO σ [] c) := rfl
@[go_sem] theorem vc_block (id : Nat) (c : SCode) : vc P E (.block id c) σ H Q = vc P E c σ H (blockK id Q) := rfl
@[go_sem] theorem vc_exit (i : Nat) : vc P E (.exit i) σ H Q = Q (.ext i) σ H := rfl
@[go_sem] theorem vc_ret : vc P E .ret σ H Q = Q .ret σ H := rfl
@[go_sem] theorem vcK_app (b : SCode) : vcK P E b Q σ H = vc P E b σ H Q := rfl
@[go_sem] theorem nrmK_app : nrmK Q σ H = Q .nrm σ H := rfl
@[go_sem] theorem seqK_nrm (F : Slots → Heap → Prop) : seqK F Q .nrm σ H = F σ H := rfl
@[go_sem] theorem seqK_ext (F : Slots → Heap → Prop) (i : Nat) : seqK F Q (.ext i) σ H = Q (.ext i) σ H := rfl
@[go_sem] theorem seqK_ret (F : Slots → Heap → Prop) : seqK F Q .ret σ H = Q .ret σ H := rfl
@[go_sem] theorem blockK_nrm (i : Nat) : blockK i Q .nrm σ H = Q .nrm σ H := rfl
@[go_sem] theorem blockK_same (i : Nat) : blockK i Q (.ext i) σ H = Q .nrm σ H := if_pos rfl
@[go_sem] theorem blockK_ext (i j : Nat) : blockK i Q (.ext j) σ H = if j = i then Q .nrm σ H else Q (.ext j) σ H := rfl
@[go_sem] theorem blockK_ret (i : Nat) : blockK i Q .ret σ H = Q .ret σ H := rfl
@[go_sem 2000] theorem condN_true (A B : Prop) : condN A B (some (.bool true)) = A := by simp [condN]
@[go_sem 2000] theorem condN_false (A B : Prop) : condN A B (some (.bool false)) = B := by simp [condN]
@[go_sem] theorem condN_bool (A B : Prop) (t : Bool) : condN A B (some (.bool t)) = ((t = true → A) ∧ (t = false → B)) := rfl

@[go_sem] theorem vcOps_nil : vcOps P E [] σ τ H K = K σ H := rfl
@[go_sem] theorem vcOps_op (d : Dst) (s : SOp Opd) (r : List GOp) : vcOps P E (.op none d s :: r) σ τ H K = s.vc P E (evO σ τ) H (retK P E d r σ τ K) := rfl
@[go_sem] theorem vcOps_gd (t : Opd) (b fr : Bool) (d : Dst) (s : SOp Opd) (r : List GOp) : vcOps P E (.op (some (t, b, fr)) d s :: r) σ τ H K = gdN P E t b fr d s r σ τ H K (guardOf (evO σ τ t)) := by
  simp only [vcOps, gdN]
  cases guardOf (evO σ τ t) with
  | none => rfl
  | some x => cases x <;> rfl
@[go_sem] theorem vcOps_sel (t : Opd) (b : Bool) (inner : List In) (d : Dst) (x y : Opd) (r : List GOp) :
    vcOps P E (.sel t b inner d x y :: r) σ τ H K = vN H (retK P E d r σ τ K) (selV σ τ t b x y (innerE H σ inner τ)) := rfl
@[go_sem] theorem retK_app (d : Dst) (r : List GOp) (v : Value) (H' : Heap) : retK P E d r σ τ K v H' = vcOps P E r (putS d v σ) (putT d v τ) H' K := rfl
@[go_sem] theorem putS_no (v : Value) : putS .no v σ = σ := rfl
@[go_sem] theorem putS_t (v : Value) : putS .t v σ = σ := rfl
@[go_sem] theorem putS_s (k : Nat) (v : Value) : putS (.s k) v σ = σ.set k (some v) := rfl
@[go_sem] theorem putT_no (v : Value) : putT .no v τ = τ := rfl
@[go_sem] theorem putT_t (v : Value) : putT .t v τ = v :: τ := rfl
@[go_sem] theorem putT_s (k : Nat) (v : Value) : putT (.s k) v τ = τ := rfl
@[go_sem] theorem setS_t (k : Nat) (v : Value) : setS (.t k) v σ = σ := rfl
@[go_sem] theorem setS_s (k : Nat) (v : Value) : setS (.s k) v σ = σ.set k (some v) := rfl
@[go_sem] theorem setT_t (k : Nat) (v : Value) : setT (.t k) v τ = τ.set k v := rfl
@[go_sem] theorem setT_s (k : Nat) (v : Value) : setT (.s k) v τ = τ := rfl
@[go_sem] theorem gS_true (x : Opd) (v : Value) : gS true x v σ = setS x v σ := rfl
@[go_sem] theorem gS_false (x : Opd) (v : Value) : gS false x v σ = σ := rfl
@[go_sem] theorem gT_true (x : Opd) (v : Value) : gT true x v τ = setT x v τ := rfl
@[go_sem] theorem gT_false (x : Opd) (v : Value) : gT false x v τ = τ := rfl
@[go_sem] theorem gdN_bool (t : Opd) (b fr : Bool) (d : Dst) (s : SOp Opd) (r : List GOp) (c : Bool) : gdN P E t b fr d s r σ τ H K (some (some c)) =
    ((c = b → s.vc P E (evO (gS fr t (.bool b) σ) (gT fr t (.bool b) τ)) H (retK P E d r (gS fr t (.bool b) σ) (gT fr t (.bool b) τ) K)) ∧ (c = (!b) → vcOps P E r (putS d undef (gS fr t (.bool (!b)) σ)) (putT d undef (gT fr t (.bool (!b)) τ)) H K)) := rfl
@[go_sem 2000] theorem gdN_hit_true (t : Opd) (fr : Bool) (d : Dst) (s : SOp Opd) (r : List GOp) : gdN P E t true fr d s r σ τ H K (some (some true)) = s.vc P E (evO (gS fr t (.bool true) σ) (gT fr t (.bool true) τ)) H (retK P E d r (gS fr t (.bool true) σ) (gT fr t (.bool true) τ) K) := by simp [gdN]
@[go_sem 2000] theorem gdN_miss_true (t : Opd) (fr : Bool) (d : Dst) (s : SOp Opd) (r : List GOp) : gdN P E t true fr d s r σ τ H K (some (some false)) = vcOps P E r (putS d undef (gS fr t (.bool false) σ)) (putT d undef (gT fr t (.bool false) τ)) H K := by simp [gdN]
@[go_sem 2000] theorem gdN_hit_false (t : Opd) (fr : Bool) (d : Dst) (s : SOp Opd) (r : List GOp) : gdN P E t false fr d s r σ τ H K (some (some false)) = s.vc P E (evO (gS fr t (.bool false) σ) (gT fr t (.bool false) τ)) H (retK P E d r (gS fr t (.bool false) σ) (gT fr t (.bool false) τ) K) := by simp [gdN]
@[go_sem 2000] theorem gdN_miss_false (t : Opd) (fr : Bool) (d : Dst) (s : SOp Opd) (r : List GOp) : gdN P E t false fr d s r σ τ H K (some (some true)) = vcOps P E r (putS d undef (gS fr t (.bool true) σ)) (putT d undef (gT fr t (.bool true) τ)) H K := by simp [gdN]
@[go_sem] theorem gdN_undef (t : Opd) (b fr : Bool) (d : Dst) (s : SOp Opd) (r : List GOp) : gdN P E t b fr d s r σ τ H K (some none) = vcOps P E r (putS d undef σ) (putT d undef τ) H K := rfl
@[go_sem] theorem guardOf_b (c : Bool) : guardOf (some (.bool c)) = some (some c) := rfl
attribute [go_sem] undef
@[go_sem] theorem guardOf_undef' : guardOf (some (.tuple #[])) = some none := rfl

section
variable {R : Value → Heap → Prop} {O : Type} {ev : O → Option Value}
@[go_sem] theorem svc_v (e : PE O) : SOp.vc P E ev H R (.v e) = vN H R (e.val ev) := rfl
@[go_sem] theorem svc_ld (sz : Option Nat) (x : O) : SOp.vc P E ev H R (.ld sz x) = rdN H R (ldN H sz (ev x)) := rfl
@[go_sem] theorem svc_st (n : Nat) (a x : O) : SOp.vc P E ev H R (.st n a x) = stN H n R (ev a) (ev x) := rfl
@[go_sem] theorem svc_al (t : Nat) (z : List Value) : SOp.vc P E ev H R (.al t z) = NewP H t z R := rfl
@[go_sem] theorem svc_bx (t : Nat) (x : O) : SOp.vc P E ev H R (.bx t x) = bxN H t R (ev x) := rfl
@[go_sem] theorem svc_bs (t n : Nat) (z : List Value) (ps : List (Nat × Nat × O)) : SOp.vc P E ev H R (.bs t n z ps) = bsN H t n z R (partsE ev ps) := rfl
@[go_sem] theorem svc_ap (t tx : Nat) (s x : O) : SOp.vc P E ev H R (.ap t tx s x) = apN P t tx H R (ev s) (ev x) := rfl
@[go_sem] theorem svc_mk (t s b : Nat) (z : Value) (l c : O) : SOp.vc P E ev H R (.mk t s b z l c) = mkN H t s b z R (ev l) (ev c) := rfl
@[go_sem] theorem svc_call (f : Nat) (args : List O) : SOp.vc P E ev H R (.call f args) = callN P E f H R (evs ev args) := rfl
@[go_sem] theorem svc_cv (f : O) (args : List O) : SOp.vc P E ev H R (.cv f args) = cvN P E H R (ev f) (evs ev args) := rfl
@[go_sem] theorem svc_b2s (x : O) : SOp.vc P E ev H R (.b2s x) = rdN H R (b2sN H (ev x)) := rfl
@[go_sem] theorem svc_pnc (x : O) : SOp.vc P E ev H R (.pnc x) = pncN E H (ev x) := rfl
@[go_sem] theorem pncN_some (t : Nat) (v : Value) : pncN E H (some (.iface t v)) = E [{ v := .iface t v, recovered := false }] H := rfl
@[go_sem] theorem svc_mks (x : O) : SOp.vc P E ev H R (.mks x) = mksN H R (ev x) := rfl
@[go_sem] theorem mksN_some (a : Addr) (n c : Nat) : mksN H R (some (.slice (some a) n c)) = Mks H a (R (.slice (some a) n c)) := rfl
@[go_sem] theorem svc_mm : SOp.vc P E ev H R .mm = NewM H R := rfl
@[go_sem] theorem svc_ins (m k x : O) : SOp.vc P E ev H R (.ins m k x) = insN H R (ev m) (ev k) (ev x) := rfl
@[go_sem] theorem insN_some (r : Nat) (s : ByteArray) (v : Value) : insN H R (some (.map (some r))) (some (.string s)) (some v) = InsM H r s v (R undef) := rfl
@[go_sem] theorem svc_lkp (z : Value) (m k : O) : SOp.vc P E ev H R (.lkp z m k) = lkpN H z R (ev m) (ev k) := rfl
@[go_sem] theorem lkpN_some (z : Value) (r : Nat) (s : ByteArray) : lkpN H z R (some (.map (some r))) (some (.string s)) = LkpM H z r s (fun v => R v H) := rfl
@[go_sem] theorem svc_s2b (t : Nat) (x : O) : SOp.vc P E ev H R (.s2b t x) = s2bN H t R (ev x) := rfl
@[go_sem] theorem vN_some (p : Prop) (v : Value) : vN H R (some (p, v)) = (p ∧ R v H) := rfl
@[go_sem] theorem rdN_some (v : Value) : rdN H R (some v) = R v H := rfl
@[go_sem] theorem stN_some (n : Nat) (a : Addr) (v : Value) : stN H n R (some (.pointer (some a))) (some v) = (v.cells.size = n ∧ Sto H a v.cells.toList 0 (R undef)) := rfl
@[go_sem] theorem bxN_some (t : Nat) (v : Value) : bxN H t R (some v) = NewP H t v.cells.toList R := rfl
def bs2N (H : Heap) (t n : Nat) (R : Value → Heap → Prop) : Option (List Value) → Prop
  | some cs => NewS H t n cs R
  | none => False
@[go_sem] theorem bs2N_some (t n : Nat) (cs : List Value) : bs2N H t n R (some cs) = NewS H t n cs R := rfl
@[go_sem] theorem bsN_some (t n : Nat) (z : List Value) (ps : List (Nat × Nat × Value)) : bsN H t n z R (some ps) = bs2N H t n R (fillV z ps) := by
  simp only [bsN, bs2N]; cases fillV z ps <;> rfl
@[go_sem] theorem apN_some (t tx : Nat) (s x : Value) : apN P t tx H R (some s) (some x) = App P t tx t H s x R := rfl
@[go_sem] theorem callN_some (f : Nat) (vs : List Value) : callN P E f H R (some vs) = PCalls P f vs.toArray H R E := rfl
@[go_sem] theorem cvN_some (f : Nat) (first cap : Array Value) (vs : List Value) : cvN P E H R (some (.func (.func f) first cap)) (some vs) = (hasBody P f = true ∧ PCalls P f (first ++ vs.toArray ++ cap) H R E) := rfl
@[go_sem] theorem mkN_some (t s b : Nat) (z : Value) (l c : Int) : mkN H t s b z R (some (.int .i64 l)) (some (.int .i64 c)) = Mk H t s z l c b R := rfl
@[go_sem] theorem s2bN_some (t : Nat) (s : ByteArray) : s2bN H t R (some (.string s)) = S2b H t s R := rfl
@[go_sem] theorem ldN_some (sz : Option Nat) (a : Addr) : ldN H sz (some (.pointer (some a))) = ldV H sz a := rfl
@[go_sem] theorem ldN_tuple (sz : Option Nat) (vs : Array Value) : ldN H sz (some (.tuple vs)) = none := rfl
@[go_sem] theorem ldN_nilp (sz : Option Nat) : ldN H sz (some (.pointer none)) = none := rfl
@[go_sem] theorem ldV_one (a : Addr) : ldV H none a = cellAt H a := rfl
end

def aggN : Option (List Value) → Option Value
  | some vs => some (.agg vs.toArray)
  | none => none
@[go_sem] theorem aggN_some (vs : List Value) : aggN (some vs) = some (.agg vs.toArray) := rfl
@[go_sem] theorem ldV_agg (n : Nat) (a : Addr) : ldV H (some n) a = aggN (cellsFrom H a 0 n) := by
  simp only [ldV]; cases cellsFrom H a 0 n <;> rfl
def consN : Option Value → Option (List Value) → Option (List Value)
  | some v, some vs => some (v :: vs)
  | _, _ => none
@[go_sem] theorem consN_some (v : Value) (vs : List Value) : consN (some v) (some vs) = some (v :: vs) := rfl
@[go_sem] theorem cellsFrom_zero (a : Addr) (i : Nat) : cellsFrom H a i 0 = some [] := rfl
@[go_sem] theorem cellsFrom_succ (a : Addr) (i n : Nat) : cellsFrom H a i (n + 1) = consN (cellAt H (a.add i)) (cellsFrom H a (i + 1) n) := by
  simp only [cellsFrom, consN]; cases cellAt H (a.add i) <;> cases cellsFrom H a (i + 1) n <;> rfl

/-! ### operands -/
@[go_sem] theorem evO_t (k : Nat) : evO σ τ (.t k) = τ.toArray[k]? := rfl
@[go_sem] theorem evO_s (k : Nat) : evO σ τ (.s k) = jn (σ.toArray[k]?) := rfl
@[go_sem] theorem evO_c (v : Value) : evO σ τ (.c v) = some v := rfl
@[go_sem] theorem evO_g (g : Nat) : evO σ τ (.g g) = some (.pointer (some ⟨g, 0, none⟩)) := rfl
@[go_sem] theorem evO_f (f : Nat) : evO σ τ (.f f) = some (.func (.func f) #[] #[]) := rfl
@[go_sem] theorem jn_some (x : Option Value) : jn (some x) = x := rfl
@[go_sem] theorem evs_nil {O : Type} (ev : O → Option Value) : evs ev [] = some [] := rfl
@[go_sem] theorem evs_cons {O : Type} (ev : O → Option Value) (x : O) (r : List O) : evs ev (x :: r) = consN (ev x) (evs ev r) := by
  simp only [evs, consN]; cases ev x <;> cases evs ev r <;> rfl
def part3 (o s : Nat) : Option Value → Option (List (Nat × Nat × Value)) → Option (List (Nat × Nat × Value))
  | some v, some r => some ((o, s, v) :: r)
  | _, _ => none
@[go_sem] theorem part3_some (o s : Nat) (v : Value) (r : List (Nat × Nat × Value)) : part3 o s (some v) (some r) = some ((o, s, v) :: r) := rfl
@[go_sem] theorem parts_nil {O : Type} (ev : O → Option Value) : partsE ev [] = some [] := rfl
@[go_sem] theorem parts_cons {O : Type} (ev : O → Option Value) (o s : Nat) (x : O) (r : List (Nat × Nat × O)) : partsE ev ((o, s, x) :: r) = part3 o s (ev x) (partsE ev r) := by
  simp only [partsE, part3]; cases ev x <;> cases partsE ev r <;> rfl
def bndN : Option Value → Option (Option Int)
  | some (.int _ n) => some (some n)
  | _ => none
@[go_sem] theorem bndN_some (k : IntKind) (n : Int) : bndN (some (.int k n)) = some (some n) := rfl
@[go_sem] theorem bnd_none' {O : Type} (ev : O → Option Value) : bnd ev none = some none := rfl
@[go_sem] theorem bnd_some' {O : Type} (ev : O → Option Value) (x : O) : bnd ev (some x) = bndN (ev x) := by
  simp only [bnd, bndN]
  cases ev x with
  | none => rfl
  | some v => cases v <;> rfl

/-! ### slots -/
@[go_sem] theorem get_cons (i t : Nat) (v : Value) (r : Env) : Env.get ((i, v) :: r) t = if i = t then some v else Env.get r t := rfl
@[go_sem] theorem get_nil (t : Nat) : Env.get [] t = none := rfl
@[go_sem] theorem mkS_nil (E : Env) : mkS [] E = [] := rfl
@[go_sem] theorem mkS_cons (t : Nat) (r : List Nat) (E : Env) : mkS (t :: r) E = Env.get E t :: mkS r E := rfl
@[go_sem] theorem lookS_cons (k t : Nat) (ks : List Nat) (s : Option Value) (ss : Slots) : lookS (k :: ks) (s :: ss) t = if k = t then s else lookS ks ss t := rfl
@[go_sem] theorem knowsK_nil (keep : List Nat) : knowsK keep σ [] = True := rfl
@[go_sem] theorem knowsK_cons (keep : List Nat) (t : Nat) (v : Value) (r : Env) : knowsK keep σ ((t, v) :: r) = (lookS keep σ t = some v ∧ knowsK keep σ r) := rfl
@[go_sem] theorem argS_nil (vs : List Value) : argS [] vs = [] := rfl
@[go_sem] theorem argS_cons (t : Nat) (r : List Nat) (vs : List Value) : argS (t :: r) vs = argV vs.toArray[t]? :: argS r vs := rfl
@[go_sem] theorem argV_some (v : Value) : argV (some v) = some v := rfl
@[go_sem] theorem argV_none : argV none = some (.tuple #[]) := rfl

/-! ### pure operations -/
attribute [go_sem] PE.val mvN pickN binN beqN steqN negN stEq leafEq andB isnilN isnilsN unN cviN cvsN faN ixN ixaN sixN slN sslN lenN slenN fld1N fldAN extN mmN ncN mkfN mkiN isnilfN tyaN tybN bldN binV intV strV unV slV sslV fillV
  SOp.rd resV RV.val finN finQ
attribute [go_sem] List.elem_cons List.elem_nil

@[go_sem] theorem inPush_some' (p : Prop) (v : Value) : inPush (some (p, v)) τ = some (p, v :: τ) := rfl
@[go_sem] theorem inPush_none : inPush none τ = none := rfl
def andN (p : Prop) : Option (Prop × List Value) → Option (Prop × List Value)
  | some (q, e) => some (p ∧ q, e)
  | none => none
@[go_sem] theorem andN_some (p q : Prop) (e : List Value) : andN p (some (q, e)) = some (p ∧ q, e) := rfl
@[go_sem] theorem andN_none (p : Prop) : andN p none = none := rfl
@[go_sem] theorem inThen_none (f : List Value → Option (Prop × List Value)) : inThen f none = none := rfl
@[go_sem] theorem innerE_nil : innerE H σ [] τ = some (True, τ) := by simp [innerE]
def inNext (H : Heap) (σ : Slots) (r : List In) : Option (Prop × List Value) → Option (Prop × List Value)
  | some (p, τ') => andN p (innerE H σ r τ')
  | none => none
@[go_sem] theorem inNext_some (r : List In) (p : Prop) (τ' : List Value) : inNext H σ r (some (p, τ')) = andN p (innerE H σ r τ') := rfl
@[go_sem] theorem inNext_none (r : List In) : inNext H σ r none = none := rfl
@[go_sem] theorem innerE_cons (i : In) (r : List In) : innerE H σ (i :: r) τ = inNext H σ r (inE H σ i τ) := by
  simp only [innerE, inThen, inNext]
  cases inE H σ i τ with
  | none => rfl
  | some x =>
    obtain ⟨p, τ'⟩ := x
    simp only [andN]
    cases innerE H σ r τ' with
    | none => rfl
    | some y => rfl
@[go_sem] theorem inE_op (s : SOp Opd) : inE H σ (.op s) τ = inPush (s.rd (evO σ τ) H) τ := by simp only [inE]
@[go_sem] theorem inE_nst (t : Opd) (b : Bool) (inner : List In) (x y : Opd) : inE H σ (.nst t b inner x y) τ = inPush (selV σ τ t b x y (innerE H σ inner τ)) τ := by simp only [inE]
attribute [go_sem] selV selN

/-! ### propositions -/
attribute [go_sem] true_and and_true true_imp_iff false_imp_iff implies_true forall_const

end

theorem vc_loop {P : Program} {Ec : Chain → Heap → Prop} {α : Type} {keep : List Nat} {σ : Slots} {H : Heap} {Q : Post} {c : SCode} (I : α → Heap → Prop) (E : α → Env) (μ : α → Nat) (x₀ : α) (h₀ : I x₀ H) (hk : knowsK keep σ (E x₀))
    (round : ∀ x H, I x H → vc P Ec c (mkS keep (E x)) H (seqK (loopK keep I E μ x) Q)) : vc P Ec (.loop keep c) σ H Q :=
  ⟨α, I, E, μ, x₀, h₀, hk, round⟩

theorem loopK_intro {α : Type} {keep : List Nat} {I : α → Heap → Prop} {E : α → Env} {μ : α → Nat} {x : α} {σ : Slots} {H : Heap} (y : α) (h1 : μ y < μ x) (h2 : knowsK keep σ (E y)) (h3 : I y H) : loopK keep I E μ x σ H := ⟨y, h1, h2, h3⟩

end Gx
end
section
/- Memory: blocks, frames, rows of one's own. -/
namespace Gx
open Go

/-- The cell at an offset of a block. -/
def cellB (H : Heap) (b o : Nat) : Option Value :=
  match H[b]? with
  | some (.cells c _ _) => c[o]?
  | _ => none

@[go_sem] theorem cellAt_mk (H : Heap) (b o : Nat) : cellAt H ⟨b, o, none⟩ = cellB H b o := by
  simp only [cellAt, cellB]; cases H[b]? with
  | none => rfl
  | some x => cases x <;> rfl
@[go_sem] theorem add_mk (b o n : Nat) : Addr.add ⟨b, o, none⟩ n = ⟨b, o + n, none⟩ := Addr.add_lit b o n

/-- A block that is known whole and may be written. -/
def Blk (H : Heap) (b t : Nat) (l : List Value) : Prop := H[b]? = some (.cells l.toArray t (0, 0))

theorem Blk.cell {H : Heap} {b t : Nat} {l : List Value} (h : Blk H b t l) (o : Nat) : cellB H b o = l[o]? := by
  unfold Blk at h; simp [cellB, h]
theorem Blk.lt {H : Heap} {b t : Nat} {l : List Value} (h : Blk H b t l) : b < H.size := by
  rcases Nat.lt_or_ge b H.size with h' | h'
  · exact h'
  · unfold Blk at h; simp [Array.getElem?_eq_none h'] at h

/-- Of what was there all is as it was, but for the blocks in `M`. -/
structure Fr (M : List Nat) (H H' : Heap) : Prop where
  size : H.size ≤ H'.size
  same : ∀ b, b < H.size → b ∉ M → H'[b]? = H[b]?

theorem Fr.refl (M : List Nat) (H : Heap) : Fr M H H := ⟨Nat.le_refl _, fun _ _ _ => rfl⟩
theorem Fr.trans {M : List Nat} {a b c : Heap} (h : Fr M a b) (k : Fr M b c) : Fr M a c :=
  ⟨Nat.le_trans h.size k.size, fun i hi hm => (k.same i (Nat.lt_of_lt_of_le hi h.size) hm).trans (h.same i hi hm)⟩
theorem Fr.mono {M M' : List Nat} {H H' : Heap} (h : Fr M H H') (hm : ∀ b, b ∈ M → b ∈ M' ∨ H.size ≤ b) : Fr M' H H' :=
  ⟨h.size, fun b hb hn => h.same b hb fun hx => by rcases hm b hx with h1 | h1; exact hn h1; omega⟩
/-- What was written was new. -/
theorem Fr.trans' {M M' : List Nat} {a b c : Heap} (h : Fr M a b) (k : Fr M' b c) (hm : ∀ x, x ∈ M' → x ∈ M ∨ a.size ≤ x) : Fr M a c :=
  ⟨Nat.le_trans h.size k.size, fun i hi hn => (k.same i (Nat.lt_of_lt_of_le hi h.size) (fun hx => by rcases hm i hx with h1 | h1; exact hn h1; omega)).trans (h.same i hi hn)⟩

theorem Blk.fr {M : List Nat} {H H' : Heap} {b t : Nat} {l : List Value} (h : Blk H b t l) (hf : Fr M H H') (hb : b ∉ M) : Blk H' b t l := by
  have hlt := h.lt
  unfold Blk at *; rw [hf.same b hlt hb]; exact h
theorem Blk.ext {H H' : Heap} {b t : Nat} {l : List Value} (h : Blk H b t l) (hf : Fr [] H H') : Blk H' b t l := h.fr hf (by simp)

theorem cellB_lt {H : Heap} {b o : Nat} {v : Value} (h : cellB H b o = some v) : b < H.size := by
  rcases Nat.lt_or_ge b H.size with h' | h'
  · exact h'
  · simp [cellB, Array.getElem?_eq_none h'] at h
theorem cellB_fr {M : List Nat} {H H' : Heap} {b o : Nat} {v : Value} (h : cellB H b o = some v) (hf : Fr M H H') (hb : b ∉ M) : cellB H' b o = some v := by
  have := hf.same b (cellB_lt h) hb
  unfold cellB at *; rw [this]; exact h

/-! ### a new block -/
theorem fr_push (M : List Nat) (H : Heap) (o : Obj) : Fr M H (H.push o) :=
  ⟨by simp, fun b hb _ => by rw [Array.getElem?_push]; simp [show b ≠ H.size by omega]⟩

theorem NewP_intro {H : Heap} {t : Nat} {cs : List Value} {R : Value → Heap → Prop} (h : ∀ H', Blk H' H.size t cs → Fr [] H H' → H'.size = H.size + 1 → R (.pointer (some ⟨H.size, 0, none⟩)) H') : NewP H t cs R :=
  h _ (by simp [Blk]) (fr_push _ _ _) (by simp)
theorem NewS_intro {H : Heap} {t n : Nat} {cs : List Value} {R : Value → Heap → Prop} (h : ∀ H', Blk H' H.size t cs → Fr [] H H' → H'.size = H.size + 1 → R (.slice (some ⟨H.size, 0, none⟩) n n) H') : NewS H t n cs R :=
  h _ (by simp [Blk]) (fr_push _ _ _) (by simp)

/-! ### stores -/
theorem Blk.set {H : Heap} {b t : Nat} {l : List Value} (h : Blk H b t l) (o : Nat) (v : Value) : Blk (setCellH H ⟨b, o, none⟩ v) b t (l.set o v) := by
  have hlt := h.lt
  unfold Blk at *
  have h' : H[b] = .cells l.toArray t (0, 0) := by simpa [Array.getElem?_eq_getElem hlt] using h
  simp only [setCellH]
  rw [Array.getElem?_eq_getElem (by simpa using hlt), Array.getElem_modify_self, h']
  simp

theorem fr_set (H : Heap) (b o : Nat) (v : Value) : Fr [b] H (setCellH H ⟨b, o, none⟩ v) :=
  ⟨by simp [setCellH], fun k _ hk => by simp only [setCellH, Array.getElem?_modify]; rw [if_neg (by simp at hk; omega)]⟩
theorem size_set (H : Heap) (a : Addr) (v : Value) : (setCellH H a v).size = H.size := by simp [setCellH]

/-- What a list is behind stores from an offset on. -/
def setL (l : List Value) (o : Nat) : List Value → List Value
  | [] => l
  | v :: vs => setL (l.set o v) (o + 1) vs

theorem length_setL (l : List Value) : ∀ (vs : List Value) (o : Nat), (setL l o vs).length = l.length := by
  intro vs; induction vs generalizing l with
  | nil => intro o; rfl
  | cons v vs ih => intro o; simp [setL, ih]

theorem setL_eq : ∀ (vs : List Value) (l : List Value) (o : Nat), o + vs.length ≤ l.length → setL l o vs = l.take o ++ vs ++ l.drop (o + vs.length)
  | [], l, o, _ => by simp [setL]
  | v :: vs, l, o, h => by
    simp only [List.length_cons] at h
    rw [setL, setL_eq vs (l.set o v) (o + 1) (by simp; omega)]
    have e2 : (l.set o v).take (o + 1) = l.take o ++ [v] := by
      rw [List.take_add_one, List.take_set_of_le (Nat.le_refl _)]; simp [show o < l.length by omega]
    have e3 : (l.set o v).drop (o + 1 + vs.length) = l.drop (o + (vs.length + 1)) := by
      rw [List.drop_set_of_lt (by omega)]; congr 1; omega
    rw [e2, e3]; simp

theorem Sto_blk {R : Heap → Prop} {b t : Nat} : ∀ (vs : List Value) (H : Heap) (l : List Value) (o i : Nat), Blk H b t l → o + i + vs.length ≤ l.length → (∀ v ∈ vs, v.oneCell' = true) →
    (∀ H', Blk H' b t (setL l (o + i) vs) → Fr [b] H H' → H'.size = H.size → R H') → Sto H ⟨b, o, none⟩ vs i R
  | [], H, l, o, i, h, _, _, hR => hR H h (Fr.refl _ _) rfl
  | v :: vs, H, l, o, i, h, hl, h1, hR => by
    simp only [List.length_cons] at hl
    have hlt : o + i < l.length := by omega
    refine ⟨h1 v (by simp), ⟨l[o + i], ?_⟩, ?_, ?_⟩
    · rw [add_mk, cellAt_mk, h.cell]; simp [hlt]
    · rw [add_mk]; unfold Blk at h; simp [frozenAt, h]
    · rw [add_mk]
      refine Sto_blk vs _ (l.set (o + i) v) o (i + 1) (h.set (o + i) v) (by simp; omega) (fun v hv => h1 v (by simp [hv])) fun H' hb hf hs => ?_
      exact hR H' hb ((fr_set H b (o + i) v).trans hf) (hs.trans (size_set _ _ _))

/-- One cell of a block that is known. -/
theorem Sto_one {R : Heap → Prop} {b t o : Nat} {H : Heap} {l : List Value} {v : Value} (h : Blk H b t l) (ho : o < l.length) (h1 : v.oneCell' = true)
    (hR : ∀ H', Blk H' b t (l.set o v) → Fr [b] H H' → H'.size = H.size → R H') : Sto H ⟨b, o, none⟩ [v] 0 R :=
  Sto_blk [v] H l o 0 h (by simp; omega) (by simpa using h1) fun H' hb hf hs => hR H' (by simpa [setL] using hb) hf hs

/-! ### rows of one's own -/
/-- The slice value `v` of `n` elements (type `e`, `size` cells each) owns the cells `xs`; `g`: its block. -/
def Own (H : Heap) (e size : Nat) (v : Value) (n : Nat) (xs : List Value) (g : Option Nat) : Prop :=
  xs.length = n * size ∧
  ((g = none ∧ v = .slice none 0 0 ∧ n = 0) ∨
   ∃ b cap cur, g = some b ∧ v = .slice (some ⟨b, 0, none⟩) n cap ∧ H[b]? = some (.cells cur e (0, 0)) ∧ n ≤ cap ∧ cap ≤ maxLen ∧ cur.size = cap * size ∧ cur.toList.take (n * size) = xs)

theorem Own.nil (H : Heap) (e size : Nat) : Own H e size (.slice none 0 0) 0 [] none := ⟨by simp, .inl ⟨rfl, rfl, rfl⟩⟩

theorem Own.lt {H : Heap} {e size : Nat} {v : Value} {n : Nat} {xs : List Value} {g : Option Nat} (h : Own H e size v n xs g) {b : Nat} (hb : g = some b) : b < H.size := by
  rcases h.2 with ⟨h1, _⟩ | ⟨b', cap, cur, h1, _, h2, _⟩
  · rw [h1] at hb; cases hb
  · rw [h1] at hb; cases hb
    rcases Nat.lt_or_ge b H.size with h' | h'
    · exact h'
    · simp [Array.getElem?_eq_none h'] at h2

theorem Own.fr {M : List Nat} {H H' : Heap} {e size : Nat} {v : Value} {n : Nat} {xs : List Value} {g : Option Nat} (h : Own H e size v n xs g) (hf : Fr M H H') (hg : ∀ b, g = some b → b ∉ M) : Own H' e size v n xs g := by
  refine ⟨h.1, ?_⟩
  rcases h.2 with h1 | ⟨b, cap, cur, h1, h2, h3, r⟩
  · exact .inl h1
  · refine .inr ⟨b, cap, cur, h1, h2, ?_, r⟩
    rw [hf.same b (h.lt h1) (hg b h1)]; exact h3

/-- What is at an offset. -/
theorem Own.cell {H : Heap} {e size : Nat} {v : Value} {n : Nat} {xs : List Value} {b : Nat} (h : Own H e size v n xs (some b)) (j : Nat) (hj : j < n * size) : cellB H b j = xs[j]? := by
  rcases h.2 with ⟨h1, _⟩ | ⟨b', cap, cur, h1, h2, h3, h4, h5, h6, h7⟩
  · cases h1
  · cases h1
    rw [← h7]
    have : j < cur.size := by rw [h6]; exact Nat.lt_of_lt_of_le hj (Nat.mul_le_mul_right _ h4)
    simp [cellB, h3, hj]

theorem Own.ownsRow {w : World} {e size : Nat} {v : Value} {n : Nat} {xs : List Value} {g : Option Nat} (h : Own w.heap e size v n xs g) : w.ownsRow 0 e size v n xs ∧ v.ownBlock = g := by
  rcases h.2 with ⟨rfl, rfl, rfl⟩ | ⟨b, cap, cur, rfl, rfl, h3, r⟩
  · exact ⟨⟨h.1, .inl ⟨rfl, rfl⟩⟩, rfl⟩
  · exact ⟨⟨h.1, .inr ⟨b, cap, cur, rfl, Nat.zero_le _, h3, r⟩⟩, rfl⟩
theorem Own.of_ownsRow {w : World} {base e size : Nat} {v : Value} {n : Nat} {xs : List Value} (h : w.ownsRow base e size v n xs) : Own w.heap e size v n xs v.ownBlock := by
  refine ⟨h.1, ?_⟩
  rcases h.2 with ⟨rfl, rfl⟩ | ⟨b, cap, cur, rfl, _, r⟩
  · exact .inl ⟨rfl, rfl, rfl⟩
  · exact .inr ⟨b, cap, cur, rfl, rfl, r⟩

/-- A row that a literal has made. -/
theorem Own.of_blk {H : Heap} {b e size n : Nat} {l : List Value} (h : Blk H b e l) (hl : l.length = n * size) (hn : n ≤ maxLen) : Own H e size (.slice (some ⟨b, 0, none⟩) n n) n l (some b) :=
  ⟨hl, .inr ⟨b, n, l.toArray, rfl, rfl, h, Nat.le_refl _, hn, by simp [hl], by simp [← hl]⟩⟩

/-- The type's row in the table. -/
structure ElemOk (P : Program) (t e size bytes : Nat) (z : Value) : Prop where
  und : P.underlying t = some (.slice e)
  info : (P.info? e).map (fun i => (i.zero, i.size, i.bytes)) = some (some z, size, bytes)
  zs : z.cells.size = size
  pos : 0 < size

/-- What the second argument of an append yields, from every world with this heap. -/
def SrcH (P : Program) (H : Heap) (size tx : Nat) (x : Value) (m : Nat) (news : List Value) : Prop := ∀ w : World, w.heap = H → Src P size tx x m news w

theorem SrcH.cells {P : Program} {H : Heap} {size tx e : Nat} (hk : P.underlying tx = some (.slice e)) {ad : Addr} {m c : Nat} {news : List Value} (hl : news.length = m * size) (hn : ∀ j u, news[j]? = some u → cellAt H (ad.add j) = some u) (h1 : ∀ u ∈ news, u.oneCell' = true) :
    SrcH P H size tx (.slice (some ad) m c) m news := fun w hw => Src.ofSlice w hk ad m c news hl (fun j u hj => by subst hw; exact hn j u hj) h1
theorem SrcH.nil {P : Program} {H : Heap} {size tx e : Nat} (hk : P.underlying tx = some (.slice e)) (c : Nat) : SrcH P H size tx (.slice none 0 c) 0 [] := fun w _ => Src.ofNil w hk c
theorem SrcH.str {P : Program} {H : Heap} {tx : Nat} (hk : P.underlying tx = some .string) (l : List UInt8) : SrcH P H 1 tx (.string ⟨⟨l⟩⟩) l.length (l.map fun b => Value.int .u8 b.toNat) := fun w _ => by
  have := Src.ofString w hk ⟨⟨l⟩⟩
  exact this
/-- A slice without elements, whatever its address. -/
theorem SrcH.empty {P : Program} {H : Heap} {size tx e : Nat} (hk : P.underlying tx = some (.slice e)) (ad : Option Addr) (c : Nat) : SrcH P H size tx (.slice ad 0 c) 0 [] := by
  cases ad with
  | none => exact SrcH.nil hk c
  | some ad => exact SrcH.cells hk (by simp) (by simp) (by simp)

theorem SrcH.blk {P : Program} {H : Heap} {size tx e : Nat} (hk : P.underlying tx = some (.slice e)) {b t m c : Nat} {l : List Value} (h : Blk H b t l) (hl : l.length = m * size) (h1 : ∀ u ∈ l, u.oneCell' = true) :
    SrcH P H size tx (.slice (some ⟨b, 0, none⟩) m c) m l :=
  SrcH.cells hk hl (fun j u hj => by rw [add_mk, cellAt_mk, Nat.zero_add, h.cell]; exact hj) h1

theorem Own.ne {H : Heap} {e size : Nat} {v : Value} {n : Nat} {xs : List Value} {g : Option Nat} {b t : Nat} {l : List Value} (h : Own H e size v n xs g) (hb : Blk H b t l) (ht : e ≠ t) : b ∉ g.toList := by
  intro hm
  have hg : g = some b := by simpa using hm
  rcases h.2 with ⟨h1, _⟩ | ⟨b', cap, cur, h1, _, h3, _⟩
  · rw [h1] at hg; cases hg
  · rw [h1] at hg; cases hg
    unfold Blk at hb
    rw [h3] at hb
    simp at hb
    exact ht hb.2

theorem setCells_blk {b e : Nat} : ∀ (vs : List Value) (o : Nat) (w : World) (l : List Value), Blk w.heap b e l → Blk (w.setCells b o vs).heap b e (setL l o vs) ∧ Fr [b] w.heap (w.setCells b o vs).heap ∧ Same w (w.setCells b o vs)
  | [], o, w, l, h => ⟨h, Fr.refl _ _, Same.refl _⟩
  | v :: vs, o, w, l, h => by
    obtain ⟨h1, h2, h3⟩ := setCells_blk vs (o + 1) (w.setCell ⟨b, o, none⟩ v) (l.set o v) (h.set o v)
    exact ⟨h1, (fr_set _ _ _ _).trans h2, ⟨h3.os, h3.tape, h3.output⟩⟩

/-- append to a row of one's own. -/
theorem App_own {P : Program} {t tx e size bytes : Nat} {z : Value} (hE : ElemOk P t e size bytes z) {H : Heap} {v x : Value} {n : Nat} {xs : List Value} {g : Option Nat} (hown : Own H e size v n xs g)
    {m : Nat} {news : List Value} (hsrc : SrcH P H size tx x m news) (h63 : n + m ≤ maxLen) (hb : (n + m) * bytes ≤ 140737488355328) {R : Value → Heap → Prop}
    (hR : ∀ a c H' g', Own H' e size (.slice a (n + m) c) (n + m) (xs ++ news) g' → Fr g.toList H H' → (∀ b, g' = some b → g = some b ∨ H.size ≤ b) → R (.slice a (n + m) c) H') : App P t tx t H v x R := by
  intro w hw
  have hs := hsrc w hw
  subst hw
  have hinfo := hE.info
  simp only [Option.map_eq_some_iff, Prod.mk.injEq] at hinfo
  obtain ⟨i, hi, hz, hsz, hbt⟩ := hinfo
  subst hsz; subst hbt
  have hlen : (xs ++ news).length = (n + m) * i.size := by rw [List.length_append, hown.1, hs.newsLen, Nat.add_mul]
  have h63' : ((n + m : Nat) : Int) ≤ 9223372036854775807 := by simp only [maxLen] at h63; omega
  have grow : ∀ (base : Option Addr) (cap : Nat), cap < n + m → v = .slice base n cap → (Builtin.firstCells i.size n (.slice base n cap)).run P w.drew = .ok xs.toArray w.drew →
      ∃ v' w', (Builtin.append_ #[t, tx] t #[v, x]).run P w = .ok v' w' ∧ R v' w'.heap ∧ Same w w' := by
    intro base cap hc hv hold
    subst hv
    have hr := run_append_grow_src (P := P) w t tx t e i z hE.und hi hz base n cap xs hold x m news hs hc h63' (growslice_fits hc hb)
    refine ⟨_, _, hr, hR _ _ _ (some w.heap.size) ⟨hlen, .inr ⟨w.heap.size, _, _, rfl, rfl, heap_alloc_new w.drew _, grownCap_ge _ _ _ _, grownCap_le_maxLen _ _ _ _ h63, ?_, ?_⟩⟩ ?_ ?_, ⟨rfl, rfl, rfl⟩⟩
    · have hge := grownCap_ge w (n + m) cap e
      rw [Array.size_append, size_zeroCells, hE.zs]
      simp only [List.size_toArray, hlen, ← Nat.add_mul]
      congr 1; omega
    · simp only [Array.toList_append]
      rw [← hlen]; exact List.take_left
    · exact fr_push _ _ _
    · intro b hb; simp at hb; exact .inr (by omega)
  rcases hown.2 with ⟨rfl, rfl, rfl⟩ | ⟨b, cap, cur, rfl, rfl, hg, hnc, hcm, hcs, htake⟩
  · have hx : xs = [] := List.eq_nil_of_length_eq_zero (by simpa using hown.1)
    subst hx
    by_cases hm : m = 0
    · subst hm
      have hn : news = [] := List.eq_nil_of_length_eq_zero (by simpa using hs.newsLen)
      subst hn
      refine ⟨.slice none 0 0, w, ?_, hR none 0 _ none (Own.nil _ _ _) (Fr.refl _ _) (by simp), Same.refl _⟩
      rcases hs.kind with ⟨e', hk⟩ | hk <;> simp [Builtin.append_, run_underlying hE.und, run_underlying hk, Go.sizeOf, typeInfo, hi, hs.len, hs.cells]
    · exact grow none 0 (by omega) rfl (run_firstCells_none _ _ _ _ _)
  · by_cases hroom : n + m ≤ cap
    · have hfit : n * i.size + news.length ≤ cur.size := by rw [hs.newsLen, hcs, ← Nat.add_mul]; exact Nat.mul_le_mul_right _ hroom
      have hblk : Blk w.heap b e cur.toList := by simpa [Blk] using hg
      have hr := run_append_room_src (P := P) w t tx t e i hE.und hi b 0 n cap x m news hs hroom
        (fun j hj => by
          have : w.cell? ⟨b, 0 + n * i.size + j, none⟩ = cellB w.heap b (0 + n * i.size + j) := (cell?_eq w _).trans (cellAt_mk _ _ _)
          rw [this, hblk.cell]; simp; omega)
        (fun j hj => by
          show frozenAt w.heap _ = false
          simp [frozenAt, hg])
      rw [Nat.zero_add] at hr
      obtain ⟨h1, h2, h3⟩ := setCells_blk news (n * i.size) w cur.toList hblk
      rw [setL_eq _ _ _ (by simpa using hfit)] at h1
      refine ⟨_, _, hr, hR _ _ _ (some b) ⟨hlen, .inr ⟨b, cap, _, rfl, rfl, h1, hroom, hcm, ?_, ?_⟩⟩ h2 (fun b' hb => by simp at hb; exact .inl (by rw [hb])), h3⟩
      · simp; omega
      · rw [htake, ← hlen]; exact List.take_left
    · refine grow (some ⟨b, 0, none⟩) cap (by omega) rfl ?_
      refine run_firstCells_some w.drew i.size n ⟨b, 0, none⟩ n cap xs hown.1 fun j u hj => ?_
      have hlt : j < n * i.size := by
        rw [← hown.1]
        rcases Nat.lt_or_ge j xs.length with h | h
        · exact h
        · rw [List.getElem?_eq_none h] at hj; cases hj
      show cellAt w.heap _ = _
      rw [add_mk, cellAt_mk, Nat.zero_add, hown.cell j hlt, hj]

end Gx
end
section
/- Bytes. -/
namespace Gx
open Go

def bv (b : UInt8) : Value := .int .u8 b.toNat
@[simp] theorem bv_one (b : UInt8) : (bv b).oneCell' = true := rfl

theorem wrap_u8_id (x : Int) (h : 0 ≤ x) (h' : x < 256) : IntKind.u8.wrap x = x := by
  rw [IntKind.wrap_u8]; omega
theorem wrap_u64_id (x : Int) (h : 0 ≤ x) (h' : x < 18446744073709551616) : IntKind.u64.wrap x = x := by
  rw [IntKind.wrap_u64]; omega
theorem wrap_i64_id (x : Int) (h : -9223372036854775808 ≤ x) (h' : x < 9223372036854775808) : IntKind.i64.wrap x = x := by
  rw [IntKind.wrap_i64]; omega
theorem u8_of (n : Nat) (h : n < 256) : ((UInt8.ofNat n).toNat : Int) = n := by
  have : (UInt8.ofNat n).toNat = n % 256 := UInt8.toNat_ofNat'
  omega

/-- What can be read behind a slice's address. -/
def BsR (H : Heap) (a : Option Addr) (l : List UInt8) : Prop :=
  l = [] ∨ ∃ b o, a = some ⟨b, o, none⟩ ∧ ∀ j (h : j < l.length), cellB H b (o + j) = some (bv l[j])

theorem BsR.nil (H : Heap) (a : Option Addr) : BsR H a [] := .inl rfl
theorem BsR.ext {H H' : Heap} {a : Option Addr} {l : List UInt8} (h : BsR H a l) (hf : Fr [] H H') : BsR H' a l := by
  rcases h with h | ⟨b, o, h1, h2⟩
  · exact .inl h
  · exact .inr ⟨b, o, h1, fun j hj => cellB_fr (h2 j hj) hf (by simp)⟩
/-- Behind writes to blocks that it does not lie in. -/
theorem BsR.fr {M : List Nat} {H H' : Heap} {a : Option Addr} {l : List UInt8} (h : BsR H a l) (hf : Fr M H H') (hm : ∀ b o, a = some ⟨b, o, none⟩ → b ∉ M) : BsR H' a l := by
  rcases h with h | ⟨b, o, h1, h2⟩
  · exact .inl h
  · exact .inr ⟨b, o, h1, fun j hj => cellB_fr (h2 j hj) hf (hm b o h1)⟩
theorem BsR.take {H : Heap} {a : Option Addr} {l : List UInt8} (h : BsR H a l) (n : Nat) : BsR H a (l.take n) := by
  rcases h with h | ⟨b, o, h1, h2⟩
  · subst h; simp [BsR]
  · refine .inr ⟨b, o, h1, fun j hj => ?_⟩
    simp only [List.length_take] at hj
    rw [h2 j (by omega)]; simp
theorem BsR.drop {H : Heap} {a : Option Addr} {l : List UInt8} (h : BsR H a l) (n : Nat) : BsR H (a.map (·.add n)) (l.drop n) := by
  rcases h with h | ⟨b, o, h1, h2⟩
  · subst h; simp [BsR]
  · refine .inr ⟨b, o + n, by simp [h1, add_mk], fun j hj => ?_⟩
    simp only [List.length_drop] at hj
    rw [show o + n + j = o + (n + j) by omega, h2 (n + j) (by omega)]; simp

theorem BsR.src {P : Program} {H : Heap} {a : Option Addr} {l : List UInt8} {tx e c : Nat} (hk : P.underlying tx = some (.slice e)) (h : BsR H a l) : SrcH P H 1 tx (.slice a l.length c) l.length (l.map bv) := by
  rcases h with h | ⟨b, o, h1, h2⟩
  · subst h; exact SrcH.empty hk a c
  · subst h1
    refine SrcH.cells hk (by simp) (fun j u hj => ?_) (by simp)
    have hlt : j < l.length := by
      rcases Nat.lt_or_ge j l.length with h | h
      · exact h
      · rw [List.getElem?_eq_none (by simpa using h)] at hj; cases hj
    rw [add_mk, cellAt_mk, h2 j hlt]
    simp [hlt] at hj; rw [hj]

theorem Own.bsR {H : Heap} {a : Option Addr} {c : Nat} {l : List UInt8} {e : Nat} {g : Option Nat} (h : Own H e 1 (.slice a l.length c) l.length (l.map bv) g) : BsR H a l := by
  rcases h.2 with ⟨h1, h2, h3⟩ | ⟨b, cap, cur, h1, h2, h3, h4, h5, h6, h7⟩
  · exact .inl (List.eq_nil_of_length_eq_zero h3)
  · refine .inr ⟨b, 0, by simp at h2; exact h2.1, fun j hj => ?_⟩
    subst h1
    rw [Nat.zero_add, h.cell j (by simpa using hj)]
    simp [hj]

/-- The string of the bytes behind a slice. -/
theorem BsR.b2s {H : Heap} {a : Option Addr} {l : List UInt8} (c : Nat) (h : BsR H a l) : b2sN H (some (.slice a l.length c)) = some (.string ⟨⟨l⟩⟩) := by
  have key : ∀ (k : List UInt8) (b o i : Nat), (∀ j (h : j < k.length), cellB H b (o + i + j) = some (bv k[j])) → bytesFrom H ⟨b, o, none⟩ i k.length = some k := by
    intro k
    induction k with
    | nil => intro b o i _; rfl
    | cons x k ih =>
      intro b o i hc
      simp only [List.length_cons, bytesFrom, add_mk, cellAt_mk]
      have h0 := hc 0 (by simp)
      simp only [Nat.add_zero, List.getElem_cons_zero] at h0
      rw [h0, ih b o (i + 1) (fun j hj => by have := hc (j + 1) (by simpa using hj); simpa [Nat.add_assoc, Nat.add_comm 1 j] using this)]
      simp [bv]
  rcases h with h | ⟨b, o, h1, h2⟩
  · subst h; cases a <;> rfl
  · subst h1
    simp only [b2sN]
    rw [key l b o 0 (by simpa using h2)]

theorem Own.cap_le {H : Heap} {e z n c : Nat} {a : Option Addr} {xs : List Value} {g : Option Nat} (h : Own H e z (.slice a n c) n xs g) : n ≤ c := by
  rcases h.2 with ⟨_, h2, _⟩ | ⟨b, cap, cur, h1, h2, h3, h4, _⟩
  · simp at h2; omega
  · simp at h2; omega
theorem BsR.sub {H : Heap} {a : Option Addr} {l : List UInt8} (h : BsR H a l) (c : Nat) {lo hi : Nat} (hc : lo ≤ hi ∧ hi ≤ c) : BsR H (if c = lo then a else Option.map (fun x => x.add lo) a) ((l.drop lo).take (hi - lo)) := by
  by_cases e : c = lo
  · rw [show hi - lo = 0 by omega]; exact .inl rfl
  · rw [if_neg e]; exact (h.drop lo).take _

end Gx
end
section
/- Short words for stripped code. -/
namespace Gx
open Go
abbrev I (n : Int) : Value := .int .i64 n
abbrev C (n : Int) : Opd := .c (.int .i64 n)
abbrev Z : Value := .slice none 0 0
abbrev oT (s : SOp Opd) : GOp := .op none .t s
abbrev oN (s : SOp Opd) : GOp := .op none .no s
abbrev oS (k : Nat) (s : SOp Opd) : GOp := .op none (.s k) s
abbrev mT (x : Opd) : GOp := .op none .t (.v (.mv x))
abbrev fT (n : Nat) (x : Opd) : GOp := .op none .t (.v (.fa n x))
abbrev lT (x : Opd) : GOp := .op none .t (.ld none x)
abbrev nT (x : Opd) : GOp := .op none .t (.v (.len x))
abbrev mS (k : Nat) (x : Opd) : GOp := .op none (.s k) (.v (.mv x))
abbrev rm (x : Opd) (D : List Nat) (n : DT) : DT := .rd none .t (.v (.mv x)) D n
abbrev rf (k : Nat) (x : Opd) (D : List Nat) (n : DT) : DT := .rd none .t (.v (.fa k x)) D n
abbrev rl (x : Opd) (D : List Nat) (n : DT) : DT := .rd none .t (.ld none x) D n
/-- Two pieces of code say the same. -/
abbrev U (a b : SCode) : Prop := ∀ (P : Program) (E : Chain → Heap → Prop) (σ : Slots) (H : Heap) (Q : Post), vc P E a σ H Q = vc P E b σ H Q
abbrev S0 : Opd := .s 0
abbrev T0 : Opd := .t 0
abbrev S1 : Opd := .s 1
abbrev T1 : Opd := .t 1
abbrev S2 : Opd := .s 2
abbrev T2 : Opd := .t 2
abbrev S3 : Opd := .s 3
abbrev T3 : Opd := .t 3
abbrev S4 : Opd := .s 4
abbrev T4 : Opd := .t 4
abbrev S5 : Opd := .s 5
abbrev T5 : Opd := .t 5
abbrev S6 : Opd := .s 6
abbrev T6 : Opd := .t 6
abbrev S7 : Opd := .s 7
abbrev T7 : Opd := .t 7
abbrev S8 : Opd := .s 8
abbrev T8 : Opd := .t 8
abbrev S9 : Opd := .s 9
abbrev T9 : Opd := .t 9
abbrev S10 : Opd := .s 10
abbrev T10 : Opd := .t 10
abbrev S11 : Opd := .s 11
abbrev T11 : Opd := .t 11
abbrev S12 : Opd := .s 12
abbrev T12 : Opd := .t 12
abbrev S13 : Opd := .s 13
abbrev T13 : Opd := .t 13
abbrev S14 : Opd := .s 14
abbrev T14 : Opd := .t 14
abbrev S15 : Opd := .s 15
abbrev T15 : Opd := .t 15
abbrev S16 : Opd := .s 16
abbrev T16 : Opd := .t 16
abbrev S17 : Opd := .s 17
abbrev T17 : Opd := .t 17
abbrev S18 : Opd := .s 18
abbrev T18 : Opd := .t 18
abbrev S19 : Opd := .s 19
abbrev T19 : Opd := .t 19
abbrev S20 : Opd := .s 20
abbrev T20 : Opd := .t 20
abbrev S21 : Opd := .s 21
abbrev T21 : Opd := .t 21
abbrev S22 : Opd := .s 22
abbrev T22 : Opd := .t 22
abbrev S23 : Opd := .s 23
abbrev T23 : Opd := .t 23
abbrev S24 : Opd := .s 24
abbrev T24 : Opd := .t 24
abbrev S25 : Opd := .s 25
abbrev T25 : Opd := .t 25
abbrev S26 : Opd := .s 26
abbrev T26 : Opd := .t 26
abbrev S27 : Opd := .s 27
abbrev T27 : Opd := .t 27
abbrev S28 : Opd := .s 28
abbrev T28 : Opd := .t 28
abbrev S29 : Opd := .s 29
abbrev T29 : Opd := .t 29
abbrev S30 : Opd := .s 30
abbrev T30 : Opd := .t 30
abbrev S31 : Opd := .s 31
abbrev T31 : Opd := .t 31
abbrev S32 : Opd := .s 32
abbrev T32 : Opd := .t 32
abbrev S33 : Opd := .s 33
abbrev T33 : Opd := .t 33
abbrev S34 : Opd := .s 34
abbrev T34 : Opd := .t 34
abbrev S35 : Opd := .s 35
abbrev T35 : Opd := .t 35
abbrev S36 : Opd := .s 36
abbrev T36 : Opd := .t 36
abbrev S37 : Opd := .s 37
abbrev T37 : Opd := .t 37
abbrev S38 : Opd := .s 38
abbrev T38 : Opd := .t 38
abbrev S39 : Opd := .s 39
abbrev T39 : Opd := .t 39
end Gx
end
section
/- Generated: the stripped code of Go functions, each held against the loaded program. -/
namespace Go.Proofs.YtbgjgaaobnbijaaDoor
open Gx Go

/- lexer.Lex -/
@[go_sem] def c17k : List Nat := [0, 2, 3, 4, 5, 6, 7, 8, 18, 26]
@[go_sem] def c17r0 : List GOp := [mS 1 (.c Z), oS 2 (.al 31 [(I 0), (I 0)])]
@[go_sem] def c17r1 : List GOp := [mS 3 (.c Z)]
@[go_sem] def c17r2 : List GOp := [mS 4 (C 0)]
@[go_sem] def c17r3 : List GOp := [mT S0, mT S4, oT (.call 27 [T1, T0]), mT T0, oT (.v (.ext T0 0)), oT (.v (.ext T1 1)), oT (.v (.ext T2 2)), oS 5 (.al 39 [(I 0), (.string ⟨⟨[]⟩⟩), (I 0), (I 0)]), oS 7 (.al 31 [(I 0), (I 0)]), oN (.st 4 S5 T2), mS 6 T1, oN (.st 2 S7 T0)]
@[go_sem] def c17r4 : List GOp := [fT 0 S7, lT T0, oS 8 (.v (.bin .neq T0 (C 0)))]
@[go_sem] def c17d5 : DT := (.rd none .t (.ld (some 2) S7) [2] (.rd none (.s 1) (.v (.mv (.c Z))) [2] (.ef 2 none .no (.st 2 S2 T0) .done)))
def c17s6 : SCode := (.cond S8 (.seq (.de c17d5) .ret) .skip)
@[go_sem] theorem c17s6eq : U c17s6 (.cond S8 (.seq (.de c17d5) .ret) .skip) := fun _ _ _ _ _ => rfl
@[go_sem] def c17r7 : List GOp := [mT S3, oT (.ld (some 4) S5), oT (.bs 39 1 [(I 0), (.string ⟨⟨[]⟩⟩), (I 0), (I 0)] [(0, (4, T0))]), oT (.ap 34 34 T2 T0), mS 3 T0]
@[go_sem] def c17r8 : List GOp := [fT 0 S5, lT T0, oS 9 (.v (.bin .eql T0 (C 6)))]
@[go_sem] def c17r9 : List GOp := [mT S3, oT (.v (.bld [(I 0), (I 0)] [])), mS 1 T1, oN (.st 2 S2 T0)]
def c17s10 : SCode := (.seq (.ops c17r9) .ret)
@[go_sem] theorem c17s10eq : U c17s10 (.seq (.ops c17r9) .ret) := fun _ _ _ _ _ => rfl
@[go_sem] def c17r11 : List GOp := [mT S6, mS 4 T0]
def c17s12 : SCode := (.ops c17r11)
@[go_sem] theorem c17s12eq : U c17s12 (.ops c17r11) := fun _ _ _ _ _ => rfl
def c17s13 : SCode := (.seq (.seq (.ops c17r8) (.cond S9 c17s10 .skip)) c17s12)
@[go_sem] theorem c17s13eq : U c17s13 (.seq (.seq (.ops c17r8) (.cond S9 c17s10 .skip)) c17s12) := fun _ _ _ _ _ => rfl
def c17s14 : SCode := (.seq (.ops c17r7) c17s13)
@[go_sem] theorem c17s14eq : U c17s14 (.seq (.ops c17r7) c17s13) := fun _ _ _ _ _ => rfl
def c17s15 : SCode := (.seq (.seq (.ops c17r4) c17s6) c17s14)
@[go_sem] theorem c17s15eq : U c17s15 (.seq (.seq (.ops c17r4) c17s6) c17s14) := fun _ _ _ _ _ => rfl
def c17s16 : SCode := (.block 1 (.seq (.ops c17r3) c17s15))
@[go_sem] theorem c17s16eq : U c17s16 (.block 1 (.seq (.ops c17r3) c17s15)) := fun _ _ _ _ _ => rfl
def c17s17 : SCode := (.block 0 (.loop c17k c17s16))
@[go_sem] theorem c17s17eq : U c17s17 (.block 0 (.loop c17k c17s16)) := fun _ _ _ _ _ => rfl
def c17s18 : SCode := (.seq (.ops c17r2) c17s17)
@[go_sem] theorem c17s18eq : U c17s18 (.seq (.ops c17r2) c17s17) := fun _ _ _ _ _ => rfl
def c17s19 : SCode := (.seq (.ops c17r1) c17s18)
@[go_sem] theorem c17s19eq : U c17s19 (.seq (.ops c17r1) c17s18) := fun _ _ _ _ _ => rfl
def c17 : Gx.Fn := ⟨30, c17k, (.seq (.ops c17r0) c17s19), [(.tmp S1), (.cell S2 (some 2))]⟩
theorem c17ok : stripFn Tryd.prog c17k Tryd.f17 = some c17 := by kernel_rfl

/- lexer.Text -/
@[go_sem] def c22k : List Nat := [0, 2, 3, 4, 5, 6, 7, 8, 9, 10, 11, 12, 13, 34, 37, 45, 50]
@[go_sem] def c22r0 : List GOp := [mS 1 (.c (.string ⟨⟨[]⟩⟩)), mS 2 (C 0)]
@[go_sem] def c22r1 : List GOp := [mS 3 (.c Z)]
@[go_sem] def c22r2 : List GOp := [mS 9 S0, oS 10 (.v (.len S9)), mS 11 (C 0)]
@[go_sem] def c22r3 : List GOp := [oS 12 (.v (.bin .lss S11 S10))]
@[go_sem] def c22r4 : List GOp := [mT S11, oT (.v (.ix 4 S9 S11)), oT (.ld (some 4) T0), oS 5 (.al 39 [(I 0), (.string ⟨⟨[]⟩⟩), (I 0), (I 0)]), mS 4 T2, oN (.st 4 S5 T0)]
@[go_sem] def c22r5 : List GOp := [oT (.ld (some 4) S5), oT (.call 31 [T0]), mT T0, oT (.v (.ext T0 0)), oT (.v (.ext T1 1)), mS 6 T1, mS 7 T0]
@[go_sem] def c22r6 : List GOp := [mT S7, oT (.v (.un .not T0)), mT T0, (.sel T0 false [(.op (.v (.fa 0 S5))), (.op (.ld none T0)), (.op (.v (.bin .eql T0 (C 6)))), (.op (.v (.mv S4))), (.op (.v (.mv S0))), (.op (.v (.len T0))), (.op (.v (.bin .sub T0 (C 1)))), (.op (.v (.bin .eql T3 T0))), (.op (.v (.beq true T5 T0)))] (.s 13) (.c (.bool true)) T0)]
@[go_sem] def c22r7 : List GOp := [mS 1 (.c (.string ⟨⟨[]⟩⟩)), mS 2 (C 1)]
def c22s8 : SCode := (.seq (.ops c22r7) .ret)
@[go_sem] theorem c22s8eq : U c22s8 (.seq (.ops c22r7) .ret) := fun _ _ _ _ _ => rfl
@[go_sem] def c22r9 : List GOp := [fT 0 S5, lT T0, oS 14 (.v (.bin .neq T0 (C 6)))]
@[go_sem] def c22r10 : List GOp := [mT S3, mT S6, oT (.bs 9 1 [(.string ⟨⟨[]⟩⟩)] [(0, (1, T0))]), oT (.ap 62 62 T2 T0), mS 3 T0]
def c22s11 : SCode := (.cond S14 (.ops c22r10) .skip)
@[go_sem] theorem c22s11eq : U c22s11 (.cond S14 (.ops c22r10) .skip) := fun _ _ _ _ _ => rfl
def c22s12 : SCode := (.seq (.ops c22r9) c22s11)
@[go_sem] theorem c22s12eq : U c22s12 (.seq (.ops c22r9) c22s11) := fun _ _ _ _ _ => rfl
def c22s13 : SCode := (.seq (.seq (.ops c22r6) (.cond S13 c22s8 .skip)) c22s12)
@[go_sem] theorem c22s13eq : U c22s13 (.seq (.seq (.ops c22r6) (.cond S13 c22s8 .skip)) c22s12) := fun _ _ _ _ _ => rfl
def c22s14 : SCode := (.seq (.ops c22r5) c22s13)
@[go_sem] theorem c22s14eq : U c22s14 (.seq (.ops c22r5) c22s13) := fun _ _ _ _ _ => rfl
@[go_sem] def c22r15 : List GOp := [oT (.v (.bin .add S11 (C 1))), mS 11 T0]
def c22s16 : SCode := (.ops c22r15)
@[go_sem] theorem c22s16eq : U c22s16 (.ops c22r15) := fun _ _ _ _ _ => rfl
def c22s17 : SCode := (.seq (.block 1 (.seq (.ops c22r4) c22s14)) c22s16)
@[go_sem] theorem c22s17eq : U c22s17 (.seq (.block 1 (.seq (.ops c22r4) c22s14)) c22s16) := fun _ _ _ _ _ => rfl
def c22s18 : SCode := (.seq (.cond S12 .skip (.exit 0)) c22s17)
@[go_sem] theorem c22s18eq : U c22s18 (.seq (.cond S12 .skip (.exit 0)) c22s17) := fun _ _ _ _ _ => rfl
def c22s19 : SCode := (.seq (.ops c22r3) c22s18)
@[go_sem] theorem c22s19eq : U c22s19 (.seq (.ops c22r3) c22s18) := fun _ _ _ _ _ => rfl
def c22s20 : SCode := (.block 0 (.loop c22k c22s19))
@[go_sem] theorem c22s20eq : U c22s20 (.block 0 (.loop c22k c22s19)) := fun _ _ _ _ _ => rfl
@[go_sem] def c22r21 : List GOp := [mT S0, nT T0, oS 15 (.v (.bin .eql T0 (C 0)))]
@[go_sem] def c22r22 : List GOp := [mS 1 (.c (.string ⟨⟨[]⟩⟩)), mS 2 (C 1)]
def c22s23 : SCode := (.seq (.ops c22r22) .ret)
@[go_sem] theorem c22s23eq : U c22s23 (.seq (.ops c22r22) .ret) := fun _ _ _ _ _ => rfl
def c22s24 : SCode := (.cond S15 c22s23 .skip)
@[go_sem] theorem c22s24eq : U c22s24 (.cond S15 c22s23 .skip) := fun _ _ _ _ _ => rfl
@[go_sem] def c22r25 : List GOp := [mT S3, oT (.call 32 [T0, (.c (.string ⟨⟨[32]⟩⟩))]), mS 8 T0]
@[go_sem] def c22r26 : List GOp := [mT S8, oT (.v (.slen T0)), oS 16 (.v (.bin .gtr T0 (C 65536)))]
@[go_sem] def c22r27 : List GOp := [mS 1 (.c (.string ⟨⟨[]⟩⟩)), mS 2 (C 6)]
def c22s28 : SCode := (.seq (.ops c22r27) .ret)
@[go_sem] theorem c22s28eq : U c22s28 (.seq (.ops c22r27) .ret) := fun _ _ _ _ _ => rfl
def c22s29 : SCode := (.cond S16 c22s28 .skip)
@[go_sem] theorem c22s29eq : U c22s29 (.cond S16 c22s28 .skip) := fun _ _ _ _ _ => rfl
@[go_sem] def c22r30 : List GOp := [mT S8, mS 1 T0, mS 2 (C 0)]
def c22s31 : SCode := (.seq (.ops c22r30) .ret)
@[go_sem] theorem c22s31eq : U c22s31 (.seq (.ops c22r30) .ret) := fun _ _ _ _ _ => rfl
def c22s32 : SCode := (.seq (.seq (.ops c22r26) c22s29) c22s31)
@[go_sem] theorem c22s32eq : U c22s32 (.seq (.seq (.ops c22r26) c22s29) c22s31) := fun _ _ _ _ _ => rfl
def c22s33 : SCode := (.seq (.ops c22r25) c22s32)
@[go_sem] theorem c22s33eq : U c22s33 (.seq (.ops c22r25) c22s32) := fun _ _ _ _ _ => rfl
def c22s34 : SCode := (.seq (.seq (.ops c22r21) c22s24) c22s33)
@[go_sem] theorem c22s34eq : U c22s34 (.seq (.seq (.ops c22r21) c22s24) c22s33) := fun _ _ _ _ _ => rfl
def c22s35 : SCode := (.seq (.seq (.ops c22r2) c22s20) c22s34)
@[go_sem] theorem c22s35eq : U c22s35 (.seq (.seq (.ops c22r2) c22s20) c22s34) := fun _ _ _ _ _ => rfl
def c22s36 : SCode := (.seq (.ops c22r1) c22s35)
@[go_sem] theorem c22s36eq : U c22s36 (.seq (.ops c22r1) c22s35) := fun _ _ _ _ _ => rfl
def c22 : Gx.Fn := ⟨52, c22k, (.seq (.ops c22r0) c22s36), [(.tmp S1), (.tmp S2)]⟩
theorem c22ok : stripFn Tryd.prog c22k Tryd.f22 = some c22 := by kernel_rfl

/- lexer.Next -/
@[go_sem] def c27k : List Nat := [0, 1, 4, 5, 6, 7, 8, 9, 10, 13, 23, 37]
@[go_sem] def c27r0 : List GOp := [oS 2 (.al 39 [(I 0), (.string ⟨⟨[]⟩⟩), (I 0), (I 0)]), mS 3 (C 0), oS 4 (.al 31 [(I 0), (I 0)])]
@[go_sem] def c27r1 : List GOp := [mT S0, oT (.v (.slen T0)), oS 9 (.v (.bin .gtr T0 (C 65536)))]
@[go_sem] def c27r2 : List GOp := [oT (.v (.bld [(I 0), (.string ⟨⟨[]⟩⟩), (I 0), (I 0)] [])), oT (.v (.bld [(I 0), (I 0)] [(0, (1, (C 6))), (1, (1, (C 65536)))])), oN (.st 4 S2 T1), mS 3 (C 0), oN (.st 2 S4 T0)]
def c27s3 : SCode := (.seq (.ops c27r2) .ret)
@[go_sem] theorem c27s3eq : U c27s3 (.seq (.ops c27r2) .ret) := fun _ _ _ _ _ => rfl
@[go_sem] def c27r4 : List GOp := [mT S1, oT (.v (.bin .lss T0 (C 0))), mT T0, (.sel T0 false [(.op (.v (.mv S1))), (.op (.v (.mv S0))), (.op (.v (.slen T0))), (.op (.v (.bin .gtr T2 T0)))] (.s 10) (.c (.bool true)) T0)]
@[go_sem] def c27r5 : List GOp := [oT (.v (.bld [(I 0), (.string ⟨⟨[]⟩⟩), (I 0), (I 0)] [])), oT (.v (.bld [(I 0), (I 0)] [(0, (1, (C 1)))])), oN (.st 4 S2 T1), mS 3 (C 0), oN (.st 2 S4 T0)]
def c27s6 : SCode := (.seq (.ops c27r5) .ret)
@[go_sem] theorem c27s6eq : U c27s6 (.seq (.ops c27r5) .ret) := fun _ _ _ _ _ => rfl
@[go_sem] def c27r7 : List GOp := [mT S0, mT S1, oT (.v (.bld [(.string ⟨⟨[]⟩⟩), (I 0)] [(0, (1, T1)), (1, (1, T0))])), oS 5 (.al 71 [(.string ⟨⟨[]⟩⟩), (I 0)]), oN (.st 2 S5 T0)]
@[go_sem] def c27r8 : List GOp := [oT (.call 40 [S5])]
@[go_sem] def c27r9 : List GOp := [fT 1 S5, lT T0, mS 6 T0]
@[go_sem] def c27r10 : List GOp := [oT (.call 41 [S5]), mT T0, oT (.v (.ext T0 0)), oT (.v (.ext T1 1)), oS 7 (.al 39 [(I 0), (.string ⟨⟨[]⟩⟩), (I 0), (I 0)]), oN (.st 4 S7 T1), mS 8 T0]
@[go_sem] def c27r11 : List GOp := [mT S8, oS 11 (.v (.bin .neq T0 (C 0)))]
@[go_sem] def c27r12 : List GOp := [oT (.v (.bld [(I 0), (.string ⟨⟨[]⟩⟩), (I 0), (I 0)] [])), mT S8, mT S6, oT (.v (.bld [(I 0), (I 0)] [(0, (1, T1)), (1, (1, T0))])), oN (.st 4 S2 T3), mS 3 (C 0), oN (.st 2 S4 T0)]
def c27s13 : SCode := (.seq (.ops c27r12) .ret)
@[go_sem] theorem c27s13eq : U c27s13 (.seq (.ops c27r12) .ret) := fun _ _ _ _ _ => rfl
def c27s14 : SCode := (.cond S11 c27s13 .skip)
@[go_sem] theorem c27s14eq : U c27s14 (.cond S11 c27s13 .skip) := fun _ _ _ _ _ => rfl
@[go_sem] def c27d15 : DT := (.rd none .t (.ld (some 4) S7) [4, 6] (rf 1 S5 [6] (rl T0 [6] (.rd none .t (.v (.bld [(I 0), (I 0)] [])) [6] (.ef 4 none .no (.st 4 S2 T3) (.rd none (.s 3) (.v (.mv T1)) [6] (.ef 6 none .no (.st 2 S4 T0) .done)))))))
def c27s16 : SCode := (.seq (.de c27d15) .ret)
@[go_sem] theorem c27s16eq : U c27s16 (.seq (.de c27d15) .ret) := fun _ _ _ _ _ => rfl
def c27s17 : SCode := (.seq (.seq (.ops c27r11) c27s14) c27s16)
@[go_sem] theorem c27s17eq : U c27s17 (.seq (.seq (.ops c27r11) c27s14) c27s16) := fun _ _ _ _ _ => rfl
def c27s18 : SCode := (.seq (.ops c27r10) c27s17)
@[go_sem] theorem c27s18eq : U c27s18 (.seq (.ops c27r10) c27s17) := fun _ _ _ _ _ => rfl
def c27s19 : SCode := (.seq (.ops c27r9) c27s18)
@[go_sem] theorem c27s19eq : U c27s19 (.seq (.ops c27r9) c27s18) := fun _ _ _ _ _ => rfl
def c27s20 : SCode := (.seq (.ops c27r8) c27s19)
@[go_sem] theorem c27s20eq : U c27s20 (.seq (.ops c27r8) c27s19) := fun _ _ _ _ _ => rfl
def c27s21 : SCode := (.seq (.ops c27r7) c27s20)
@[go_sem] theorem c27s21eq : U c27s21 (.seq (.ops c27r7) c27s20) := fun _ _ _ _ _ => rfl
def c27s22 : SCode := (.seq (.seq (.ops c27r4) (.cond S10 c27s6 .skip)) c27s21)
@[go_sem] theorem c27s22eq : U c27s22 (.seq (.seq (.ops c27r4) (.cond S10 c27s6 .skip)) c27s21) := fun _ _ _ _ _ => rfl
def c27s23 : SCode := (.seq (.seq (.ops c27r1) (.cond S9 c27s3 .skip)) c27s22)
@[go_sem] theorem c27s23eq : U c27s23 (.seq (.seq (.ops c27r1) (.cond S9 c27s3 .skip)) c27s22) := fun _ _ _ _ _ => rfl
def c27 : Gx.Fn := ⟨46, c27k, (.seq (.ops c27r0) c27s23), [(.cell S2 (some 4)), (.tmp S3), (.cell S4 (some 2))]⟩
theorem c27ok : stripFn Tryd.prog c27k Tryd.f27 = some c27 := by kernel_rfl

/- lexer.spelling -/
@[go_sem] def c31k : List Nat := [0, 1, 2, 3, 11, 13, 14, 27, 34, 52, 61, 68]
@[go_sem] def c31r0 : List GOp := [oS 1 (.bx 39 S0), mS 2 (.c (.string ⟨⟨[]⟩⟩)), mS 3 (.c (.bool false))]
@[go_sem] def c31r1 : List GOp := [fT 0 S1, lT T0, oT (.v (.bin .neq T0 (C 3))), mT T0, (.sel T0 true [(.op (.v (.fa 2 S1))), (.op (.ld none T0)), (.op (.v (.bin .neq T0 (C 0))))] (.s 4) T0 (.c (.bool false)))]
@[go_sem] def c31r2 : List GOp := [mS 2 (.c (.string ⟨⟨[]⟩⟩)), mS 3 (.c (.bool false))]
def c31s3 : SCode := (.seq (.ops c31r2) .ret)
@[go_sem] theorem c31s3eq : U c31s3 (.seq (.ops c31r2) .ret) := fun _ _ _ _ _ => rfl
@[go_sem] def c31r4 : List GOp := [fT 0 S1, oS 5 (.ld none T0)]
@[go_sem] def c31r5 : List GOp := [oT (.v (.bin .eql S5 (C 1))), mS 6 T0]
@[go_sem] def c31d6 : DT := (rf 1 S1 [] (rl T0 [] (rf 1 S1 [4, 8] (rl T0 [4, 8] (.ef 4 none .t (.call 49 [T0]) (rm T0 [8] (.rd (some (T0, true)) .t (.v (.fa 1 S1)) [8] (.rd (some (T1, true)) .t (.ld none T0) [8] (.ef 8 (some (T2, true)) .t (.call 50 [T0]) (.rd (some (T3, true)) .t (.v (.un .not T0)) [] (.rd none .t (.v (.pick T4 T0 (.c (.bool false)))) [] (.rd none (.s 2) (.v (.mv T9)) [] (.rd none (.s 3) (.v (.mv T0)) [] .done)))))))))))))
@[go_sem] def c31r7 : List GOp := [oT (.v (.bin .eql S5 (C 2))), mS 7 T0]
@[go_sem] def c31d8 : DT := (rf 1 S1 [] (rl T0 [] (rf 1 S1 [4] (rl T0 [4] (.ef 4 none .t (.call 50 [T0]) (.rd none (.s 2) (.v (.mv T3)) [] (.rd none (.s 3) (.v (.mv T0)) [] .done)))))))
@[go_sem] def c31r9 : List GOp := [oT (.v (.bin .eql S5 (C 3))), mS 8 T0]
@[go_sem] def c31d10 : DT := (rf 2 S1 [2] (rl T0 [2] (rf 1 S1 [] (rl T0 [] (.rd none .t (.v (.bin .eql T0 (.c (.string ⟨⟨[]⟩⟩)))) [] (.ef 2 none .t (.call 51 [T3, (C 10)]) (rm T1 [] (.rd (some (T0, true)) .t (.v (.fa 2 S1)) [] (.rd (some (T1, true)) .t (.ld none T0) [] (.rd (some (T2, true)) .t (.v (.bin .geq T0 (C 0))) [] (.rd none .t (.v (.pick T3 T0 (.c (.bool false)))) [] (rm T0 [] (.rd (some (T0, true)) .t (.v (.fa 2 S1)) [] (.rd (some (T1, true)) .t (.ld none T0) [] (.rd (some (T2, true)) .t (.v (.bin .leq T0 (C 1000000000000000))) [] (.rd none .t (.v (.pick T3 T0 (.c (.bool false)))) [] (.rd none (.s 2) (.v (.mv T10)) [] (.rd none (.s 3) (.v (.mv T0)) [] .done))))))))))))))))))
def c31s11 : SCode := (.seq (.de c31d10) .ret)
@[go_sem] theorem c31s11eq : U c31s11 (.seq (.de c31d10) .ret) := fun _ _ _ _ _ => rfl
@[go_sem] def c31r12 : List GOp := [oT (.v (.bin .eql S5 (C 4))), mS 9 T0]
@[go_sem] def c31d13 : DT := (rf 1 S1 [] (rl T0 [] (.rd none .t (.v (.bin .add (.c (.string ⟨⟨[39]⟩⟩)) T0)) [] (.rd none .t (.v (.bin .add T0 (.c (.string ⟨⟨[39]⟩⟩)))) [] (rf 1 S1 [6] (rl T0 [6] (.ef 6 none .t (.call 49 [T0]) (.rd none (.s 2) (.v (.mv T3)) [] (.rd none (.s 3) (.v (.mv T0)) [] .done)))))))))
def c31s14 : SCode := (.seq (.de c31d13) .ret)
@[go_sem] theorem c31s14eq : U c31s14 (.seq (.de c31d13) .ret) := fun _ _ _ _ _ => rfl
@[go_sem] def c31r15 : List GOp := [oT (.v (.bin .eql S5 (C 5))), mS 10 T0]
@[go_sem] def c31d16 : DT := (rf 1 S1 [] (rl T0 [] (rf 1 S1 [4] (rl T0 [4] (.ef 4 none .t (.call 52 [T0]) (.rd none (.s 2) (.v (.mv T3)) [] (.rd none (.s 3) (.v (.mv T0)) [] .done)))))))
def c31s17 : SCode := (.seq (.de c31d16) .ret)
@[go_sem] theorem c31s17eq : U c31s17 (.seq (.de c31d16) .ret) := fun _ _ _ _ _ => rfl
@[go_sem] def c31r18 : List GOp := [oT (.v (.bin .eql S5 (C 6))), mS 11 T0]
@[go_sem] def c31r19 : List GOp := [fT 1 S1, lT T0, oT (.v (.bin .eql T0 (.c (.string ⟨⟨[]⟩⟩)))), mS 2 (.c (.string ⟨⟨[]⟩⟩)), mS 3 T0]
def c31s20 : SCode := (.seq (.dq c31r19) .ret)
@[go_sem] theorem c31s20eq : U c31s20 (.seq (.dq c31r19) .ret) := fun _ _ _ _ _ => rfl
def c31s21 : SCode := (.cond S11 c31s20 .skip)
@[go_sem] theorem c31s21eq : U c31s21 (.cond S11 c31s20 .skip) := fun _ _ _ _ _ => rfl
def c31s22 : SCode := (.seq (.ops c31r18) c31s21)
@[go_sem] theorem c31s22eq : U c31s22 (.seq (.ops c31r18) c31s21) := fun _ _ _ _ _ => rfl
def c31s23 : SCode := (.cond S10 c31s17 c31s22)
@[go_sem] theorem c31s23eq : U c31s23 (.cond S10 c31s17 c31s22) := fun _ _ _ _ _ => rfl
def c31s24 : SCode := (.seq (.ops c31r15) c31s23)
@[go_sem] theorem c31s24eq : U c31s24 (.seq (.ops c31r15) c31s23) := fun _ _ _ _ _ => rfl
def c31s25 : SCode := (.cond S9 c31s14 c31s24)
@[go_sem] theorem c31s25eq : U c31s25 (.cond S9 c31s14 c31s24) := fun _ _ _ _ _ => rfl
def c31s26 : SCode := (.seq (.ops c31r12) c31s25)
@[go_sem] theorem c31s26eq : U c31s26 (.seq (.ops c31r12) c31s25) := fun _ _ _ _ _ => rfl
def c31s27 : SCode := (.cond S8 c31s11 c31s26)
@[go_sem] theorem c31s27eq : U c31s27 (.cond S8 c31s11 c31s26) := fun _ _ _ _ _ => rfl
def c31s28 : SCode := (.seq (.ops c31r9) c31s27)
@[go_sem] theorem c31s28eq : U c31s28 (.seq (.ops c31r9) c31s27) := fun _ _ _ _ _ => rfl
def c31s29 : SCode := (.cond S7 (.seq (.de c31d8) .ret) c31s28)
@[go_sem] theorem c31s29eq : U c31s29 (.cond S7 (.seq (.de c31d8) .ret) c31s28) := fun _ _ _ _ _ => rfl
def c31s30 : SCode := (.seq (.ops c31r7) c31s29)
@[go_sem] theorem c31s30eq : U c31s30 (.seq (.ops c31r7) c31s29) := fun _ _ _ _ _ => rfl
def c31s31 : SCode := (.cond S6 (.seq (.de c31d6) .ret) c31s30)
@[go_sem] theorem c31s31eq : U c31s31 (.cond S6 (.seq (.de c31d6) .ret) c31s30) := fun _ _ _ _ _ => rfl
def c31s32 : SCode := (.block 0 (.seq (.ops c31r5) c31s31))
@[go_sem] theorem c31s32eq : U c31s32 (.block 0 (.seq (.ops c31r5) c31s31)) := fun _ _ _ _ _ => rfl
@[go_sem] def c31r33 : List GOp := [mS 2 (.c (.string ⟨⟨[]⟩⟩)), mS 3 (.c (.bool false))]
def c31s34 : SCode := (.seq (.ops c31r33) .ret)
@[go_sem] theorem c31s34eq : U c31s34 (.seq (.ops c31r33) .ret) := fun _ _ _ _ _ => rfl
def c31s35 : SCode := (.seq (.seq (.ops c31r4) c31s32) c31s34)
@[go_sem] theorem c31s35eq : U c31s35 (.seq (.seq (.ops c31r4) c31s32) c31s34) := fun _ _ _ _ _ => rfl
def c31s36 : SCode := (.seq (.seq (.ops c31r1) (.cond S4 c31s3 .skip)) c31s35)
@[go_sem] theorem c31s36eq : U c31s36 (.seq (.seq (.ops c31r1) (.cond S4 c31s3 .skip)) c31s35) := fun _ _ _ _ _ => rfl
def c31 : Gx.Fn := ⟨73, c31k, (.seq (.ops c31r0) c31s36), [(.tmp S2), (.tmp S3)]⟩
theorem c31ok : stripFn Tryd.prog c31k Tryd.f31 = some c31 := by kernel_rfl

/- (*lexer.scanner).skip -/
@[go_sem] def c40k : List Nat := [0, 25]
@[go_sem] def c40r0 : List GOp := [mT S0, oT (.call 58 [T0, (.f 59)])]
@[go_sem] def c40r1 : List GOp := [mT S0, oT (.v (.nc T0)), fT 1 T0, lT T0, mT S0, oT (.v (.nc T0)), fT 0 T0, lT T0, oT (.v (.slen T0)), oT (.v (.bin .geq T5 T0)), mT T0, (.op (some (T0, (false, true))) .t (.v (.mv S0))), (.op (some (T1, (false, false))) .t (.v (.nc T0))), (.op (some (T2, (false, false))) .t (.v (.fa 0 T0))), (.op (some (T3, (false, false))) .t (.ld none T0)), (.op (some (T4, (false, false))) .t (.v (.mv S0))), (.op (some (T5, (false, false))) .t (.v (.nc T0))), (.op (some (T6, (false, false))) .t (.v (.fa 1 T0))), (.op (some (T7, (false, false))) .t (.ld none T0)), (.op (some (T8, (false, false))) .t (.v (.six T4 T0))), (.op (some (T9, (false, false))) .t (.v (.bin .neq T0 (.c (.int .u8 35))))), oS 1 (.v (.pick T10 (.c (.bool true)) T0))]
@[go_sem] def c40r2 : List GOp := [mT S0, oT (.call 58 [T0, (.f 60)])]
def c40s3 : SCode := (.ops c40r2)
@[go_sem] theorem c40s3eq : U c40s3 (.ops c40r2) := fun _ _ _ _ _ => rfl
def c40s4 : SCode := (.seq (.seq (.dq c40r1) (.cond S1 .ret .skip)) c40s3)
@[go_sem] theorem c40s4eq : U c40s4 (.seq (.seq (.dq c40r1) (.cond S1 .ret .skip)) c40s3) := fun _ _ _ _ _ => rfl
def c40s5 : SCode := (.block 1 (.seq (.ops c40r0) c40s4))
@[go_sem] theorem c40s5eq : U c40s5 (.block 1 (.seq (.ops c40r0) c40s4)) := fun _ _ _ _ _ => rfl
def c40 : Gx.Fn := ⟨28, c40k, (.block 0 (.loop c40k c40s5)), []⟩
theorem c40ok : stripFn Tryd.prog c40k Tryd.f40 = some c40 := by kernel_rfl

/- (*lexer.scanner).token -/
@[go_sem] def c41k : List Nat := [0, 2, 3, 4, 5, 6, 7, 8, 9, 24, 64, 85, 95, 105, 109, 111, 123, 135, 140, 174, 186]
@[go_sem] def c41r0 : List GOp := [oS 1 (.al 39 [(I 0), (.string ⟨⟨[]⟩⟩), (I 0), (I 0)]), mS 2 (C 0)]
@[go_sem] def c41r1 : List GOp := [mT S0, oT (.v (.nc T0)), fT 1 T0, lT T0, oT (.v (.bld [(I 0), (.string ⟨⟨[]⟩⟩), (I 0), (I 0)] [(3, (1, T0))])), oS 3 (.al 39 [(I 0), (.string ⟨⟨[]⟩⟩), (I 0), (I 0)]), oN (.st 4 S3 T0)]
@[go_sem] def c41r2 : List GOp := [mT S0, oT (.v (.nc T0)), fT 1 T0, lT T0, mT S0, oT (.v (.nc T0)), fT 0 T0, lT T0, oT (.v (.slen T0)), oS 9 (.v (.bin .eql T5 T0))]
@[go_sem] def c41r3 : List GOp := [fT 0 S3, oN (.st 1 T0 (C 6))]
@[go_sem] def c41r4 : List GOp := [oT (.ld (some 4) S3), oN (.st 4 S1 T0), mS 2 (C 0)]
def c41s5 : SCode := (.seq (.ops c41r4) .ret)
@[go_sem] theorem c41s5eq : U c41s5 (.seq (.ops c41r4) .ret) := fun _ _ _ _ _ => rfl
def c41s6 : SCode := (.seq (.ops c41r3) c41s5)
@[go_sem] theorem c41s6eq : U c41s6 (.seq (.ops c41r3) c41s5) := fun _ _ _ _ _ => rfl
@[go_sem] def c41r7 : List GOp := [mT S0, oT (.v (.nc T0)), fT 0 T0, lT T0, mT S0, oT (.v (.nc T0)), fT 1 T0, lT T0, oT (.v (.six T4 T0)), mS 4 T0]
@[go_sem] def c41r8 : List GOp := [mT S4, oT (.call 61 [T0]), mS 12 T0]
@[go_sem] def c41r9 : List GOp := [mT S0, oT (.call 58 [T0, (.f 62)]), fT 1 S3, oN (.st 1 T0 T1)]
@[go_sem] def c41r10 : List GOp := [fT 0 S3, oN (.st 1 T0 (C 1))]
@[go_sem] def c41r11 : List GOp := [fT 1 S3, lT T0, oT (.v (.slen T0)), oS 13 (.v (.bin .gtr T0 (C 16)))]
@[go_sem] def c41r12 : List GOp := [oT (.ld (some 4) S3), oN (.st 4 S1 T0), mS 2 (C 3)]
def c41s13 : SCode := (.seq (.ops c41r12) .ret)
@[go_sem] theorem c41s13eq : U c41s13 (.seq (.ops c41r12) .ret) := fun _ _ _ _ _ => rfl
def c41s14 : SCode := (.cond S13 c41s13 .skip)
@[go_sem] theorem c41s14eq : U c41s14 (.cond S13 c41s13 .skip) := fun _ _ _ _ _ => rfl
@[go_sem] def c41r15 : List GOp := [fT 1 S3, lT T0, oS 14 (.call 50 [T0])]
@[go_sem] def c41r16 : List GOp := [fT 0 S3, oN (.st 1 T0 (C 2))]
def c41s17 : SCode := (.cond S14 (.ops c41r16) .skip)
@[go_sem] theorem c41s17eq : U c41s17 (.cond S14 (.ops c41r16) .skip) := fun _ _ _ _ _ => rfl
def c41s18 : SCode := (.seq (.ops c41r15) c41s17)
@[go_sem] theorem c41s18eq : U c41s18 (.seq (.ops c41r15) c41s17) := fun _ _ _ _ _ => rfl
def c41s19 : SCode := (.seq (.seq (.ops c41r11) c41s14) c41s18)
@[go_sem] theorem c41s19eq : U c41s19 (.seq (.seq (.ops c41r11) c41s14) c41s18) := fun _ _ _ _ _ => rfl
def c41s20 : SCode := (.seq (.ops c41r10) c41s19)
@[go_sem] theorem c41s20eq : U c41s20 (.seq (.ops c41r10) c41s19) := fun _ _ _ _ _ => rfl
def c41s21 : SCode := (.seq (.ops c41r9) c41s20)
@[go_sem] theorem c41s21eq : U c41s21 (.seq (.ops c41r9) c41s20) := fun _ _ _ _ _ => rfl
@[go_sem] def c41r22 : List GOp := [mT S4, oT (.call 63 [T0]), mS 15 T0]
@[go_sem] def c41r23 : List GOp := [mT S0, oT (.call 58 [T0, (.f 63)]), mS 5 T0]
@[go_sem] def c41r24 : List GOp := [mT S5, oT (.v (.slen T0)), oT (.v (.bin .gtr T0 (C 1))), mT T0, (.op (some (T0, (true, true))) .t (.v (.mv S5))), (.op (some (T1, (true, false))) .t (.v (.six T0 (C 0)))), (.op (some (T2, (true, false))) .t (.v (.bin .eql T0 (.c (.int .u8 48))))), oS 16 (.v (.pick T3 T0 (.c (.bool false))))]
@[go_sem] def c41r25 : List GOp := [oT (.ld (some 4) S3), oN (.st 4 S1 T0), mS 2 (C 2)]
def c41s26 : SCode := (.seq (.ops c41r25) .ret)
@[go_sem] theorem c41s26eq : U c41s26 (.seq (.ops c41r25) .ret) := fun _ _ _ _ _ => rfl
def c41s27 : SCode := (.cond S16 c41s26 .skip)
@[go_sem] theorem c41s27eq : U c41s27 (.cond S16 c41s26 .skip) := fun _ _ _ _ _ => rfl
@[go_sem] def c41r28 : List GOp := [mT S5, oT (.call 64 [T0, (C 10), (C 64)]), mT T0, oT (.v (.ext T0 0)), oT (.v (.ext T1 1)), mS 6 T1, mS 7 T0]
@[go_sem] def c41r29 : List GOp := [mT S7, oT (.v (.isnilf true T0)), mT T0, (.sel T0 false [(.op (.v (.mv S6))), (.op (.v (.bin .gtr T0 (C 1000000000000000))))] (.s 17) (.c (.bool true)) T0)]
@[go_sem] def c41r30 : List GOp := [oT (.ld (some 4) S3), oN (.st 4 S1 T0), mS 2 (C 5)]
def c41s31 : SCode := (.seq (.ops c41r30) .ret)
@[go_sem] theorem c41s31eq : U c41s31 (.seq (.ops c41r30) .ret) := fun _ _ _ _ _ => rfl
def c41s32 : SCode := (.cond S17 c41s31 .skip)
@[go_sem] theorem c41s32eq : U c41s32 (.cond S17 c41s31 .skip) := fun _ _ _ _ _ => rfl
@[go_sem] def c41r33 : List GOp := [mT S6, fT 0 S3, oN (.st 1 T0 (C 3)), fT 2 S3, oN (.st 1 T0 T2)]
def c41s34 : SCode := (.ops c41r33)
@[go_sem] theorem c41s34eq : U c41s34 (.ops c41r33) := fun _ _ _ _ _ => rfl
def c41s35 : SCode := (.seq (.seq (.ops c41r29) c41s32) c41s34)
@[go_sem] theorem c41s35eq : U c41s35 (.seq (.seq (.ops c41r29) c41s32) c41s34) := fun _ _ _ _ _ => rfl
def c41s36 : SCode := (.seq (.ops c41r28) c41s35)
@[go_sem] theorem c41s36eq : U c41s36 (.seq (.ops c41r28) c41s35) := fun _ _ _ _ _ => rfl
def c41s37 : SCode := (.seq (.seq (.ops c41r24) c41s27) c41s36)
@[go_sem] theorem c41s37eq : U c41s37 (.seq (.seq (.ops c41r24) c41s27) c41s36) := fun _ _ _ _ _ => rfl
def c41s38 : SCode := (.seq (.ops c41r23) c41s37)
@[go_sem] theorem c41s38eq : U c41s38 (.seq (.ops c41r23) c41s37) := fun _ _ _ _ _ => rfl
@[go_sem] def c41r39 : List GOp := [mT S4, oT (.v (.bin .eql T0 (.c (.int .u8 39)))), mS 18 T0]
@[go_sem] def c41r40 : List GOp := [mT S0, oT (.v (.nc T0)), fT 1 T0, lT T0, oT (.v (.bin .add T0 (C 1))), oT (.v (.nc T4)), fT 1 T0, oN (.st 1 T0 T2)]
@[go_sem] def c41r41 : List GOp := [mT S0, oT (.call 58 [T0, (.f 62)]), fT 1 S3, oN (.st 1 T0 T1)]
@[go_sem] def c41r42 : List GOp := [mT S0, oT (.v (.nc T0)), fT 1 T0, lT T0, mT S0, oT (.v (.nc T0)), fT 0 T0, lT T0, oT (.v (.slen T0)), oT (.v (.bin .eql T5 T0)), mT T0, (.op (some (T0, (false, true))) .t (.v (.mv S0))), (.op (some (T1, (false, false))) .t (.v (.nc T0))), (.op (some (T2, (false, false))) .t (.v (.fa 0 T0))), (.op (some (T3, (false, false))) .t (.ld none T0)), (.op (some (T4, (false, false))) .t (.v (.mv S0))), (.op (some (T5, (false, false))) .t (.v (.nc T0))), (.op (some (T6, (false, false))) .t (.v (.fa 1 T0))), (.op (some (T7, (false, false))) .t (.ld none T0)), (.op (some (T8, (false, false))) .t (.v (.six T4 T0))), (.op (some (T9, (false, false))) .t (.v (.bin .neq T0 (.c (.int .u8 39))))), oS 19 (.v (.pick T10 (.c (.bool true)) T0))]
@[go_sem] def c41r43 : List GOp := [oT (.ld (some 4) S3), oN (.st 4 S1 T0), mS 2 (C 2)]
def c41s44 : SCode := (.seq (.ops c41r43) .ret)
@[go_sem] theorem c41s44eq : U c41s44 (.seq (.ops c41r43) .ret) := fun _ _ _ _ _ => rfl
def c41s45 : SCode := (.cond S19 c41s44 .skip)
@[go_sem] theorem c41s45eq : U c41s45 (.cond S19 c41s44 .skip) := fun _ _ _ _ _ => rfl
@[go_sem] def c41r46 : List GOp := [mT S0, oT (.v (.nc T0)), fT 1 T0, lT T0, oT (.v (.bin .add T0 (C 1))), oT (.v (.nc T4)), fT 1 T0, oN (.st 1 T0 T2)]
@[go_sem] def c41r47 : List GOp := [fT 1 S3, lT T0, oT (.call 49 [T0]), oS 20 (.v (.un .not T0))]
@[go_sem] def c41r48 : List GOp := [oT (.ld (some 4) S3), oN (.st 4 S1 T0), mS 2 (C 3)]
def c41s49 : SCode := (.seq (.ops c41r48) .ret)
@[go_sem] theorem c41s49eq : U c41s49 (.seq (.ops c41r48) .ret) := fun _ _ _ _ _ => rfl
def c41s50 : SCode := (.cond S20 c41s49 .skip)
@[go_sem] theorem c41s50eq : U c41s50 (.cond S20 c41s49 .skip) := fun _ _ _ _ _ => rfl
@[go_sem] def c41r51 : List GOp := [fT 0 S3, oN (.st 1 T0 (C 4))]
def c41s52 : SCode := (.ops c41r51)
@[go_sem] theorem c41s52eq : U c41s52 (.ops c41r51) := fun _ _ _ _ _ => rfl
def c41s53 : SCode := (.seq (.seq (.ops c41r47) c41s50) c41s52)
@[go_sem] theorem c41s53eq : U c41s53 (.seq (.seq (.ops c41r47) c41s50) c41s52) := fun _ _ _ _ _ => rfl
def c41s54 : SCode := (.seq (.ops c41r46) c41s53)
@[go_sem] theorem c41s54eq : U c41s54 (.seq (.ops c41r46) c41s53) := fun _ _ _ _ _ => rfl
def c41s55 : SCode := (.seq (.seq (.dq c41r42) c41s45) c41s54)
@[go_sem] theorem c41s55eq : U c41s55 (.seq (.seq (.dq c41r42) c41s45) c41s54) := fun _ _ _ _ _ => rfl
def c41s56 : SCode := (.seq (.ops c41r41) c41s55)
@[go_sem] theorem c41s56eq : U c41s56 (.seq (.ops c41r41) c41s55) := fun _ _ _ _ _ => rfl
def c41s57 : SCode := (.seq (.ops c41r40) c41s56)
@[go_sem] theorem c41s57eq : U c41s57 (.seq (.ops c41r40) c41s56) := fun _ _ _ _ _ => rfl
@[go_sem] def c41r58 : List GOp := [mS 8 (C 2)]
@[go_sem] def c41d59 : DT := (rm S0 [26] (.rd none .t (.v (.nc T0)) [26] (rf 1 T0 [26] (rl T0 [26] (.rd none .t (.v (.bin .add T0 (C 2))) [26] (rm S0 [26] (.rd none .t (.v (.nc T0)) [26] (rf 0 T0 [26] (rl T0 [26] (.rd none .t (.v (.slen T0)) [26] (.rd none .t (.v (.bin .gtr T5 T0)) [26] (rm T0 [26] (.rd (some (T0, false)) .t (.v (.mv S0)) [26] (.rd (some (T1, false)) .t (.v (.nc T0)) [26] (.rd (some (T2, false)) .t (.v (.fa 0 T0)) [26] (.rd (some (T3, false)) .t (.ld none T0) [26] (.rd (some (T4, false)) .t (.v (.mv S0)) [26] (.rd (some (T5, false)) .t (.v (.nc T0)) [26] (.rd (some (T6, false)) .t (.v (.fa 1 T0)) [26] (.rd (some (T7, false)) .t (.ld none T0) [26] (.rd (some (T8, false)) .t (.v (.mv S0)) [26] (.rd (some (T9, false)) .t (.v (.nc T0)) [26] (.rd (some (T10, false)) .t (.v (.fa 1 T0)) [26] (.rd (some (T11, false)) .t (.ld none T0) [26] (.rd (some (T12, false)) .t (.v (.bin .add T0 (C 2))) [26] (.rd (some (T13, false)) .t (.v (.ssl T9 (some T5) (some T0))) [26] (.ef 26 (some (T14, false)) .t (.call 52 [T0]) (.rd (some (T15, false)) .t (.v (.un .not T0)) [] (.rd none (.s 10) (.v (.pick T16 (.c (.bool true)) T0)) [] .done)))))))))))))))))))))))))))))
@[go_sem] def c41r60 : List GOp := [mS 8 (C 1)]
def c41s61 : SCode := (.cond S10 (.ops c41r60) .skip)
@[go_sem] theorem c41s61eq : U c41s61 (.cond S10 (.ops c41r60) .skip) := fun _ _ _ _ _ => rfl
@[go_sem] def c41d62 : DT := (rm S0 [18] (.rd none .t (.v (.nc T0)) [18] (rf 0 T0 [18] (rl T0 [18] (rm S0 [18] (.rd none .t (.v (.nc T0)) [18] (rf 1 T0 [18] (rl T0 [18] (rm S0 [18] (.rd none .t (.v (.nc T0)) [18] (rf 1 T0 [18] (rl T0 [18] (rm S8 [18] (.rd none .t (.v (.bin .add T1 T0)) [18] (.rd none .t (.v (.ssl T10 (some T6) (some T0))) [18] (rf 0 S3 [16, 18] (.ef 16 none .no (.st 1 T0 (C 5)) (rf 1 S3 [18] (.ef 18 none .no (.st 1 T0 T2) .done)))))))))))))))))))
@[go_sem] def c41r63 : List GOp := [fT 1 S3, lT T0, oT (.call 52 [T0]), oS 11 (.v (.un .not T0))]
@[go_sem] def c41r64 : List GOp := [oT (.ld (some 4) S3), oN (.st 4 S1 T0), mS 2 (C 2)]
def c41s65 : SCode := (.seq (.ops c41r64) .ret)
@[go_sem] theorem c41s65eq : U c41s65 (.seq (.ops c41r64) .ret) := fun _ _ _ _ _ => rfl
def c41s66 : SCode := (.cond S11 c41s65 .skip)
@[go_sem] theorem c41s66eq : U c41s66 (.cond S11 c41s65 .skip) := fun _ _ _ _ _ => rfl
@[go_sem] def c41r67 : List GOp := [mT S0, oT (.v (.nc T0)), fT 1 T0, lT T0, mT S8, oT (.v (.bin .add T1 T0)), oT (.v (.nc T5)), fT 1 T0, oN (.st 1 T0 T2)]
def c41s68 : SCode := (.ops c41r67)
@[go_sem] theorem c41s68eq : U c41s68 (.ops c41r67) := fun _ _ _ _ _ => rfl
def c41s69 : SCode := (.seq (.seq (.ops c41r63) c41s66) c41s68)
@[go_sem] theorem c41s69eq : U c41s69 (.seq (.seq (.ops c41r63) c41s66) c41s68) := fun _ _ _ _ _ => rfl
def c41s70 : SCode := (.seq (.de c41d62) c41s69)
@[go_sem] theorem c41s70eq : U c41s70 (.seq (.de c41d62) c41s69) := fun _ _ _ _ _ => rfl
def c41s71 : SCode := (.seq (.seq (.de c41d59) c41s61) c41s70)
@[go_sem] theorem c41s71eq : U c41s71 (.seq (.seq (.de c41d59) c41s61) c41s70) := fun _ _ _ _ _ => rfl
def c41s72 : SCode := (.seq (.ops c41r58) c41s71)
@[go_sem] theorem c41s72eq : U c41s72 (.seq (.ops c41r58) c41s71) := fun _ _ _ _ _ => rfl
def c41s73 : SCode := (.cond S18 c41s57 c41s72)
@[go_sem] theorem c41s73eq : U c41s73 (.cond S18 c41s57 c41s72) := fun _ _ _ _ _ => rfl
def c41s74 : SCode := (.seq (.ops c41r39) c41s73)
@[go_sem] theorem c41s74eq : U c41s74 (.seq (.ops c41r39) c41s73) := fun _ _ _ _ _ => rfl
def c41s75 : SCode := (.cond S15 c41s38 c41s74)
@[go_sem] theorem c41s75eq : U c41s75 (.cond S15 c41s38 c41s74) := fun _ _ _ _ _ => rfl
def c41s76 : SCode := (.seq (.ops c41r22) c41s75)
@[go_sem] theorem c41s76eq : U c41s76 (.seq (.ops c41r22) c41s75) := fun _ _ _ _ _ => rfl
def c41s77 : SCode := (.cond S12 c41s21 c41s76)
@[go_sem] theorem c41s77eq : U c41s77 (.cond S12 c41s21 c41s76) := fun _ _ _ _ _ => rfl
@[go_sem] def c41r78 : List GOp := [oT (.ld (some 4) S3), oN (.st 4 S1 T0), mS 2 (C 0)]
def c41s79 : SCode := (.seq (.ops c41r78) .ret)
@[go_sem] theorem c41s79eq : U c41s79 (.seq (.ops c41r78) .ret) := fun _ _ _ _ _ => rfl
def c41s80 : SCode := (.seq (.block 0 (.seq (.ops c41r8) c41s77)) c41s79)
@[go_sem] theorem c41s80eq : U c41s80 (.seq (.block 0 (.seq (.ops c41r8) c41s77)) c41s79) := fun _ _ _ _ _ => rfl
def c41s81 : SCode := (.seq (.dq c41r7) c41s80)
@[go_sem] theorem c41s81eq : U c41s81 (.seq (.dq c41r7) c41s80) := fun _ _ _ _ _ => rfl
def c41s82 : SCode := (.seq (.seq (.dq c41r2) (.cond S9 c41s6 .skip)) c41s81)
@[go_sem] theorem c41s82eq : U c41s82 (.seq (.seq (.dq c41r2) (.cond S9 c41s6 .skip)) c41s81) := fun _ _ _ _ _ => rfl
def c41s83 : SCode := (.seq (.ops c41r1) c41s82)
@[go_sem] theorem c41s83eq : U c41s83 (.seq (.ops c41r1) c41s82) := fun _ _ _ _ _ => rfl
def c41 : Gx.Fn := ⟨190, c41k, (.seq (.ops c41r0) c41s83), [(.cell S1 (some 4)), (.tmp S2)]⟩
theorem c41ok : stripFn Tryd.prog c41k Tryd.f41 = some c41 := by kernel_rfl

/- names.Valid -/
@[go_sem] def c49k : List Nat := [0, 2, 3, 21, 23, 24, 25, 31]
@[go_sem] def c49r0 : List GOp := [mS 1 (.c (.bool false))]
@[go_sem] def c49r1 : List GOp := [mT S0, oT (.v (.slen T0)), oT (.v (.bin .eql T0 (C 0))), mT T0, (.sel T0 false [(.op (.v (.mv S0))), (.op (.v (.slen T0))), (.op (.v (.bin .gtr T0 (C 16))))] .t (.c (.bool true)) T0), mT T0, (.op (some (T0, (false, true))) .t (.v (.mv S0))), (.op (some (T1, (false, false))) .t (.v (.six T0 (C 0)))), (.op (some (T2, (false, false))) .t (.v (.bin .lss T0 (.c (.int .u8 97))))), oT (.v (.pick T3 (.c (.bool true)) T0)), mT T0, (.op (some (T0, (false, true))) .t (.v (.mv S0))), (.op (some (T1, (false, false))) .t (.v (.six T0 (C 0)))), (.op (some (T2, (false, false))) .t (.v (.bin .gtr T0 (.c (.int .u8 122))))), oS 3 (.v (.pick T3 (.c (.bool true)) T0))]
@[go_sem] def c49r2 : List GOp := [mS 1 (.c (.bool false))]
def c49s3 : SCode := (.seq (.ops c49r2) .ret)
@[go_sem] theorem c49s3eq : U c49s3 (.seq (.ops c49r2) .ret) := fun _ _ _ _ _ => rfl
@[go_sem] def c49r4 : List GOp := [mT S0, oS 4 (.v (.slen T0)), mS 5 (C 0)]
@[go_sem] def c49r5 : List GOp := [oS 6 (.v (.bin .lss S5 S4))]
@[go_sem] def c49r6 : List GOp := [mT S5, mS 2 T0]
@[go_sem] def c49r7 : List GOp := [mT S0, mT S2, oT (.v (.six T1 T0)), oT (.call 69 [T0]), oS 7 (.v (.un .not T0))]
@[go_sem] def c49r8 : List GOp := [mS 1 (.c (.bool false))]
def c49s9 : SCode := (.seq (.ops c49r8) .ret)
@[go_sem] theorem c49s9eq : U c49s9 (.seq (.ops c49r8) .ret) := fun _ _ _ _ _ => rfl
def c49s10 : SCode := (.seq (.ops c49r7) (.cond S7 c49s9 .skip))
@[go_sem] theorem c49s10eq : U c49s10 (.seq (.ops c49r7) (.cond S7 c49s9 .skip)) := fun _ _ _ _ _ => rfl
@[go_sem] def c49r11 : List GOp := [oT (.v (.bin .add S5 (C 1))), mS 5 T0]
def c49s12 : SCode := (.ops c49r11)
@[go_sem] theorem c49s12eq : U c49s12 (.ops c49r11) := fun _ _ _ _ _ => rfl
def c49s13 : SCode := (.seq (.block 1 (.seq (.ops c49r6) c49s10)) c49s12)
@[go_sem] theorem c49s13eq : U c49s13 (.seq (.block 1 (.seq (.ops c49r6) c49s10)) c49s12) := fun _ _ _ _ _ => rfl
def c49s14 : SCode := (.seq (.cond S6 .skip (.exit 0)) c49s13)
@[go_sem] theorem c49s14eq : U c49s14 (.seq (.cond S6 .skip (.exit 0)) c49s13) := fun _ _ _ _ _ => rfl
def c49s15 : SCode := (.seq (.ops c49r5) c49s14)
@[go_sem] theorem c49s15eq : U c49s15 (.seq (.ops c49r5) c49s14) := fun _ _ _ _ _ => rfl
def c49s16 : SCode := (.block 0 (.loop c49k c49s15))
@[go_sem] theorem c49s16eq : U c49s16 (.block 0 (.loop c49k c49s15)) := fun _ _ _ _ _ => rfl
@[go_sem] def c49r17 : List GOp := [mS 1 (.c (.bool true))]
def c49s18 : SCode := (.seq (.ops c49r17) .ret)
@[go_sem] theorem c49s18eq : U c49s18 (.seq (.ops c49r17) .ret) := fun _ _ _ _ _ => rfl
def c49s19 : SCode := (.seq (.seq (.ops c49r4) c49s16) c49s18)
@[go_sem] theorem c49s19eq : U c49s19 (.seq (.seq (.ops c49r4) c49s16) c49s18) := fun _ _ _ _ _ => rfl
def c49s20 : SCode := (.seq (.seq (.ops c49r1) (.cond S3 c49s3 .skip)) c49s19)
@[go_sem] theorem c49s20eq : U c49s20 (.seq (.seq (.ops c49r1) (.cond S3 c49s3 .skip)) c49s19) := fun _ _ _ _ _ => rfl
def c49 : Gx.Fn := ⟨33, c49k, (.seq (.ops c49r0) c49s20), [(.tmp S1)]⟩
theorem c49ok : stripFn Tryd.prog c49k Tryd.f49 = some c49 := by kernel_rfl

/- lexer.Keyword -/
@[go_sem] def c50k : List Nat := [0, 2, 3]
@[go_sem] def c50r0 : List GOp := [mS 1 (.c (.bool false))]
@[go_sem] def c50r1 : List GOp := [oT (.bs 9 44 [(.string ⟨⟨[]⟩⟩), (.string ⟨⟨[]⟩⟩), (.string ⟨⟨[]⟩⟩), (.string ⟨⟨[]⟩⟩), (.string ⟨⟨[]⟩⟩), (.string ⟨⟨[]⟩⟩), (.string ⟨⟨[]⟩⟩), (.string ⟨⟨[]⟩⟩), (.string ⟨⟨[]⟩⟩), (.string ⟨⟨[]⟩⟩), (.string ⟨⟨[]⟩⟩), (.string ⟨⟨[]⟩⟩), (.string ⟨⟨[]⟩⟩), (.string ⟨⟨[]⟩⟩), (.string ⟨⟨[]⟩⟩), (.string ⟨⟨[]⟩⟩), (.string ⟨⟨[]⟩⟩), (.string ⟨⟨[]⟩⟩), (.string ⟨⟨[]⟩⟩), (.string ⟨⟨[]⟩⟩), (.string ⟨⟨[]⟩⟩), (.string ⟨⟨[]⟩⟩), (.string ⟨⟨[]⟩⟩), (.string ⟨⟨[]⟩⟩), (.string ⟨⟨[]⟩⟩), (.string ⟨⟨[]⟩⟩), (.string ⟨⟨[]⟩⟩), (.string ⟨⟨[]⟩⟩), (.string ⟨⟨[]⟩⟩), (.string ⟨⟨[]⟩⟩), (.string ⟨⟨[]⟩⟩), (.string ⟨⟨[]⟩⟩), (.string ⟨⟨[]⟩⟩), (.string ⟨⟨[]⟩⟩), (.string ⟨⟨[]⟩⟩), (.string ⟨⟨[]⟩⟩), (.string ⟨⟨[]⟩⟩), (.string ⟨⟨[]⟩⟩), (.string ⟨⟨[]⟩⟩), (.string ⟨⟨[]⟩⟩), (.string ⟨⟨[]⟩⟩), (.string ⟨⟨[]⟩⟩), (.string ⟨⟨[]⟩⟩), (.string ⟨⟨[]⟩⟩)] [(0, (1, (.c (.string ⟨⟨[97, 110, 100]⟩⟩)))), (1, (1, (.c (.string ⟨⟨[98, 111, 111, 108]⟩⟩)))), (2, (1, (.c (.string ⟨⟨[98, 111, 116, 116, 111, 109]⟩⟩)))), (3, (1, (.c (.string ⟨⟨[99, 108, 111, 115, 101, 100]⟩⟩)))), (4, (1, (.c (.string ⟨⟨[99, 111, 110, 102, 108, 105, 99, 116]⟩⟩)))), (5, (1, (.c (.string ⟨⟨[101, 108, 115, 101]⟩⟩)))), (6, (1, (.c (.string ⟨⟨[102, 97, 108, 115, 101]⟩⟩)))), (7, (1, (.c (.string ⟨⟨[102, 105, 114, 115, 116]⟩⟩)))), (8, (1, (.c (.string ⟨⟨[102, 108, 97, 103]⟩⟩)))), (9, (1, (.c (.string ⟨⟨[102, 108, 97, 116]⟩⟩)))), (10, (1, (.c (.string ⟨⟨[105, 102]⟩⟩)))), (11, (1, (.c (.string ⟨⟨[105, 110]⟩⟩)))), (12, (1, (.c (.string ⟨⟨[105, 110, 116]⟩⟩)))), (13, (1, (.c (.string ⟨⟨[106, 111, 105, 110]⟩⟩)))), (14, (1, (.c (.string ⟨⟨[107, 101, 121, 115]⟩⟩)))), (15, (1, (.c (.string ⟨⟨[108, 97, 116, 116, 105, 99, 101]⟩⟩)))), (16, (1, (.c (.string ⟨⟨[108, 101, 113]⟩⟩)))), (17, (1, (.c (.string ⟨⟨[108, 101, 120]⟩⟩)))), (18, (1, (.c (.string ⟨⟨[109, 97, 112]⟩⟩)))), (19, (1, (.c (.string ⟨⟨[109, 97, 120]⟩⟩)))), (20, (1, (.c (.string ⟨⟨[109, 105, 110]⟩⟩)))), (21, (1, (.c (.string ⟨⟨[110, 97, 109, 101]⟩⟩)))), (22, (1, (.c (.string ⟨⟨[110, 97, 109, 101, 115]⟩⟩)))), (23, (1, (.c (.string ⟨⟨[110, 111, 116]⟩⟩)))), (24, (1, (.c (.string ⟨⟨[110, 117, 109]⟩⟩)))), (25, (1, (.c (.string ⟨⟨[110, 117, 109, 98, 101, 114]⟩⟩)))), (26, (1, (.c (.string ⟨⟨[111, 98, 106, 101, 99, 116]⟩⟩)))), (27, (1, (.c (.string ⟨⟨[111, 110]⟩⟩)))), (28, (1, (.c (.string ⟨⟨[111, 110, 101]⟩⟩)))), (29, (1, (.c (.string ⟨⟨[111, 114]⟩⟩)))), (30, (1, (.c (.string ⟨⟨[112, 97, 105, 114]⟩⟩)))), (31, (1, (.c (.string ⟨⟨[113, 117, 101, 114, 121]⟩⟩)))), (32, (1, (.c (.string ⟨⟨[114, 101, 99]⟩⟩)))), (33, (1, (.c (.string ⟨⟨[114, 101, 103, 105, 115, 116, 101, 114]⟩⟩)))), (34, (1, (.c (.string ⟨⟨[115]⟩⟩)))), (35, (1, (.c (.string ⟨⟨[115, 101, 99, 111, 110, 100]⟩⟩)))), (36, (1, (.c (.string ⟨⟨[115, 101, 116]⟩⟩)))), (37, (1, (.c (.string ⟨⟨[115, 105, 122, 101]⟩⟩)))), (38, (1, (.c (.string ⟨⟨[115, 117, 109]⟩⟩)))), (39, (1, (.c (.string ⟨⟨[116, 104, 101, 110]⟩⟩)))), (40, (1, (.c (.string ⟨⟨[116, 114, 117, 101]⟩⟩)))), (41, (1, (.c (.string ⟨⟨[117, 112, 100, 97, 116, 101]⟩⟩)))), (42, (1, (.c (.string ⟨⟨[118, 97, 108, 117, 101, 115]⟩⟩)))), (43, (1, (.c (.string ⟨⟨[119, 114, 105, 116, 101]⟩⟩))))]), mS 2 T0]
@[go_sem] def c50r2 : List GOp := [mT S2, mT S0, oT (.call 70 [T1, T0]), mS 1 T0]
def c50s3 : SCode := (.seq (.ops c50r2) .ret)
@[go_sem] theorem c50s3eq : U c50s3 (.seq (.ops c50r2) .ret) := fun _ _ _ _ _ => rfl
def c50s4 : SCode := (.seq (.ops c50r1) c50s3)
@[go_sem] theorem c50s4eq : U c50s4 (.seq (.ops c50r1) c50s3) := fun _ _ _ _ _ => rfl
def c50 : Gx.Fn := ⟨8, c50k, (.seq (.ops c50r0) c50s4), [(.tmp S1)]⟩
theorem c50ok : stripFn Tryd.prog c50k Tryd.f50 = some c50 := by kernel_rfl

/- lexer.Sign -/
@[go_sem] def c52k : List Nat := [0, 2, 3]
@[go_sem] def c52r0 : List GOp := [mS 1 (.c (.bool false))]
@[go_sem] def c52r1 : List GOp := [oT (.bs 9 17 [(.string ⟨⟨[]⟩⟩), (.string ⟨⟨[]⟩⟩), (.string ⟨⟨[]⟩⟩), (.string ⟨⟨[]⟩⟩), (.string ⟨⟨[]⟩⟩), (.string ⟨⟨[]⟩⟩), (.string ⟨⟨[]⟩⟩), (.string ⟨⟨[]⟩⟩), (.string ⟨⟨[]⟩⟩), (.string ⟨⟨[]⟩⟩), (.string ⟨⟨[]⟩⟩), (.string ⟨⟨[]⟩⟩), (.string ⟨⟨[]⟩⟩), (.string ⟨⟨[]⟩⟩), (.string ⟨⟨[]⟩⟩), (.string ⟨⟨[]⟩⟩), (.string ⟨⟨[]⟩⟩)] [(0, (1, (.c (.string ⟨⟨[61]⟩⟩)))), (1, (1, (.c (.string ⟨⟨[58]⟩⟩)))), (2, (1, (.c (.string ⟨⟨[59]⟩⟩)))), (3, (1, (.c (.string ⟨⟨[44]⟩⟩)))), (4, (1, (.c (.string ⟨⟨[40]⟩⟩)))), (5, (1, (.c (.string ⟨⟨[41]⟩⟩)))), (6, (1, (.c (.string ⟨⟨[123]⟩⟩)))), (7, (1, (.c (.string ⟨⟨[125]⟩⟩)))), (8, (1, (.c (.string ⟨⟨[91]⟩⟩)))), (9, (1, (.c (.string ⟨⟨[93]⟩⟩)))), (10, (1, (.c (.string ⟨⟨[46]⟩⟩)))), (11, (1, (.c (.string ⟨⟨[43]⟩⟩)))), (12, (1, (.c (.string ⟨⟨[45]⟩⟩)))), (13, (1, (.c (.string ⟨⟨[60]⟩⟩)))), (14, (1, (.c (.string ⟨⟨[60, 61]⟩⟩)))), (15, (1, (.c (.string ⟨⟨[61, 61]⟩⟩)))), (16, (1, (.c (.string ⟨⟨[61, 62]⟩⟩))))]), mS 2 T0]
@[go_sem] def c52r2 : List GOp := [mT S2, mT S0, oT (.call 70 [T1, T0]), mS 1 T0]
def c52s3 : SCode := (.seq (.ops c52r2) .ret)
@[go_sem] theorem c52s3eq : U c52s3 (.seq (.ops c52r2) .ret) := fun _ _ _ _ _ => rfl
def c52s4 : SCode := (.seq (.ops c52r1) c52s3)
@[go_sem] theorem c52s4eq : U c52s4 (.seq (.ops c52r1) c52s3) := fun _ _ _ _ _ => rfl
def c52 : Gx.Fn := ⟨8, c52k, (.seq (.ops c52r0) c52s4), [(.tmp S1)]⟩
theorem c52ok : stripFn Tryd.prog c52k Tryd.f52 = some c52 := by kernel_rfl

/- (*lexer.scanner).run -/
@[go_sem] def c58k : List Nat := [0, 1, 4, 5, 32]
@[go_sem] def c58r0 : List GOp := [mS 2 (.c (.string ⟨⟨[]⟩⟩))]
@[go_sem] def c58r1 : List GOp := [mT S0, oT (.v (.nc T0)), fT 1 T0, lT T0, mS 3 T0]
@[go_sem] def c58d2 : DT := (rm S0 [21] (.rd none .t (.v (.nc T0)) [21] (rf 1 T0 [21] (rl T0 [21] (rm S0 [21] (.rd none .t (.v (.nc T0)) [21] (rf 0 T0 [21] (rl T0 [21] (.rd none .t (.v (.slen T0)) [21] (.rd none .t (.v (.bin .lss T5 T0)) [21] (rm T0 [21] (.rd (some (T0, true)) .t (.v (.mv S1)) [21] (.rd (some (T1, true)) .t (.v (.mv S0)) [21] (.rd (some (T2, true)) .t (.v (.nc T0)) [21] (.rd (some (T3, true)) .t (.v (.fa 0 T0)) [21] (.rd (some (T4, true)) .t (.ld none T0) [21] (.rd (some (T5, true)) .t (.v (.mv S0)) [21] (.rd (some (T6, true)) .t (.v (.nc T0)) [21] (.rd (some (T7, true)) .t (.v (.fa 1 T0)) [21] (.rd (some (T8, true)) .t (.ld none T0) [21] (.rd (some (T9, true)) .t (.v (.six T4 T0)) [21] (.ef 21 (some (T10, true)) .t (.cv T9 [T0]) (.rd none (.s 4) (.v (.pick T11 T0 (.c (.bool false)))) [] .done)))))))))))))))))))))))
def c58s3 : SCode := (.cond S4 .skip (.exit 0))
@[go_sem] theorem c58s3eq : U c58s3 (.cond S4 .skip (.exit 0)) := fun _ _ _ _ _ => rfl
@[go_sem] def c58r4 : List GOp := [mT S0, oT (.v (.nc T0)), fT 1 T0, lT T0, oT (.v (.bin .add T0 (C 1))), oT (.v (.nc T4)), fT 1 T0, oN (.st 1 T0 T2)]
def c58s5 : SCode := (.seq (.seq (.de c58d2) c58s3) (.block 1 (.ops c58r4)))
@[go_sem] theorem c58s5eq : U c58s5 (.seq (.seq (.de c58d2) c58s3) (.block 1 (.ops c58r4))) := fun _ _ _ _ _ => rfl
@[go_sem] def c58r6 : List GOp := [mT S0, oT (.v (.nc T0)), fT 0 T0, lT T0, mT S3, mT S0, oT (.v (.nc T0)), fT 1 T0, lT T0, oT (.v (.ssl T5 (some T4) (some T0))), mS 2 T0]
def c58s7 : SCode := (.seq (.block 0 (.loop c58k c58s5)) (.seq (.dq c58r6) .ret))
@[go_sem] theorem c58s7eq : U c58s7 (.seq (.block 0 (.loop c58k c58s5)) (.seq (.dq c58r6) .ret)) := fun _ _ _ _ _ => rfl
def c58s8 : SCode := (.seq (.ops c58r1) c58s7)
@[go_sem] theorem c58s8eq : U c58s8 (.seq (.ops c58r1) c58s7) := fun _ _ _ _ _ => rfl
def c58 : Gx.Fn := ⟨50, c58k, (.seq (.ops c58r0) c58s8), [(.tmp S2)]⟩
theorem c58ok : stripFn Tryd.prog c58k Tryd.f58 = some c58 := by kernel_rfl

/- (*lexer.scanner).skip$1 -/
@[go_sem] def c59k : List Nat := [0, 2]
@[go_sem] def c59r0 : List GOp := [mS 1 (.c (.bool false))]
@[go_sem] def c59r1 : List GOp := [mT S0, oT (.v (.bin .eql T0 (.c (.int .u8 32)))), mT T0, (.sel T0 false [(.op (.v (.mv S0))), (.op (.v (.bin .eql T0 (.c (.int .u8 9)))))] .t (.c (.bool true)) T0), mT T0, (.sel T0 false [(.op (.v (.mv S0))), (.op (.v (.bin .eql T0 (.c (.int .u8 10)))))] .t (.c (.bool true)) T0), mT T0, (.sel T0 false [(.op (.v (.mv S0))), (.op (.v (.bin .eql T0 (.c (.int .u8 13)))))] .t (.c (.bool true)) T0), mS 1 T0]
def c59s2 : SCode := (.seq (.ops c59r1) .ret)
@[go_sem] theorem c59s2eq : U c59s2 (.seq (.ops c59r1) .ret) := fun _ _ _ _ _ => rfl
def c59 : Gx.Fn := ⟨17, c59k, (.seq (.ops c59r0) c59s2), [(.tmp S1)]⟩
theorem c59ok : stripFn Tryd.prog c59k Tryd.f59 = some c59 := by kernel_rfl

/- (*lexer.scanner).skip$2 -/
@[go_sem] def c60k : List Nat := [0, 2]
@[go_sem] def c60r0 : List GOp := [mS 1 (.c (.bool false))]
@[go_sem] def c60r1 : List GOp := [mT S0, oT (.v (.bin .neq T0 (.c (.int .u8 10)))), mS 1 T0]
def c60s2 : SCode := (.seq (.ops c60r1) .ret)
@[go_sem] theorem c60s2eq : U c60s2 (.seq (.ops c60r1) .ret) := fun _ _ _ _ _ => rfl
def c60 : Gx.Fn := ⟨5, c60k, (.seq (.ops c60r0) c60s2), [(.tmp S1)]⟩
theorem c60ok : stripFn Tryd.prog c60k Tryd.f60 = some c60 := by kernel_rfl

/- lexer.letter -/
@[go_sem] def c61k : List Nat := [0, 2]
@[go_sem] def c61r0 : List GOp := [mS 1 (.c (.bool false))]
@[go_sem] def c61r1 : List GOp := [mT S0, oT (.v (.bin .geq T0 (.c (.int .u8 97)))), mT T0, (.sel T0 true [(.op (.v (.mv S0))), (.op (.v (.bin .leq T0 (.c (.int .u8 122)))))] .t T0 (.c (.bool false))), mS 1 T0]
def c61s2 : SCode := (.seq (.ops c61r1) .ret)
@[go_sem] theorem c61s2eq : U c61s2 (.seq (.ops c61r1) .ret) := fun _ _ _ _ _ => rfl
def c61 : Gx.Fn := ⟨9, c61k, (.seq (.ops c61r0) c61s2), [(.tmp S1)]⟩
theorem c61ok : stripFn Tryd.prog c61k Tryd.f61 = some c61 := by kernel_rfl

/- lexer.part -/
@[go_sem] def c62k : List Nat := [0, 2]
@[go_sem] def c62r0 : List GOp := [mS 1 (.c (.bool false))]
@[go_sem] def c62r1 : List GOp := [mT S0, oT (.call 61 [T0]), mT T0, (.op (some (T0, (false, true))) .t (.v (.mv S0))), (.op (some (T1, (false, false))) .t (.call 63 [T0])), oT (.v (.pick T2 (.c (.bool true)) T0)), mT T0, (.sel T0 false [(.op (.v (.mv S0))), (.op (.v (.bin .eql T0 (.c (.int .u8 45)))))] .t (.c (.bool true)) T0), mS 1 T0]
def c62s2 : SCode := (.seq (.ops c62r1) .ret)
@[go_sem] theorem c62s2eq : U c62s2 (.seq (.ops c62r1) .ret) := fun _ _ _ _ _ => rfl
def c62 : Gx.Fn := ⟨13, c62k, (.seq (.ops c62r0) c62s2), [(.tmp S1)]⟩
theorem c62ok : stripFn Tryd.prog c62k Tryd.f62 = some c62 := by kernel_rfl

/- lexer.digit -/
@[go_sem] def c63k : List Nat := [0, 2]
@[go_sem] def c63r0 : List GOp := [mS 1 (.c (.bool false))]
@[go_sem] def c63r1 : List GOp := [mT S0, oT (.v (.bin .geq T0 (.c (.int .u8 48)))), mT T0, (.sel T0 true [(.op (.v (.mv S0))), (.op (.v (.bin .leq T0 (.c (.int .u8 57)))))] .t T0 (.c (.bool false))), mS 1 T0]
def c63s2 : SCode := (.seq (.ops c63r1) .ret)
@[go_sem] theorem c63s2eq : U c63s2 (.seq (.ops c63r1) .ret) := fun _ _ _ _ _ => rfl
def c63 : Gx.Fn := ⟨9, c63k, (.seq (.ops c63r0) c63s2), [(.tmp S1)]⟩
theorem c63ok : stripFn Tryd.prog c63k Tryd.f63 = some c63 := by kernel_rfl

/- names.wordByte -/
@[go_sem] def c69k : List Nat := [0, 2]
@[go_sem] def c69r0 : List GOp := [mS 1 (.c (.bool false))]
@[go_sem] def c69r1 : List GOp := [mT S0, oT (.v (.bin .leq (.c (.int .u8 97)) T0)), mT T0, (.sel T0 true [(.op (.v (.mv S0))), (.op (.v (.bin .leq T0 (.c (.int .u8 122)))))] .t T0 (.c (.bool false))), mT T0, (.sel T0 false [(.op (.v (.mv S0))), (.op (.v (.bin .leq (.c (.int .u8 48)) T0))), (.op (.v (.mv T0))), (.nst T0 true [(.op (.v (.mv S0))), (.op (.v (.bin .leq T0 (.c (.int .u8 57)))))] T0 (.c (.bool false)))] .t (.c (.bool true)) T0), mT T0, (.sel T0 false [(.op (.v (.mv S0))), (.op (.v (.bin .eql T0 (.c (.int .u8 45)))))] .t (.c (.bool true)) T0), mS 1 T0]
def c69s2 : SCode := (.seq (.ops c69r1) .ret)
@[go_sem] theorem c69s2eq : U c69s2 (.seq (.ops c69r1) .ret) := fun _ _ _ _ _ => rfl
def c69 : Gx.Fn := ⟨21, c69k, (.seq (.ops c69r0) c69s2), [(.tmp S1)]⟩
theorem c69ok : stripFn Tryd.prog c69k Tryd.f69 = some c69 := by kernel_rfl

/- slices.Contains[[]string,string] -/
@[go_sem] def c70k : List Nat := [0, 1, 4]
@[go_sem] def c70r0 : List GOp := [mS 2 (.c (.bool false))]
@[go_sem] def c70r1 : List GOp := [mT S0, mT S1, oT (.call 79 [T1, T0]), oT (.v (.bin .geq T0 (C 0))), mS 2 T0]
def c70s2 : SCode := (.seq (.ops c70r1) .ret)
@[go_sem] theorem c70s2eq : U c70s2 (.seq (.ops c70r1) .ret) := fun _ _ _ _ _ => rfl
def c70 : Gx.Fn := ⟨9, c70k, (.seq (.ops c70r0) c70s2), [(.tmp S2)]⟩
theorem c70ok : stripFn Tryd.prog c70k Tryd.f70 = some c70 := by kernel_rfl

/- slices.Index[[]string,string] -/
@[go_sem] def c79k : List Nat := [0, 1, 4, 5, 7, 8, 9, 16]
@[go_sem] def c79r0 : List GOp := [mS 2 (C 0)]
@[go_sem] def c79r1 : List GOp := [mT S0, oS 4 (.v (.len T0)), mS 5 (C 0)]
@[go_sem] def c79r2 : List GOp := [oS 6 (.v (.bin .lss S5 S4))]
@[go_sem] def c79r3 : List GOp := [mT S5, mS 3 T0]
@[go_sem] def c79r4 : List GOp := [mT S1, mT S0, mT S3, oT (.v (.ix 1 T1 T0)), lT T0, oS 7 (.v (.bin .eql T4 T0))]
@[go_sem] def c79r5 : List GOp := [mT S3, mS 2 T0]
def c79s6 : SCode := (.seq (.ops c79r5) .ret)
@[go_sem] theorem c79s6eq : U c79s6 (.seq (.ops c79r5) .ret) := fun _ _ _ _ _ => rfl
def c79s7 : SCode := (.seq (.ops c79r4) (.cond S7 c79s6 .skip))
@[go_sem] theorem c79s7eq : U c79s7 (.seq (.ops c79r4) (.cond S7 c79s6 .skip)) := fun _ _ _ _ _ => rfl
@[go_sem] def c79r8 : List GOp := [oT (.v (.bin .add S5 (C 1))), mS 5 T0]
def c79s9 : SCode := (.ops c79r8)
@[go_sem] theorem c79s9eq : U c79s9 (.ops c79r8) := fun _ _ _ _ _ => rfl
def c79s10 : SCode := (.seq (.block 1 (.seq (.ops c79r3) c79s7)) c79s9)
@[go_sem] theorem c79s10eq : U c79s10 (.seq (.block 1 (.seq (.ops c79r3) c79s7)) c79s9) := fun _ _ _ _ _ => rfl
def c79s11 : SCode := (.seq (.cond S6 .skip (.exit 0)) c79s10)
@[go_sem] theorem c79s11eq : U c79s11 (.seq (.cond S6 .skip (.exit 0)) c79s10) := fun _ _ _ _ _ => rfl
def c79s12 : SCode := (.seq (.ops c79r2) c79s11)
@[go_sem] theorem c79s12eq : U c79s12 (.seq (.ops c79r2) c79s11) := fun _ _ _ _ _ => rfl
def c79s13 : SCode := (.block 0 (.loop c79k c79s12))
@[go_sem] theorem c79s13eq : U c79s13 (.block 0 (.loop c79k c79s12)) := fun _ _ _ _ _ => rfl
@[go_sem] def c79r14 : List GOp := [mS 2 (C (-1))]
def c79s15 : SCode := (.seq (.ops c79r14) .ret)
@[go_sem] theorem c79s15eq : U c79s15 (.seq (.ops c79r14) .ret) := fun _ _ _ _ _ => rfl
def c79s16 : SCode := (.seq (.seq (.ops c79r1) c79s13) c79s15)
@[go_sem] theorem c79s16eq : U c79s16 (.seq (.seq (.ops c79r1) c79s13) c79s15) := fun _ _ _ _ _ => rfl
def c79 : Gx.Fn := ⟨19, c79k, (.seq (.ops c79r0) c79s16), [(.tmp S2)]⟩
theorem c79ok : stripFn Tryd.prog c79k Tryd.f79 = some c79 := by kernel_rfl

end Go.Proofs.YtbgjgaaobnbijaaDoor
end
section
/- From a call on heaps to a row; and what a reading says of the cells. -/
namespace Gx
open Go Go.ChangeShapes Go.WideShapes Go.RowKit

theorem below_of {w w' : World} (hs : Same w w') (hf : Fr [] w.heap w'.heap) : Below w.heap.size w w' :=
  ⟨hs.os, hs.tape, hs.output, hf.size, fun k hk => hf.same k hk (by simp)⟩

section
variable {H : Type} {enc : TypeId × Value → H} {P : Program}

theorem trodAll_stays (hl : laidOutB P = true) {W W' : World} (hb : Below W.heap.size W W') {sp : Nat → Bool} : ∀ {ts : List TypeId} {vs : List Value} {ds : List (DataW H)} {ps : List MemPlace},
    ts.all (fun t => P.readableRec t && decide (t < P.types.size)) = true → DataW.TrodAll enc P W 0 (fun _ => true) true ts vs ds ps → (∀ x ∈ ps, x.block < W.heap.size) → (∀ x ∈ ps, sp x.block = true) →
    DataW.TrodAll enc P W' 0 sp true ts vs ds ps
  | [], [], [], _, _, h, _, _ => h
  | t :: ts, v :: vs, d :: ds, ps, ht, ⟨p, q, h, hs, e⟩, hlt, hsp => by
    simp only [List.all_cons, Bool.and_eq_true, decide_eq_true_eq] at ht
    subst e
    exact ⟨p, q, WideElems.Trod_stays hl ht.1.1 ht.1.2 h (fun x hx => hb.same (hlt x (by simp [hx]))) (fun x hx => hsp x (by simp [hx])),
      trodAll_stays hl hb ht.2 hs (fun x hx => hlt x (by simp [hx])) (fun x hx => hsp x (by simp [hx])), rfl⟩

theorem trodAll_len {w : World} {base : Nat} {spare : Nat → Bool} {held : Bool} : ∀ {ts : List TypeId} {vs : List Value} {ds : List (DataW H)} {ps : List MemPlace}, DataW.TrodAll enc P w base spare held ts vs ds ps → ds.length = ts.length
  | [], [], [], _, _ => rfl
  | _ :: _, _ :: _, _ :: _, _, ⟨_, _, _, hs, _⟩ => congrArg (· + 1) (trodAll_len hs)

/-- A law's 'post': it said true, and nothing old has turned. -/
theorem law_post {f : Func} {s : ChangeSpec} {tb : TypeId} {W W' : World} {args : Array Value} {ds gs : List (DataW H)} {before : List MemPlace}
    (hl : laidOutB P = true) (hpar : f.params.toList.all (fun t => P.readableRec t && decide (t < P.types.size)) = true) (hres : f.resultTypes = #[tb]) (htb : P.underlying tb = some .bool) (hv : s.vars = [])
    (hfn : s.fn H (ds ++ gs) = { results := [.lit (.bool true)], args := ds })
    (hW : DataW.Whole enc P f.params.toList s.vars false W args.toList ds gs before) (hb : Below W.heap.size W W') :
    s.post enc P f false true false false W args (.bool true) W' := by
  have hW' := hW
  obtain ⟨p, q, hA, hV, rfl, hz, hn⟩ := hW
  rw [hv] at hV
  obtain ⟨rfl, rfl⟩ := trodVars_none hV
  rw [List.append_nil] at hW'
  refine ⟨ds, [], p, [], p, [], hW', ?_, ?_, ?_, hb.frame _, fun h => by cases h⟩
  · rw [hfn, hres]
    exact trodAll_cons_mk (shut_bool htb _) trodAll_mk0
  · rw [hfn]
    exact trodAll_stays hl hb hpar hA (fun x hx => hW'.lt x hx) (fun x hx => by simpa using hW'.lt x hx)
  · rw [hfn, hv]; rfl

/-- The row's step, of a law: what is left is the call on heaps. -/
theorem law_row {C : Checked} {os : Os} {f : FuncId} {fn : Func} {s : ChangeSpec} {tb : TypeId} (own : ownKnob C.prog.godebug = none) (started : os.Started) (noInit : C.prog.inits.idxOf? f = none) (hf : C.prog.funcs[f]? = some fn)
    (hl : laidOutB C.prog = true) (hpar : fn.params.toList.all (fun t => C.prog.readableRec t && decide (t < C.prog.types.size)) = true) (hres : fn.resultTypes = #[tb]) (htb : C.prog.underlying tb = some .bool) (hv : s.vars = [])
    (hfn : ∀ (K : Type) (ds : List (DataW K)), ds.length = fn.params.size → s.fn K ds = { results := [.lit (.bool true)], args := ds })
    (witness : ∃ (w : World) (tape : Tape) (i : Input), w.os = os ∧ (w.forCall tape i).Shaped C.prog ∧ i.vars = [] ∧ Input.okWide C.prog (w.forCall tape i) .any w.heap.size f i ∧
      s.pre6 enc C.prog fn [] false (w.forCall tape i).memory i.args ∧ Assume.holds {} C.prog (lone (Frame.enter C.prog f i.args .normal) [] (w.forCall tape i)))
    (contract : ∀ (W : World) (base : Nat) (args : Array Value) (ds : List (DataW H)) (ps : List MemPlace),
      (∀ (j : Nat) t v, fn.params[j]? = some t → args[j]? = some v → Value.okWide C.prog W .any base t v) →
      DataW.TrodAll enc C.prog W 0 (fun _ => true) true fn.params.toList args.toList ds ps → HCalls C.prog f args W.heap fun v H' => v = .bool true ∧ Fr [] W.heap H') :
    ReturnsInHanded {} C os f .any (s.pre6 enc C.prog fn [] false) (s.post enc C.prog fn false true false false) := by
  refine returnsInHanded_of_change own started noInit hf witness ?_
  intro W base args ds gs before hval hW _ _
  have hW' := hW
  obtain ⟨p, q, hA, hV, rfl, hz, hn⟩ := hW
  have hV' := hV
  rw [hv] at hV'
  obtain ⟨rfl, rfl⟩ := trodVars_none hV'
  refine ((contract W base args ds p hval hA).out W rfl).mono fun e W' ⟨v, he, ⟨hvt, hfr⟩, hs⟩ => ?_
  subst hvt
  refine ⟨_, he, law_post hl hpar hres htb hv ?_ hW' (below_of hs hfr)⟩
  rw [List.append_nil]
  exact hfn H ds (by have := trodAll_len hA; simpa using this)

/-! ### what a reading says -/
variable {W : World} {base : Nat} {sp : Nat → Bool} {held : Bool}

/-- A type whose readings say R of the cells. -/
def Opens (P : Program) (t : TypeId) {α : Type} (R : α → List Value → Heap → Prop) : Prop :=
  ∀ {H : Type} {enc : TypeId × Value → H} {W : World} {base : Nat} {sp : Nat → Bool} {held : Bool} {fuel : Nat} {cs : List Value} {x : DataW H × List MemPlace},
    DataW.trod enc P W base sp held fuel t cs = some x → ∃ a, R a cs W.heap

def IntR (k : IntKind) (n : Int) (cs : List Value) (_ : Heap) : Prop := cs = [.int k n] ∧ (Lit.int k n).wf = true
def StrR (l : List UInt8) (cs : List Value) (_ : Heap) : Prop := cs = [.string ⟨⟨l⟩⟩] ∧ l.length ≤ maxLen
def BoolR (b : Bool) (cs : List Value) (_ : Heap) : Prop := cs = [.bool b]

theorem opens_int {t : TypeId} {k : IntKind} (ht : P.underlying t = some (.int k)) : Opens P t (IntR k) := by
  intro H enc W base sp held fuel cs x h
  obtain ⟨n, h1, _, h3⟩ := DataW.trod_int ht h
  exact ⟨n, h1, h3⟩
theorem opens_bool {t : TypeId} (ht : P.underlying t = some .bool) : Opens P t BoolR := by
  intro H enc W base sp held fuel cs x h
  cases fuel with
  | zero => simp [DataW.trod] at h
  | succ n =>
    unfold DataW.trod at h
    rw [ht] at h
    split at h <;> simp_all [BoolR]
theorem opens_str {t : TypeId} (ht : P.underlying t = some .string) : Opens P t StrR := by
  intro H enc W base sp held fuel cs x h
  cases fuel with
  | zero => simp [DataW.trod] at h
  | succ n =>
    unfold DataW.trod at h
    rw [ht] at h
    split at h <;> simp only [reduceCtorEq, Option.some.injEq, TypeDesc.int.injEq] at *
    rename_i s _
    split at h
    · rename_i hs
      exact ⟨s.data.toList, rfl, by simpa using hs⟩
    · cases h

/-- Elements behind an address, each of m cells. -/
def ElR {α : Type} (R : α → List Value → Heap → Prop) (m : Nat) (H : Heap) (a : Option Addr) (l : List α) : Prop :=
  l = [] ∨ ∃ b o, a = some ⟨b, o, none⟩ ∧ ∀ j (h : j < l.length), ∃ vs, vs.length = m ∧ (∀ i, i < m → cellB H b (o + j * m + i) = vs[i]?) ∧ R l[j] vs H
def SlR {α : Type} (R : α → List Value → Heap → Prop) (m : Nat) (l : List α) (cs : List Value) (H : Heap) : Prop :=
  ∃ a c, cs = [.slice a l.length c] ∧ l.length ≤ c ∧ c ≤ maxLen ∧ ElR R m H a l

theorem list_of {α β : Type} {n : Nat} {Q : Nat → α → Prop} (h : ∀ i, i < n → ∃ a, Q i a) : ∃ l : List α, l.length = n ∧ ∀ i (hi : i < l.length), Q i l[i] := by
  induction n with
  | zero => exact ⟨[], rfl, fun i hi => by simp at hi⟩
  | succ n ih =>
    obtain ⟨l, h1, h2⟩ := ih (fun i hi => h i (by omega))
    obtain ⟨a, ha⟩ := h n (by omega)
    refine ⟨l ++ [a], by simp [h1], fun i hi => ?_⟩
    rcases Nat.lt_or_ge i l.length with h' | h'
    · rw [List.getElem_append_left h']; exact h2 i h'
    · have : i = l.length := by simp at hi; omega
      subst this
      simp; rw [h1]; exact ha

theorem opens_slice {t e m : Nat} {α : Type} {R : α → List Value → Heap → Prop} (ht : P.underlying t = some (.slice e)) (hc : P.cellsOf e = m) (hm : 0 < m) (he : Opens P e R) : Opens P t (SlR R m) := by
  intro H enc W base sp held fuel cs x h
  rcases DataW.trod_slice ht h with ⟨h0, _⟩ | ⟨a, len, cap, elems, rest, n, _, rfl, rfl, hb, hl, hmx, hlen, hel, _, _⟩
  · exact ⟨[], none, 0, h0, by simp, by simp [maxLen], .inl rfl⟩
  · have hi : ∀ i, i < len → ∃ y : α, ∃ vs, vs.length = m ∧ (∀ j, j < m → cellAt W.heap (a.add (i * m + j)) = vs[j]?) ∧ R y vs W.heap := by
      intro i hi
      have h1 := hel i hi
      have h2 : elems[i]? = some elems[i] := List.getElem?_eq_getElem (by omega)
      rw [h2, Option.bind_eq_some_iff] at h1
      obtain ⟨vs, hv, hr⟩ := h1
      obtain ⟨h3, h4, h5⟩ := World.cells?_some hv
      obtain ⟨y, hy⟩ := he hr
      rw [hc] at h4 h5 hv
      refine ⟨y, vs, h4, fun j hj => ?_, hy⟩
      have := h5 j hj
      rw [← this]
      show _ = cellAt W.heap _
      congr 1
      simp only [Addr.add]
      repeat' split
      all_goals first | rfl | omega | simp_all [Nat.add_assoc]
    obtain ⟨l, hl1, hl2⟩ := list_of (β := Unit) hi
    refine ⟨l, some a, cap, by rw [hl1], by omega, hmx, ?_⟩
    rcases Nat.eq_zero_or_pos l.length with h0 | h0
    · exact .inl (List.eq_nil_of_length_eq_zero h0)
    · have hspot : a.spot = none := by
        obtain ⟨vs, h1, h2, _⟩ := hl2 0 h0
        have h3 := h2 0 hm
        rw [List.getElem?_eq_getElem (by omega)] at h3
        unfold cellAt at h3
        split at h3
        · split at h3
          · cases h3
          · rename_i hs; simpa [Addr.add] using hs
        · cases h3
      obtain ⟨b, o, s⟩ := a
      simp only at hspot
      subst hspot
      refine .inr ⟨b, o, rfl, fun j hj => ?_⟩
      obtain ⟨vs, h1, h2, h3⟩ := hl2 j hj
      refine ⟨vs, h1, fun i hi => ?_, h3⟩
      rw [← h2 i hi, add_mk, cellAt_mk, Nat.add_assoc]

/-- A byte slice. -/
def BytesR (l : List UInt8) (cs : List Value) (H : Heap) : Prop := ∃ a c, cs = [.slice a l.length c] ∧ l.length ≤ c ∧ c ≤ maxLen ∧ BsR H a l

theorem opens_bytes {t e : Nat} (ht : P.underlying t = some (.slice e)) (hc : P.cellsOf e = 1) (he : P.underlying e = some (.int .u8)) : Opens P t BytesR := by
  intro H enc W base sp held fuel cs x h
  obtain ⟨l, a, c, h1, h2, h3, h4⟩ := opens_slice ht hc (by decide) (opens_int he) h
  refine ⟨l.map fun n => UInt8.ofNat n.toNat, a, c, by simpa using h1, by simpa using h2, h3, ?_⟩
  rcases h4 with h4 | ⟨b, o, h5, h6⟩
  · subst h4; exact .inl rfl
  · refine .inr ⟨b, o, h5, fun j hj => ?_⟩
    simp only [List.length_map] at hj
    obtain ⟨vs, h7, h8, h9, h10⟩ := h6 j hj
    have := h8 0 (by decide)
    rw [h9] at this
    simp only [Nat.mul_one, Nat.add_zero, List.getElem?_cons_zero] at this
    rw [this]
    simp only [Lit.wf, IntKind.min, IntKind.max, IntKind.signed, IntKind.bits, Bool.and_eq_true, decide_eq_true_eq] at h10
    simp only [List.getElem_map, bv]
    rw [u8_of _ (by simp at h10; omega)]
    simp at h10 ⊢; omega

/-- A struct's fields, each by its own type. -/
theorem struct_fields {H : Type} {enc : TypeId × Value → H} {W : World} {base : Nat} {sp : Nat → Bool} {held : Bool} {fuel : Nat} {t : TypeId} {cs : List Value} {x : DataW H × List MemPlace} {fs : Array Field} (ht : P.underlying t = some (.struct fs))
    (h : DataW.trod enc P W base sp held fuel t cs = some x) : cs.length = P.cellsOf t ∧
      ∀ (i : Nat) (f : Field), fs[i]? = some f → ∀ {α : Type} {R : α → List Value → Heap → Prop} {m : Nat}, P.cellsOf f.type = m → Opens P f.type R → ∃ a, R a ((cs.drop f.offset).take m) W.heap := by
  obtain ⟨xs, n, _, _, hl, hx, hf⟩ := DataW.trod_struct ht h
  refine ⟨hl, fun i f hi α R m hm ho => ?_⟩
  have h1 := hf i f hi
  have hlt : i < xs.length := by
    rw [hx]; exact (Array.getElem?_eq_some_iff.1 hi).1
  rw [List.getElem?_eq_getElem hlt, hm] at h1
  exact ho h1

/-- A type of one cell that no struct shares. -/
def plainB (P : Program) (t : TypeId) : Bool :=
  match P.underlying t with
  | some (.int _) | some .bool | some .string | some (.slice _) => true
  | _ => false

theorem arg_one {t : TypeId} {α : Type} {R : α → List Value → Heap → Prop} (ho : Opens P t R) (hp : plainB P t = true) {b0 : Nat} {v : Value} {d : DataW H} {ps : List MemPlace}
    (hval : Value.okWide P W .any b0 t v) (h : DataW.Trod enc P W base sp held t v d ps) : ∃ a, R a [v] W.heap := by
  obtain ⟨fuel, hf⟩ := h
  have hc : v.cells.toList = [v] := by
    cases v with
    | agg vs =>
      exfalso
      unfold plainB at hp
      unfold Value.okWide at hval
      split at hp
      all_goals first | (cases hp; done) | (rename_i e; rw [e] at hval; simp [Cell.okWide, e, Cell.ok] at hval)
    | _ => rfl
  rw [hc] at hf
  exact ho hf

theorem arg_agg {t : TypeId} {fs : Array Field} {α : Type} {R : α → List Value → Heap → Prop} (ho : Opens P t R) (ht : P.underlying t = some (.struct fs)) {b0 : Nat} {v : Value} {d : DataW H} {ps : List MemPlace}
    (hval : Value.okWide P W .any b0 t v) (h : DataW.Trod enc P W base sp held t v d ps) : ∃ a cs, v = .agg cs ∧ R a cs.toList W.heap := by
  obtain ⟨fuel, hf⟩ := h
  obtain ⟨cs, rfl, _⟩ := okWide_struct ht hval
  obtain ⟨a, ha⟩ := ho hf
  exact ⟨a, cs, rfl, ha⟩

/-- What is known of an argument. -/
def ArgOk (enc : TypeId × Value → H) (P : Program) (W : World) (b0 : Nat) (t : TypeId) (v : Value) : Prop := Value.okWide P W .any b0 t v ∧ ∃ d ps, DataW.Trod enc P W 0 (fun _ => true) true t v d ps

theorem args1 {fn : Func} {b0 : Nat} {args : Array Value} {ds : List (DataW H)} {ps : List MemPlace} {t0 : TypeId} (hp : fn.params = #[t0])
    (hval : ∀ (j : Nat) t v, fn.params[j]? = some t → args[j]? = some v → Value.okWide P W .any b0 t v) (h : DataW.TrodAll enc P W 0 (fun _ => true) true fn.params.toList args.toList ds ps) :
    ∃ v0, args = #[v0] ∧ ArgOk enc P W b0 t0 v0 := by
  rw [hp] at h hval
  obtain ⟨v0, vs0, d0, ds0, p0, q0, hargs, rfl, rfl, h0, r0⟩ := trodAll_cons h
  obtain ⟨rfl, rfl, rfl⟩ := trodAll_nil r0
  obtain rfl : args = #[v0] := by cases args; simp_all
  exact ⟨v0, rfl, hval 0 t0 v0 rfl rfl, d0, p0, h0⟩
theorem args2 {fn : Func} {b0 : Nat} {args : Array Value} {ds : List (DataW H)} {ps : List MemPlace} {t0 t1 : TypeId} (hp : fn.params = #[t0, t1])
    (hval : ∀ (j : Nat) t v, fn.params[j]? = some t → args[j]? = some v → Value.okWide P W .any b0 t v) (h : DataW.TrodAll enc P W 0 (fun _ => true) true fn.params.toList args.toList ds ps) :
    ∃ v0 v1, args = #[v0, v1] ∧ ArgOk enc P W b0 t0 v0 ∧ ArgOk enc P W b0 t1 v1 := by
  rw [hp] at h hval
  obtain ⟨v0, vs0, d0, ds0, p0, q0, hargs, rfl, rfl, h0, r0⟩ := trodAll_cons h
  obtain ⟨v1, vs1, d1, ds1, p1, q1, rfl, rfl, rfl, h1, r1⟩ := trodAll_cons r0
  obtain ⟨rfl, rfl, rfl⟩ := trodAll_nil r1
  obtain rfl : args = #[v0, v1] := by cases args; simp_all
  exact ⟨v0, v1, rfl, ⟨hval 0 t0 v0 rfl rfl, d0, p0, h0⟩, hval 1 t1 v1 rfl rfl, d1, p1, h1⟩
theorem args3 {fn : Func} {b0 : Nat} {args : Array Value} {ds : List (DataW H)} {ps : List MemPlace} {t0 t1 t2 : TypeId} (hp : fn.params = #[t0, t1, t2])
    (hval : ∀ (j : Nat) t v, fn.params[j]? = some t → args[j]? = some v → Value.okWide P W .any b0 t v) (h : DataW.TrodAll enc P W 0 (fun _ => true) true fn.params.toList args.toList ds ps) :
    ∃ v0 v1 v2, args = #[v0, v1, v2] ∧ ArgOk enc P W b0 t0 v0 ∧ ArgOk enc P W b0 t1 v1 ∧ ArgOk enc P W b0 t2 v2 := by
  rw [hp] at h hval
  obtain ⟨v0, vs0, d0, ds0, p0, q0, hargs, rfl, rfl, h0, r0⟩ := trodAll_cons h
  obtain ⟨v1, vs1, d1, ds1, p1, q1, rfl, rfl, rfl, h1, r1⟩ := trodAll_cons r0
  obtain ⟨v2, vs2, d2, ds2, p2, q2, rfl, rfl, rfl, h2, r2⟩ := trodAll_cons r1
  obtain ⟨rfl, rfl, rfl⟩ := trodAll_nil r2
  obtain rfl : args = #[v0, v1, v2] := by cases args; simp_all
  exact ⟨v0, v1, v2, rfl, ⟨hval 0 t0 v0 rfl rfl, d0, p0, h0⟩, ⟨hval 1 t1 v1 rfl rfl, d1, p1, h1⟩, hval 2 t2 v2 rfl rfl, d2, p2, h2⟩

theorem ArgOk.one {b0 : Nat} {t : TypeId} {v : Value} {α : Type} {R : α → List Value → Heap → Prop} (h : ArgOk enc P W b0 t v) (ho : Opens P t R) (hp : plainB P t = true) : ∃ a, R a [v] W.heap := by
  obtain ⟨h1, d, ps, h2⟩ := h
  exact arg_one ho hp h1 h2
theorem ArgOk.agg {b0 : Nat} {t : TypeId} {v : Value} {fs : Array Field} {α : Type} {R : α → List Value → Heap → Prop} (h : ArgOk enc P W b0 t v) (ho : Opens P t R) (ht : P.underlying t = some (.struct fs)) : ∃ a cs, v = .agg cs ∧ R a cs.toList W.heap := by
  obtain ⟨h1, d, ps, h2⟩ := h
  exact arg_agg ho ht h1 h2

end
end Gx
end
section
/- Rows of elements of several cells each. -/
namespace Gx
open Go

/-- Cells behind a slice's address. -/
def CsR (H : Heap) (a : Option Addr) (l : List Value) : Prop :=
  l = [] ∨ ∃ b o, a = some ⟨b, o, none⟩ ∧ ∀ j (h : j < l.length), cellB H b (o + j) = some l[j]

theorem CsR.nil (H : Heap) (a : Option Addr) : CsR H a [] := .inl rfl
theorem CsR.fr {M : List Nat} {H H' : Heap} {a : Option Addr} {l : List Value} (h : CsR H a l) (hf : Fr M H H') (hm : ∀ b o, a = some ⟨b, o, none⟩ → b ∉ M) : CsR H' a l := by
  rcases h with h | ⟨b, o, h1, h2⟩
  · exact .inl h
  · exact .inr ⟨b, o, h1, fun j hj => cellB_fr (h2 j hj) hf (hm b o h1)⟩
theorem CsR.ext {H H' : Heap} {a : Option Addr} {l : List Value} (h : CsR H a l) (hf : Fr [] H H') : CsR H' a l := h.fr hf (by simp)
theorem CsR.lt {H : Heap} {b o : Nat} {l : List Value} (h : CsR H (some ⟨b, o, none⟩) l) (h0 : l ≠ []) : b < H.size := by
  rcases h with h | ⟨b', o', h1, h2⟩
  · exact absurd h h0
  · simp at h1; obtain ⟨rfl, rfl⟩ := h1
    exact cellB_lt (h2 0 (List.length_pos_iff.2 h0))
theorem CsR.get {H : Heap} {a : Option Addr} {l : List Value} (h : CsR H a l) (j : Nat) (hj : j < l.length) : ∃ b o, a = some ⟨b, o, none⟩ ∧ cellB H b (o + j) = some l[j] := by
  rcases h with h | ⟨b, o, h1, h2⟩
  · subst h; simp at hj
  · exact ⟨b, o, h1, h2 j hj⟩
theorem CsR.take {H : Heap} {a : Option Addr} {l : List Value} (h : CsR H a l) (n : Nat) : CsR H a (l.take n) := by
  rcases h with h | ⟨b, o, h1, h2⟩
  · subst h; simp [CsR]
  · refine .inr ⟨b, o, h1, fun j hj => ?_⟩
    simp only [List.length_take] at hj
    rw [h2 j (by omega)]; simp
theorem CsR.drop {H : Heap} {a : Option Addr} {l : List Value} (h : CsR H a l) (n : Nat) : CsR H (a.map (·.add n)) (l.drop n) := by
  rcases h with h | ⟨b, o, h1, h2⟩
  · subst h; simp [CsR]
  · refine .inr ⟨b, o + n, by simp [h1, add_mk], fun j hj => ?_⟩
    simp only [List.length_drop] at hj
    rw [show o + n + j = o + (n + j) by omega, h2 (n + j) (by omega)]; simp

section
variable {α : Type} {f : α → List Value} {m : Nat}

/-- Elements behind a slice's address; f says the cells of an element. -/
def RowR (f : α → List Value) (H : Heap) (a : Option Addr) (l : List α) : Prop := CsR H a (l.flatMap f)

theorem RowR.nil (H : Heap) (a : Option Addr) : RowR f H a [] := CsR.nil _ _
theorem RowR.fr {M : List Nat} {H H' : Heap} {a : Option Addr} {l : List α} (h : RowR f H a l) (hf : Fr M H H') (hm : ∀ b o, a = some ⟨b, o, none⟩ → b ∉ M) : RowR f H' a l := CsR.fr h hf hm
theorem RowR.ext {H H' : Heap} {a : Option Addr} {l : List α} (h : RowR f H a l) (hf : Fr [] H H') : RowR f H' a l := CsR.ext h hf

theorem length_cells (hm : ∀ x, (f x).length = m) : ∀ l : List α, (l.flatMap f).length = l.length * m
  | [] => by simp
  | x :: l => by simp [length_cells hm l, hm, Nat.add_mul, Nat.add_comm]
theorem drop_cells (hm : ∀ x, (f x).length = m) : ∀ (l : List α) (n : Nat), (l.flatMap f).drop (n * m) = (l.drop n).flatMap f
  | [], n => by simp
  | x :: l, 0 => by simp
  | x :: l, n + 1 => by
    rw [List.flatMap_cons, List.drop_succ_cons, ← drop_cells hm l n, List.drop_append, List.drop_eq_nil_of_le (by rw [hm, Nat.add_mul]; omega), hm]
    simp [Nat.add_mul]
theorem take_cells (hm : ∀ x, (f x).length = m) : ∀ (l : List α) (n : Nat), (l.flatMap f).take (n * m) = (l.take n).flatMap f
  | [], n => by simp
  | x :: l, 0 => by simp
  | x :: l, n + 1 => by
    rw [List.flatMap_cons, List.take_succ_cons, List.flatMap_cons, ← take_cells hm l n, List.take_append, List.take_of_length_le (by rw [hm, Nat.add_mul]; omega), hm]
    simp [Nat.add_mul]
theorem get_cells (hm : ∀ x, (f x).length = m) (l : List α) (j i : Nat) (hj : j < l.length) (hi : i < m) : (l.flatMap f)[j * m + i]? = (f l[j])[i]? := by
  have h1 := drop_cells hm l j
  have h2 : (l.flatMap f)[j * m + i]? = ((l.flatMap f).drop (j * m))[i]? := by simp
  rw [h2, h1, List.drop_eq_getElem_cons hj, List.flatMap_cons, List.getElem?_append_left (by rw [hm]; exact hi)]

/-- The cells of one element. -/
theorem RowR.get {H : Heap} {a : Option Addr} {l : List α} (h : RowR f H a l) (hm : ∀ x, (f x).length = m) (j : Nat) (hj : j < l.length) (h0 : 0 < m) : ∃ b o, a = some ⟨b, o, none⟩ ∧ ∀ i, i < m → cellB H b (o + j * m + i) = (f l[j])[i]? := by
  have hlen := length_cells hm l
  have hle : (j + 1) * m ≤ l.length * m := Nat.mul_le_mul_right _ hj
  rcases h with h | ⟨b, o, h1, h2⟩
  · rw [h] at hlen; simp at hlen; rw [Nat.add_mul] at hle; omega
  · refine ⟨b, o, h1, fun i hi => ?_⟩
    have hlt : j * m + i < (l.flatMap f).length := by rw [hlen]; rw [Nat.add_mul] at hle; omega
    rw [Nat.add_assoc, h2 _ hlt, ← get_cells hm l j i hj hi, List.getElem?_eq_getElem hlt]

theorem RowR.take {H : Heap} {a : Option Addr} {l : List α} (h : RowR f H a l) (hm : ∀ x, (f x).length = m) (n : Nat) : RowR f H a (l.take n) := by
  unfold RowR; rw [← take_cells hm]; exact CsR.take h _
theorem RowR.drop {H : Heap} {a : Option Addr} {l : List α} (h : RowR f H a l) (hm : ∀ x, (f x).length = m) (n : Nat) : RowR f H (a.map (·.add (n * m))) (l.drop n) := by
  unfold RowR; rw [← drop_cells hm]; exact CsR.drop h _
/-- A slice cut, as the machine makes it. -/
theorem RowR.cut {H : Heap} {a : Option Addr} {l : List α} (h : RowR f H a l) (hm : ∀ x, (f x).length = m) {c : Nat} (hc : l.length ≤ c) (n : Nat) : RowR f H (if c = n then a else a.map (·.add (n * m))) (l.drop n) := by
  by_cases e : c = n
  · rw [List.drop_eq_nil_of_le (by omega)]; exact RowR.nil _ _
  · rw [if_neg e]; exact h.drop hm n

theorem RowR.src {P : Program} {H : Heap} {a : Option Addr} {l : List α} {tx e c : Nat} (hk : P.underlying tx = some (.slice e)) (h : RowR f H a l) (hm : ∀ x, (f x).length = m) (h0 : 0 < m) (h1 : ∀ x, ∀ u ∈ f x, u.oneCell' = true) : SrcH P H m tx (.slice a l.length c) l.length (l.flatMap f) := by
  rcases h with h | ⟨b, o, h2, h3⟩
  · have : l = [] := by
      have := length_cells hm l
      rw [h] at this
      rcases Nat.eq_zero_or_pos l.length with h' | h'
      · exact List.eq_nil_of_length_eq_zero h'
      · have : 1 * m ≤ l.length * m := Nat.mul_le_mul_right _ h'
        simp at *; omega
    subst this; exact SrcH.empty hk a c
  · subst h2
    refine SrcH.cells hk (length_cells hm l) (fun j u hj => ?_) (by intro u hu; obtain ⟨x, _, hx⟩ := List.mem_flatMap.1 hu; exact h1 x u hx)
    have hlt : j < (l.flatMap f).length := by
      rcases Nat.lt_or_ge j (l.flatMap f).length with h | h
      · exact h
      · rw [List.getElem?_eq_none h] at hj; cases hj
    rw [add_mk, cellAt_mk, h3 j hlt, ← List.getElem?_eq_getElem hlt]; exact hj

theorem Own.csR {H : Heap} {a : Option Addr} {n c e : Nat} {xs : List Value} {g : Option Nat} (h : Own H e m (.slice a n c) n xs g) : CsR H a xs := by
  rcases h.2 with ⟨h1, h2, h3⟩ | ⟨b, cap, cur, h1, h2, h3, h4, h5, h6, h7⟩
  · subst h3; refine .inl (List.eq_nil_of_length_eq_zero ?_); have := h.1; omega
  · refine .inr ⟨b, 0, by simp at h2; exact h2.1, fun j hj => ?_⟩
    subst h1
    rw [Nat.zero_add, h.cell j (by have := h.1; omega)]
    simp [hj]
theorem Own.rowR {H : Heap} {a : Option Addr} {n c e : Nat} {l : List α} {g : Option Nat} (h : Own H e m (.slice a n c) n (l.flatMap f) g) : RowR f H a l := Own.csR h

/-- A slice of the heap that a reading says. -/
theorem RowR.of_ElR {H : Heap} {a : Option Addr} {l : List α} {R : α → List Value → Heap → Prop} (hm : ∀ x, (f x).length = m) (hR : ∀ x vs, R x vs H → vs = f x) (h : ElR R m H a l) : RowR f H a l := by
  rcases h with h | ⟨b, o, h1, h2⟩
  · subst h; exact RowR.nil _ _
  · refine .inr ⟨b, o, h1, fun k hk => ?_⟩
    have hlen := length_cells hm l
    have hm0 : 0 < m := by
      rcases Nat.eq_zero_or_pos m with h' | h'
      · subst h'; rw [hlen] at hk; simp at hk
      · exact h'
    have hj : k / m < l.length := by rw [hlen] at hk; exact (Nat.div_lt_iff_lt_mul hm0).2 hk
    have hi : k % m < m := Nat.mod_lt _ hm0
    obtain ⟨vs, h3, h4, h5⟩ := h2 (k / m) hj
    have e : o + k = o + k / m * m + k % m := by rw [Nat.add_assoc, Nat.mul_comm, Nat.div_add_mod]
    rw [e, h4 _ hi, hR _ _ h5, ← get_cells hm l _ _ hj hi]
    have e2 : k / m * m + k % m = k := by rw [Nat.mul_comm, Nat.div_add_mod]
    rw [e2, List.getElem?_eq_getElem hk]
end

/-- A store into a row of one's own. -/
theorem Sto_own {e m n b j : Nat} {v : Value} {xs : List Value} {H : Heap} {u : Value} {R : Heap → Prop} (h : Own H e m v n xs (some b)) (hj : j < xs.length) (h1 : u.oneCell' = true)
    (hR : ∀ H', Own H' e m v n (xs.set j u) (some b) → Fr [b] H H' → H'.size = H.size → R H') : Sto H ⟨b, j, none⟩ [u] 0 R := by
  rcases h.2 with ⟨h2, _⟩ | ⟨b', cap, cur, h2, h3, h4, h5, h6, h7, h8⟩
  · cases h2
  · cases h2
    have hb : Blk H b e cur.toList := by simpa [Blk] using h4
    have hlt : j < cur.toList.length := by
      have := congrArg List.length h8
      simp only [List.length_take, Array.length_toList] at this
      simp; omega
    refine Sto_one hb hlt h1 fun H' hb' hf hs => hR H' ⟨by simpa using h.1, .inr ⟨b, cap, _, rfl, h3, hb', h5, h6, by simpa using h7, ?_⟩⟩ hf hs
    rw [← h8, List.take_set]

/-- A block that is written whole. -/
theorem Sto_all {b t : Nat} {l vs : List Value} {H : Heap} {R : Heap → Prop} (h : Blk H b t l) (hl : vs.length = l.length) (h1 : ∀ v ∈ vs, v.oneCell' = true)
    (hR : ∀ H', Blk H' b t vs → Fr [b] H H' → H'.size = H.size → R H') : Sto H ⟨b, 0, none⟩ vs 0 R :=
  Sto_blk vs H l 0 0 h (by omega) h1 fun H' hb hf hs => hR H' (by
    rw [setL_eq _ _ _ (by omega)] at hb
    rw [List.drop_eq_nil_of_le (by omega)] at hb
    simpa using hb) hf hs

end Gx
end
section
/- Data that lie in memory: trees of cells and of slices. -/
namespace Gx
open Go

/-- Cells behind an address whose block is none of `M`. -/
def CsA (H : Heap) (M : List Nat) (a : Option Addr) (l : List Value) : Prop :=
  l = [] ∨ ∃ b o, a = some ⟨b, o, none⟩ ∧ b ∉ M ∧ ∀ j (h : j < l.length), cellB H b (o + j) = some l[j]

theorem CsA.csR {H : Heap} {M : List Nat} {a : Option Addr} {l : List Value} (h : CsA H M a l) : CsR H a l := by
  rcases h with h | ⟨b, o, h1, _, h2⟩
  · exact .inl h
  · exact .inr ⟨b, o, h1, h2⟩
theorem CsA.of_csR {H : Heap} {a : Option Addr} {l : List Value} (h : CsR H a l) : CsA H [] a l := by
  rcases h with h | ⟨b, o, h1, h2⟩
  · exact .inl h
  · exact .inr ⟨b, o, h1, by simp, h2⟩

/-- The step from one memory to another: what was readable and none of `M` is as it was, and none of `M'`. -/
def Stays (H : Heap) (M : List Nat) (H' : Heap) (M' : List Nat) : Prop := ∀ b, b < H.size → b ∉ M → b ∉ M' ∧ H'[b]? = H[b]?

theorem Stays.refl (H : Heap) (M : List Nat) : Stays H M H M := fun _ _ h => ⟨h, rfl⟩
/-- Behind writes to blocks of `M`, or new ones. -/
theorem Stays.fr {H H' : Heap} {M M' : List Nat} (hf : Fr M' H H') (hm : ∀ x, x ∈ M' → x ∈ M ∨ H.size ≤ x) : Stays H M H' M := fun b hb hn =>
  ⟨hn, hf.same b hb fun h => by rcases hm b h with q | q; exact hn q; omega⟩
theorem Stays.more {H : Heap} {M M' : List Nat} (hm : ∀ x, x ∈ M' → x ∈ M ∨ H.size ≤ x) : Stays H M H M' := fun b hb hn =>
  ⟨fun h => by rcases hm b h with q | q; exact hn q; omega, rfl⟩
theorem Stays.ext {H H' : Heap} {M : List Nat} (hf : Fr [] H H') : Stays H M H' M := Stays.fr hf (by simp)
theorem Stays.trans {H H' H'' : Heap} {M M' M'' : List Nat} (h : Stays H M H' M') (k : Stays H' M' H'' M'') (hs : H.size ≤ H'.size) : Stays H M H'' M'' := fun b hb hn => by
  obtain ⟨h1, h2⟩ := h b hb hn
  obtain ⟨h3, h4⟩ := k b (by omega) h1
  exact ⟨h3, h4.trans h2⟩

theorem CsA.to {H H' : Heap} {M M' : List Nat} {a : Option Addr} {l : List Value} (h : CsA H M a l) (hs : Stays H M H' M') : CsA H' M' a l := by
  rcases h with h | ⟨b, o, h1, h2, h3⟩
  · exact .inl h
  · rcases Nat.eq_zero_or_pos l.length with h0 | h0
    · exact .inl (List.eq_nil_of_length_eq_zero h0)
    · have hlt := cellB_lt (h3 0 h0)
      obtain ⟨q1, q2⟩ := hs b hlt h2
      refine .inr ⟨b, o, h1, q1, fun j hj => ?_⟩
      have := h3 j hj
      unfold cellB at *
      rw [q2]; exact this

/-- What is read: a cell; a slice of elements of m cells each; fields one behind the other. -/
inductive Dat where
  | v (x : Value)
  | list (m : Nat) (l : List Dat)
  | agg (l : List Dat)

mutual
def Rep (H : Heap) (M : List Nat) : Dat → List Value → Prop
  | .v x, cs => cs = [x]
  | .list m l, cs => ∃ a c css, cs = [.slice a l.length c] ∧ l.length ≤ c ∧ c ≤ maxLen ∧ Reps H M l css ∧ (∀ x ∈ css, x.length = m) ∧ CsA H M a css.flatten
  | .agg l, cs => ∃ css, cs = css.flatten ∧ Reps H M l css
def Reps (H : Heap) (M : List Nat) : List Dat → List (List Value) → Prop
  | [], css => css = []
  | d :: ds, css => ∃ x xs, css = x :: xs ∧ Rep H M d x ∧ Reps H M ds xs
end

section
variable {H H' : Heap} {M M' : List Nat} {α : Type}

mutual
theorem Rep.to (hs : Stays H M H' M') : ∀ (d : Dat) (cs : List Value), Rep H M d cs → Rep H' M' d cs
  | .v x, cs, h => by simpa [Rep] using h
  | .list m l, cs, h => by
    simp only [Rep] at h ⊢
    obtain ⟨a, c, css, h1, h2, h3, h4, h5, h6⟩ := h
    exact ⟨a, c, css, h1, h2, h3, Reps.to hs l css h4, h5, h6.to hs⟩
  | .agg l, cs, h => by
    simp only [Rep] at h ⊢
    obtain ⟨css, h1, h2⟩ := h
    exact ⟨css, h1, Reps.to hs l css h2⟩
theorem Reps.to (hs : Stays H M H' M') : ∀ (l : List Dat) (css : List (List Value)), Reps H M l css → Reps H' M' l css
  | [], css, h => by simpa [Reps] using h
  | d :: ds, css, h => by
    simp only [Reps] at h ⊢
    obtain ⟨x, xs, h1, h2, h3⟩ := h
    exact ⟨x, xs, h1, Rep.to hs d x h2, Reps.to hs ds xs h3⟩
end

theorem Rep.ext {d : Dat} {cs : List Value} (h : Rep H M d cs) (hf : Fr [] H H') : Rep H' M d cs := Rep.to (Stays.ext hf) d cs h
theorem Rep.stay {d : Dat} {cs : List Value} (h : Rep H M d cs) (hs : Stays H M H' M') : Rep H' M' d cs := Rep.to hs d cs h

theorem Reps.length : ∀ {l : List Dat} {css : List (List Value)}, Reps H M l css → css.length = l.length
  | [], css, h => by simp only [Reps] at h; subst h; rfl
  | d :: ds, css, h => by
    simp only [Reps] at h
    obtain ⟨x, xs, rfl, _, h3⟩ := h
    simp [Reps.length h3]
theorem Reps.get : ∀ {l : List Dat} {css : List (List Value)}, Reps H M l css → ∀ (j : Nat) (hj : j < l.length), ∃ x, css[j]? = some x ∧ Rep H M l[j] x
  | [], css, h, j, hj => by simp at hj
  | d :: ds, css, h, j, hj => by
    simp only [Reps] at h
    obtain ⟨x, xs, rfl, h2, h3⟩ := h
    cases j with
    | zero => exact ⟨x, rfl, h2⟩
    | succ j => simpa using Reps.get h3 j (by simpa using hj)
theorem Reps.append : ∀ {l l' : List Dat} {css css' : List (List Value)}, Reps H M l css → Reps H M l' css' → Reps H M (l ++ l') (css ++ css')
  | [], l', css, css', h, h' => by simp only [Reps] at h; subst h; exact h'
  | d :: ds, l', css, css', h, h' => by
    simp only [Reps] at h
    obtain ⟨x, xs, rfl, h2, h3⟩ := h
    exact ⟨x, xs ++ css', rfl, h2, Reps.append h3 h'⟩
theorem Reps.one {d : Dat} {x : List Value} (h : Rep H M d x) : Reps H M [d] [x] := ⟨x, [], rfl, h, rfl⟩
theorem Reps.take : ∀ {l : List Dat} {css : List (List Value)} (n : Nat), Reps H M l css → Reps H M (l.take n) (css.take n)
  | [], css, n, h => by simp only [Reps] at h; subst h; simp [Reps]
  | d :: ds, css, 0, h => by simp [Reps]
  | d :: ds, css, n + 1, h => by
    simp only [Reps] at h
    obtain ⟨x, xs, rfl, h2, h3⟩ := h
    exact ⟨x, xs.take n, rfl, h2, Reps.take n h3⟩
theorem Reps.drop : ∀ {l : List Dat} {css : List (List Value)} (n : Nat), Reps H M l css → Reps H M (l.drop n) (css.drop n)
  | [], css, n, h => by simp only [Reps] at h; subst h; simp [Reps]
  | d :: ds, css, 0, h => h
  | d :: ds, css, n + 1, h => by
    simp only [Reps] at h
    obtain ⟨x, xs, rfl, h2, h3⟩ := h
    exact Reps.drop n h3

theorem flatten_len {m : Nat} : ∀ {css : List (List Value)}, (∀ x ∈ css, x.length = m) → css.flatten.length = css.length * m
  | [], _ => by simp
  | x :: css, h => by
    have := flatten_len (css := css) fun y hy => h y (by simp [hy])
    simp [this, h x (by simp), Nat.add_mul, Nat.add_comm]
theorem flatten_take {m : Nat} : ∀ {css : List (List Value)} (n : Nat), (∀ x ∈ css, x.length = m) → css.flatten.take (n * m) = (css.take n).flatten
  | [], n, _ => by simp
  | x :: css, 0, h => by simp
  | x :: css, n + 1, h => by
    rw [List.flatten_cons, List.take_succ_cons, List.flatten_cons, ← flatten_take n (fun y hy => h y (by simp [hy])), List.take_append, List.take_of_length_le (by rw [h x (by simp), Nat.add_mul]; omega), h x (by simp)]
    simp [Nat.add_mul]
theorem flatten_drop {m : Nat} : ∀ {css : List (List Value)} (n : Nat), (∀ x ∈ css, x.length = m) → css.flatten.drop (n * m) = (css.drop n).flatten
  | [], n, _ => by simp
  | x :: css, 0, h => by simp
  | x :: css, n + 1, h => by
    rw [List.flatten_cons, List.drop_succ_cons, ← flatten_drop n (fun y hy => h y (by simp [hy])), List.drop_append, List.drop_eq_nil_of_le (by rw [h x (by simp), Nat.add_mul]; omega), h x (by simp)]
    simp [Nat.add_mul]

/-- An element of a slice. -/
theorem Rep.at {m : Nat} {l : List Dat} {v : Value} (h : Rep H M (.list m l) [v]) (j : Nat) (hj : j < l.length) (h0 : 0 < m) :
    ∃ b o c x, v = .slice (some ⟨b, o, none⟩) l.length c ∧ b ∉ M ∧ x.length = m ∧ (∀ i, i < m → cellB H b (o + j * m + i) = x[i]?) ∧ Rep H M l[j] x := by
  simp only [Rep] at h
  obtain ⟨a, c, css, h1, h2, h3, h4, h5, h6⟩ := h
  simp only [List.cons.injEq, and_true] at h1
  have hlen := Reps.length h4
  obtain ⟨x, hx, hr⟩ := Reps.get h4 j hj
  have hxm : x ∈ css := List.mem_of_getElem? hx
  have hxl := h5 x hxm
  have hfl := flatten_len h5
  have hle : (j + 1) * m ≤ l.length * m := Nat.mul_le_mul_right _ hj
  rw [Nat.add_mul, Nat.one_mul] at hle
  rcases h6 with h6 | ⟨b, o, h7, h8, h9⟩
  · rw [h6, hlen] at hfl
    simp only [List.length_nil] at hfl
    omega
  · refine ⟨b, o, c, x, by rw [h1, h7], h8, hxl, fun i hi => ?_, hr⟩
    have hlt : j * m + i < css.flatten.length := by rw [hfl, hlen]; omega
    rw [Nat.add_assoc, h9 _ hlt, ← List.getElem?_eq_getElem hlt]
    have e1 : css.flatten[j * m + i]? = (css.flatten.drop (j * m))[i]? := by simp
    have hj' : j < css.length := by omega
    rw [e1, flatten_drop j h5, List.drop_eq_getElem_cons hj', List.flatten_cons, List.getElem?_append_left (by
      rw [List.getElem?_eq_getElem hj'] at hx; cases hx; omega)]
    rw [List.getElem?_eq_getElem hj'] at hx; cases hx; rfl

theorem Rep.slice {m : Nat} {l : List Dat} {v : Value} (h : Rep H M (.list m l) [v]) : ∃ a c, v = .slice a l.length c ∧ l.length ≤ c ∧ c ≤ maxLen := by
  simp only [Rep] at h
  obtain ⟨a, c, css, h1, h2, h3, _⟩ := h
  simp only [List.cons.injEq, and_true] at h1
  exact ⟨a, c, h1, h2, h3⟩
theorem Rep.nil (m : Nat) : Rep H M (.list m []) [.slice none 0 0] := by
  simp only [Rep]
  exact ⟨none, 0, [], rfl, Nat.le_refl _, by decide, rfl, by simp, .inl rfl⟩
/-- A slice cut off behind. -/
theorem Rep.takeL {m : Nat} {l : List Dat} {a : Option Addr} {n c : Nat} (h : Rep H M (.list m l) [.slice a n c]) {k : Nat} (hk : k ≤ l.length) : Rep H M (.list m (l.take k)) [.slice a k c] := by
  simp only [Rep] at h ⊢
  obtain ⟨a', c', css, h1, h2, h3, h4, h5, h6⟩ := h
  simp only [List.cons.injEq, and_true, Value.slice.injEq] at h1
  obtain ⟨rfl, rfl, rfl⟩ := h1
  refine ⟨a, c, css.take k, by rw [List.length_take, Nat.min_eq_left hk], by rw [List.length_take]; omega, h3, Reps.take k h4, fun x hx => h5 x (List.mem_of_mem_take hx), ?_⟩
  rw [← flatten_take k h5]
  rcases h6 with h6 | ⟨b, o, h7, h8, h9⟩
  · exact .inl (by rw [h6]; simp)
  · refine .inr ⟨b, o, h7, h8, fun j hj => ?_⟩
    simp only [List.length_take] at hj
    rw [h9 j (by omega)]; simp

/-- Rows of one cell or several that hold no slices. -/
def leaf (f : α → List Value) (x : α) : Dat := .agg ((f x).map .v)
theorem reps_leaf : ∀ (l : List Value) (css : List (List Value)), Reps H M (l.map .v) css → css.flatten = l
  | [], css, h => by simp only [List.map_nil, Reps] at h; subst h; rfl
  | x :: l, css, h => by
    simp only [List.map_cons, Reps, Rep] at h
    obtain ⟨y, ys, rfl, rfl, h3⟩ := h
    simp [reps_leaf l ys h3]
theorem rep_leaf {f : α → List Value} {x : α} {cs : List Value} (h : Rep H M (leaf f x) cs) : cs = f x := by
  simp only [leaf, Rep] at h
  obtain ⟨css, h1, h2⟩ := h
  rw [h1, reps_leaf _ _ h2]

theorem reps_flat {f : α → Dat} {g : α → List Value} (hfg : ∀ x cs, Rep H M (f x) cs → cs = g x) : ∀ {l : List α} {css : List (List Value)}, Reps H M (l.map f) css → css.flatten = l.flatMap g
  | [], css, h => by simp only [List.map_nil, Reps] at h; subst h; rfl
  | x :: l, css, h => by
    simp only [List.map_cons, Reps] at h
    obtain ⟨y, ys, rfl, h2, h3⟩ := h
    simp [reps_flat hfg h3, hfg x y h2]
/-- A slice of such elements, as a row. -/
theorem Rep.row {f : α → Dat} {g : α → List Value} {m : Nat} (hfg : ∀ x cs, Rep H M (f x) cs → cs = g x) {l : List α} {v : Value} (h : Rep H M (.list m (l.map f)) [v]) :
    ∃ a c, v = .slice a l.length c ∧ l.length ≤ c ∧ c ≤ maxLen ∧ RowR g H a l := by
  simp only [Rep] at h
  obtain ⟨a, c, css, h1, h2, h3, h4, h5, h6⟩ := h
  simp only [List.cons.injEq, and_true, List.length_map] at h1 h2
  refine ⟨a, c, h1, h2, h3, ?_⟩
  unfold RowR
  rw [← reps_flat hfg h4]
  exact h6.csR
end
end Gx
end
section
/-
  DERIVED: THE SHELF's CONTRACTS AT THIS DUMP, IN PLAIN WORDS (tools/lay-plain.mjs out of 'TrydShelf.lean', which tools/lay-shelf.mjs wrote): THE SAME DECLARATIONS UNDER THE SAME NAMES: 'import', 'namespace', 'open', 'def', 'theorem' AND NOTHING ELSE: no command of the shelf's: FOR A HAND-IN. Each laying: the table of numbers ('.._ren') and one theorem, a field a fact of the dump's own or the kernel's comparison; each contract: ONE APPLICATION.
-/
namespace Go.Proofs
def Tryd.lays156_ren : Go.Shelf.Ren := ⟨fun | 156 => 32 | 165 => 53 | 166 => 54 | 169 => 55 | 240 => 72 | 241 => 73 | 276 => 84 | 277 => 85 | n => n, fun | 31 => 62 | 9 => 9 | 3 => 3 | 4 => 4 | 0 => 0 | 20 => 20 | 72 => 81 | 76 => 85 | 70 => 78 | 37 => 79 | 75 => 84 | 127 => 98 | 164 => 108 | 5 => 5 | 80 => 87 | n => n, fun | n => n⟩
theorem Tryd.lays156 : Go.Proofs.Lays.n156 Tryd.prog Tryd.lays156_ren := {
  mixed := by kernel_rfl
  f156 := Tryd.func32.trans (congrArg some (by kernel_rfl))
  f165 := Tryd.func53.trans (congrArg some (by kernel_rfl))
  f166 := Tryd.func54.trans (congrArg some (by kernel_rfl))
  f169 := Tryd.func55.trans (congrArg some (by kernel_rfl))
  f240 := Tryd.func72.trans (congrArg some (by kernel_rfl))
  f241 := Tryd.func73.trans (congrArg some (by kernel_rfl))
  f276 := Tryd.func84.trans (congrArg some (by kernel_rfl))
  f277 := Tryd.func85.trans (congrArg some (by kernel_rfl))
  t0 := Tryd.underlying0
  a0 := Tryd.isAgg0
  z0 := Tryd.sizeOf0
  v0 := Tryd.zeroValue0
  t3 := Tryd.underlying3
  a3 := Tryd.isAgg3
  z3 := Tryd.sizeOf3
  v3 := Tryd.zeroValue3
  t4 := Tryd.underlying4
  a4 := Tryd.isAgg4
  z4 := Tryd.sizeOf4
  v4 := Tryd.zeroValue4
  t9 := Tryd.underlying9
  a9 := Tryd.isAgg9
  z9 := Tryd.sizeOf9
  v9 := Tryd.zeroValue9
  t20 := Tryd.underlying20
  a20 := Tryd.isAgg20
  z20 := Tryd.sizeOf20
  v20 := Tryd.zeroValue20
  t31 := Tryd.underlying62
  a31 := Tryd.isAgg62
  z31 := Tryd.sizeOf62
  v31 := Tryd.zeroValue62
  t37 := Tryd.underlying79
  a37 := Tryd.isAgg79
  z37 := Tryd.sizeOf79
  v37 := Tryd.zeroValue79
  t70 := Tryd.underlying78
  a70 := Tryd.isAgg78
  z70 := Tryd.sizeOf78
  v70 := Tryd.zeroValue78
  t72 := Tryd.underlying81
  a72 := Tryd.isAgg81
  z72 := Tryd.sizeOf81
  v72 := Tryd.zeroValue81
  t75 := Tryd.underlying84
  a75 := Tryd.isAgg84
  z75 := Tryd.sizeOf84
  v75 := Tryd.zeroValue84
  t76 := Tryd.underlying85
  a76 := Tryd.isAgg85
  z76 := Tryd.sizeOf85
  v76 := Tryd.zeroValue85
  t127 := Tryd.underlying98
  a127 := Tryd.isAgg98
  z127 := Tryd.sizeOf98
  v127 := Tryd.zeroValue98
  t164 := Tryd.underlying108
  a164 := Tryd.isAgg108
  z164 := Tryd.sizeOf108
  v164 := Tryd.zeroValue108 }
theorem Tryd.Builder_Extra_156 : Builder.Extra Tryd.prog Tryd.lays156_ren := {
  sizeBuilder := by kernel_rfl
  liesBuilder := by kernel_rfl
  t5 := Tryd.underlying5
  a5 := Tryd.isAgg5
  z5 := Tryd.sizeOf5
  v5 := Tryd.zeroValue5
  infoByte := by kernel_rfl
  cellsByte := by kernel_rfl
  sizeByte := by kernel_rfl
  neB5 := by decide }
open Go.RowKit in
/-- No element: the empty string; the world is as it was. (Whatever the slice's address and capacity: a nil slice too.) (LAID: no walk: one application.) -/
theorem Tryd.strings_Join_none (a : Option Addr) (c : Nat) (sep : ByteArray) (w : World) :
    Calls Tryd.prog 32 #[.slice a 0 c, .string sep] w fun e w' => e = .returned (.string ⟨#[]⟩) ∧ w' = w := Any.strings_Join_none Tryd.lays156 Tryd.Builder_Extra_156 a c sep w
open Go.RowKit in
/-- strings.Join: "Join concatenates the elements of its first argument to create a single string. The separator string sep is placed between elements in the resulting string.": HOWEVER MANY ELEMENTS. Below the heap's end the world is as it was. (LAID: no walk: one application.) -/
theorem Tryd.strings_Join (bk o c : Nat) (xs : List ByteArray) (sep : ByteArray) (w : World) (hcells : ∀ (j : Nat) x, xs[j]? = some x → w.cell? ⟨bk, o + j, none⟩ = some (.string x)) (hbk : bk < w.heap.size) (hN : xs.length ≤ 140737488355328) (hcap : xs.length ≤ c) (hlen : (Lib.join (xs.map (·.data.toList)) sep.data.toList).length ≤ 140737488355328) :
    Calls Tryd.prog 32 #[.slice (some ⟨bk, o, none⟩) xs.length c, .string sep] w fun e w' => e = .returned (.string ⟨(Lib.join (xs.map (·.data.toList)) sep.data.toList).toArray⟩) ∧ Below w.heap.size w w' := Any.strings_Join Tryd.lays156 Tryd.Builder_Extra_156 bk o c xs sep w hcells hbk hN hcap hlen
def Tryd.laysM173_ren : Go.Shelf.Ren := ⟨fun | 173 => 51 | 246 => 71 | 283 => 80 | 284 => 81 | 285 => 82 | 286 => 83 | 129 => 93 | 317 => 92 | 318 => 94 | 319 => 95 | 320 => 96 | 337 => 103 | 338 => 104 | n => n, fun | 2 => 2 | 3 => 3 | 9 => 9 | 4 => 4 | 171 => 102 | 0 => 0 | 53 => 103 | 37 => 79 | 5 => 5 | 173 => 106 | 212 => 119 | 51 => 120 | 20 => 20 | 213 => 121 | 46 => 42 | 232 => 133 | 233 => 134 | n => n, fun | 17 => 0 | 18 => 4 | 19 => 5 | n => n⟩
theorem Tryd.laysM173 : Go.Proofs.LaysM.n173 Tryd.prog Tryd.laysM173_ren := {
  mixed := by kernel_rfl
  f129 := Tryd.func93.trans (congrArg some (by kernel_rfl))
  f173 := Tryd.func51.trans (congrArg some (by kernel_rfl))
  f246 := Tryd.func71.trans (congrArg some (by kernel_rfl))
  f283 := Tryd.func80.trans (congrArg some (by kernel_rfl))
  f284 := Tryd.func81.trans (congrArg some (by kernel_rfl))
  f285 := Tryd.func82.trans (congrArg some (by kernel_rfl))
  f286 := Tryd.func83.trans (congrArg some (by kernel_rfl))
  f317 := Tryd.func92.trans (congrArg some (by kernel_rfl))
  f318 := Tryd.func94.trans (congrArg some (by kernel_rfl))
  f319 := Tryd.func95.trans (congrArg some (by kernel_rfl))
  f320 := Tryd.func96.trans (congrArg some (by kernel_rfl))
  f337 := Tryd.func103.trans (congrArg some (by kernel_rfl))
  f338 := Tryd.func104.trans (congrArg some (by kernel_rfl))
  t0 := Tryd.underlying0
  a0 := Tryd.isAgg0
  z0 := Tryd.sizeOf0
  v0 := Tryd.zeroValue0
  t2 := Tryd.underlying2
  a2 := Tryd.isAgg2
  z2 := Tryd.sizeOf2
  v2 := Tryd.zeroValue2
  t3 := Tryd.underlying3
  a3 := Tryd.isAgg3
  z3 := Tryd.sizeOf3
  v3 := Tryd.zeroValue3
  t4 := Tryd.underlying4
  a4 := Tryd.isAgg4
  z4 := Tryd.sizeOf4
  v4 := Tryd.zeroValue4
  t5 := Tryd.underlying5
  a5 := Tryd.isAgg5
  z5 := Tryd.sizeOf5
  v5 := Tryd.zeroValue5
  t9 := Tryd.underlying9
  a9 := Tryd.isAgg9
  z9 := Tryd.sizeOf9
  v9 := Tryd.zeroValue9
  t20 := Tryd.underlying20
  a20 := Tryd.isAgg20
  z20 := Tryd.sizeOf20
  v20 := Tryd.zeroValue20
  t37 := Tryd.underlying79
  a37 := Tryd.isAgg79
  z37 := Tryd.sizeOf79
  v37 := Tryd.zeroValue79
  t46 := Tryd.underlying42
  a46 := Tryd.isAgg42
  z46 := Tryd.sizeOf42
  v46 := Tryd.zeroValue42
  t51 := Tryd.underlying120
  a51 := Tryd.isAgg120
  z51 := Tryd.sizeOf120
  v51 := Tryd.zeroValue120
  t53 := Tryd.underlying103
  a53 := Tryd.isAgg103
  z53 := Tryd.sizeOf103
  v53 := Tryd.zeroValue103
  t171 := Tryd.underlying102
  a171 := Tryd.isAgg102
  z171 := Tryd.sizeOf102
  v171 := Tryd.zeroValue102
  t173 := Tryd.underlying106
  a173 := Tryd.isAgg106
  z173 := Tryd.sizeOf106
  v173 := Tryd.zeroValue106
  t212 := Tryd.underlying119
  a212 := Tryd.isAgg119
  z212 := Tryd.sizeOf119
  v212 := Tryd.zeroValue119
  t213 := Tryd.underlying121
  a213 := Tryd.isAgg121
  z213 := Tryd.sizeOf121
  t232 := Tryd.underlying133
  a232 := Tryd.isAgg133
  z232 := Tryd.sizeOf133
  v232 := Tryd.zeroValue133
  t233 := Tryd.underlying134
  a233 := Tryd.isAgg134
  z233 := Tryd.sizeOf134
  v233 := Tryd.zeroValue134
  g17 := by kernel_rfl
  g18 := by kernel_rfl
  g19 := by kernel_rfl
  i0 := by kernel_rfl
  i2 := by kernel_rfl
  i3 := by kernel_rfl
  i4 := by kernel_rfl
  i5 := by kernel_rfl
  i9 := by kernel_rfl
  i20 := by kernel_rfl
  i37 := by kernel_rfl
  i46 := by kernel_rfl
  i51 := by kernel_rfl
  i53 := by kernel_rfl
  i171 := by kernel_rfl
  i173 := by kernel_rfl
  i212 := by kernel_rfl
  i232 := by kernel_rfl
  i233 := by kernel_rfl
  m17 := by kernel_rfl
  m18 := by kernel_rfl
  m19 := by kernel_rfl }
open Go.RowKit Go.Sort Go.Lib in
/-- strconv.FormatInt: "FormatInt returns the string representation of i in the given base": AT BASE 10: i's decimal numeral, for every int64. (LAID: no walk: one application.) -/
theorem Tryd.strconv_FormatInt_10 (n : Int) (h0 : -9223372036854775808 ≤ n) (h1 : n ≤ 9223372036854775807) (w : World) (htab : Lib.TabIs Tryd.prog w "internal/strconv.uint64pow10" .u64 Lib.pow10Tab) :
    Calls Tryd.prog 51 #[.int .i64 n, .int .i64 10] w fun e w' => e = .returned (.string ⟨(Lib.itoa n).toArray⟩) ∧ ∃ k os, w' = grow (w.drewN k) os := Any.strconv_FormatInt_10 Tryd.laysM173 n h0 h1 w htab
def Tryd.laysC174_ren : Go.Shelf.Ren := ⟨fun | 174 => 64 | 247 => 75 | 245 => 76 | 287 => 87 | 279 => 88 | 280 => 89 | 281 => 90 | 282 => 91 | 321 => 98 | 322 => 99 | 316 => 100 | 171 => 102 | 205 => 101 | 243 => 106 | 246 => 71 | 283 => 80 | 284 => 81 | 285 => 82 | 286 => 83 | 129 => 93 | 317 => 92 | 318 => 94 | 319 => 95 | 320 => 96 | 337 => 103 | 338 => 104 | n => n, fun | 9 => 9 | 3 => 3 | 2 => 2 | 75 => 84 | 85 => 93 | 4 => 4 | 167 => 111 | 5 => 5 | 53 => 103 | 175 => 112 | 46 => 42 | 168 => 114 | 37 => 79 | 0 => 0 | 210 => 127 | 21 => 21 | 127 => 98 | 145 => 132 | 143 => 130 | 171 => 102 | 173 => 106 | 212 => 119 | 51 => 120 | 20 => 20 | 213 => 121 | 232 => 133 | 233 => 134 | 80 => 87 | n => n, fun | 15 => 2 | 16 => 3 | 17 => 0 | 18 => 4 | 19 => 5 | n => n⟩
theorem Tryd.laysC174 : Go.Proofs.LaysC.n174 Tryd.prog Tryd.laysC174_ren := {
  mixed := by kernel_rfl
  f129 := Tryd.func93.trans (congrArg some (by kernel_rfl))
  f171 := Tryd.func102.trans (congrArg some (by kernel_rfl))
  f174 := Tryd.func64.trans (congrArg some (by kernel_rfl))
  f205 := Tryd.func101.trans (congrArg some (by kernel_rfl))
  f243 := Tryd.func106.trans (congrArg some (by kernel_rfl))
  f245 := Tryd.func76.trans (congrArg some (by kernel_rfl))
  f246 := Tryd.func71.trans (congrArg some (by kernel_rfl))
  f247 := Tryd.func75.trans (congrArg some (by kernel_rfl))
  f279 := Tryd.func88.trans (congrArg some (by kernel_rfl))
  f280 := Tryd.func89.trans (congrArg some (by kernel_rfl))
  f281 := Tryd.func90.trans (congrArg some (by kernel_rfl))
  f282 := Tryd.func91.trans (congrArg some (by kernel_rfl))
  f283 := Tryd.func80.trans (congrArg some (by kernel_rfl))
  f284 := Tryd.func81.trans (congrArg some (by kernel_rfl))
  f285 := Tryd.func82.trans (congrArg some (by kernel_rfl))
  f286 := Tryd.func83.trans (congrArg some (by kernel_rfl))
  f287 := Tryd.func87.trans (congrArg some (by kernel_rfl))
  f316 := Tryd.func100.trans (congrArg some (by kernel_rfl))
  f317 := Tryd.func92.trans (congrArg some (by kernel_rfl))
  f318 := Tryd.func94.trans (congrArg some (by kernel_rfl))
  f319 := Tryd.func95.trans (congrArg some (by kernel_rfl))
  f320 := Tryd.func96.trans (congrArg some (by kernel_rfl))
  f321 := Tryd.func98.trans (congrArg some (by kernel_rfl))
  f322 := Tryd.func99.trans (congrArg some (by kernel_rfl))
  f337 := Tryd.func103.trans (congrArg some (by kernel_rfl))
  f338 := Tryd.func104.trans (congrArg some (by kernel_rfl))
  t0 := Tryd.underlying0
  a0 := Tryd.isAgg0
  z0 := Tryd.sizeOf0
  v0 := Tryd.zeroValue0
  t2 := Tryd.underlying2
  a2 := Tryd.isAgg2
  z2 := Tryd.sizeOf2
  v2 := Tryd.zeroValue2
  t3 := Tryd.underlying3
  a3 := Tryd.isAgg3
  z3 := Tryd.sizeOf3
  v3 := Tryd.zeroValue3
  t4 := Tryd.underlying4
  a4 := Tryd.isAgg4
  z4 := Tryd.sizeOf4
  v4 := Tryd.zeroValue4
  t5 := Tryd.underlying5
  a5 := Tryd.isAgg5
  z5 := Tryd.sizeOf5
  v5 := Tryd.zeroValue5
  t9 := Tryd.underlying9
  a9 := Tryd.isAgg9
  z9 := Tryd.sizeOf9
  v9 := Tryd.zeroValue9
  t20 := Tryd.underlying20
  a20 := Tryd.isAgg20
  z20 := Tryd.sizeOf20
  v20 := Tryd.zeroValue20
  t21 := Tryd.underlying21
  a21 := Tryd.isAgg21
  z21 := Tryd.sizeOf21
  v21 := Tryd.zeroValue21
  t37 := Tryd.underlying79
  a37 := Tryd.isAgg79
  z37 := Tryd.sizeOf79
  v37 := Tryd.zeroValue79
  t46 := Tryd.underlying42
  a46 := Tryd.isAgg42
  z46 := Tryd.sizeOf42
  v46 := Tryd.zeroValue42
  t51 := Tryd.underlying120
  a51 := Tryd.isAgg120
  z51 := Tryd.sizeOf120
  v51 := Tryd.zeroValue120
  t53 := Tryd.underlying103
  a53 := Tryd.isAgg103
  z53 := Tryd.sizeOf103
  v53 := Tryd.zeroValue103
  t75 := Tryd.underlying84
  a75 := Tryd.isAgg84
  z75 := Tryd.sizeOf84
  v75 := Tryd.zeroValue84
  t85 := Tryd.underlying93
  a85 := Tryd.isAgg93
  z85 := Tryd.sizeOf93
  v85 := Tryd.zeroValue93
  t127 := Tryd.underlying98
  a127 := Tryd.isAgg98
  z127 := Tryd.sizeOf98
  v127 := Tryd.zeroValue98
  t143 := Tryd.underlying130
  a143 := Tryd.isAgg130
  z143 := Tryd.sizeOf130
  v143 := Tryd.zeroValue130
  t145 := Tryd.underlying132
  a145 := Tryd.isAgg132
  z145 := Tryd.sizeOf132
  v145 := Tryd.zeroValue132
  t167 := Tryd.underlying111
  a167 := Tryd.isAgg111
  z167 := Tryd.sizeOf111
  v167 := Tryd.zeroValue111
  t168 := Tryd.underlying114
  a168 := Tryd.isAgg114
  z168 := Tryd.sizeOf114
  v168 := Tryd.zeroValue114
  t171 := Tryd.underlying102
  a171 := Tryd.isAgg102
  z171 := Tryd.sizeOf102
  v171 := Tryd.zeroValue102
  t173 := Tryd.underlying106
  a173 := Tryd.isAgg106
  z173 := Tryd.sizeOf106
  v173 := Tryd.zeroValue106
  t175 := Tryd.underlying112
  a175 := Tryd.isAgg112
  z175 := Tryd.sizeOf112
  v175 := Tryd.zeroValue112
  t210 := Tryd.underlying127
  a210 := Tryd.isAgg127
  z210 := Tryd.sizeOf127
  v210 := Tryd.zeroValue127
  t212 := Tryd.underlying119
  a212 := Tryd.isAgg119
  z212 := Tryd.sizeOf119
  v212 := Tryd.zeroValue119
  t213 := Tryd.underlying121
  a213 := Tryd.isAgg121
  z213 := Tryd.sizeOf121
  t232 := Tryd.underlying133
  a232 := Tryd.isAgg133
  z232 := Tryd.sizeOf133
  v232 := Tryd.zeroValue133
  t233 := Tryd.underlying134
  a233 := Tryd.isAgg134
  z233 := Tryd.sizeOf134
  v233 := Tryd.zeroValue134
  g15 := by kernel_rfl
  g16 := by kernel_rfl
  g17 := by kernel_rfl
  g18 := by kernel_rfl
  g19 := by kernel_rfl
  t80 := Tryd.underlying87
  a80 := Tryd.isAgg87
  z80 := Tryd.sizeOf87
  v80 := Tryd.zeroValue87
  i0 := by kernel_rfl
  i2 := by kernel_rfl
  i3 := by kernel_rfl
  i4 := by kernel_rfl
  i5 := by kernel_rfl
  i9 := by kernel_rfl
  i20 := by kernel_rfl
  i21 := by kernel_rfl
  i37 := by kernel_rfl
  i46 := by kernel_rfl
  i51 := by kernel_rfl
  i53 := by kernel_rfl
  i75 := by kernel_rfl
  i80 := by kernel_rfl
  i85 := by kernel_rfl
  i127 := by kernel_rfl
  i143 := by kernel_rfl
  i145 := by kernel_rfl
  i167 := by kernel_rfl
  i168 := by kernel_rfl
  i171 := by kernel_rfl
  i173 := by kernel_rfl
  i175 := by kernel_rfl
  i210 := by kernel_rfl
  i212 := by kernel_rfl
  i232 := by kernel_rfl
  i233 := by kernel_rfl
  m15 := by kernel_rfl
  m16 := by kernel_rfl
  m17 := by kernel_rfl
  m18 := by kernel_rfl
  m19 := by kernel_rfl
  c0 := by kernel_rfl
  c2 := by kernel_rfl
  c3 := by kernel_rfl
  c4 := by kernel_rfl
  c5 := by kernel_rfl
  c9 := by kernel_rfl
  c20 := by kernel_rfl
  c21 := by kernel_rfl
  c37 := by kernel_rfl
  c46 := by kernel_rfl
  c51 := by kernel_rfl
  c53 := by kernel_rfl
  c75 := by kernel_rfl
  c80 := by kernel_rfl
  c85 := by kernel_rfl
  c127 := by kernel_rfl
  c143 := by kernel_rfl
  c145 := by kernel_rfl
  c167 := by kernel_rfl
  c168 := by kernel_rfl
  c171 := by kernel_rfl
  c173 := by kernel_rfl
  c175 := by kernel_rfl
  c210 := by kernel_rfl
  c212 := by kernel_rfl
  c213 := by kernel_rfl
  c232 := by kernel_rfl
  c233 := by kernel_rfl }
open Go.RowKit in
/-- strconv.ParseInt(s, 10, 64), AT EVERY STRING THAT SPELLS AN int64 ('Lib.parseIntB 64 s.data.toList = .ok v'): v, AND NO ERROR. (LAID: no walk: one application.) -/
theorem Tryd.strconv_ParseInt_10_at64_ok (s : ByteArray) (hmax : s.size ≤ 9223372036854775806) (v : Int) (h : Lib.parseIntB 64 s.data.toList = .ok v) (w : World) :
    Calls Tryd.prog 64 #[.string s, .int .i64 10, .int .i64 64] w fun e w' => e = .returned (.tuple #[.int .i64 v, .nilIface]) ∧ (w' = w ∨ ∃ t, w' = Lib.bytesWorld w 5 t) := Any.strconv_ParseInt_10_at64_ok Tryd.laysC174 s hmax v h w
open Go.RowKit in
/-- strconv.ParseInt(s, 10, 64), AT EVERY NUMERAL THAT NO int64 HOLDS: THE GREATEST OR THE LEAST int64, BY THE SIGN ('Lib.intSat 64'), AND AN ERROR THAT IS NOT nil: a *NumError in a new block N: {Func: "ParseInt", Num: s's bytes, Err: what the variable ErrRange holds}. Of what was there nothing has turned. (LAID: no walk: one application.) -/
theorem Tryd.strconv_ParseInt_10_at64_range (s : ByteArray) (hlim : s.size ≤ 281474976710656) (h : Lib.parseIntB 64 s.data.toList = .range) (ev : Value) (w : World) (hv : w.cell? ⟨3, 0, none⟩ = some ev) (hev : ev = .nilIface ∨ ∃ te pe, ev = .iface te pe) :
    Calls Tryd.prog 64 #[.string s, .int .i64 10, .int .i64 64] w fun e w' => ∃ N, e = .returned (.tuple #[.int .i64 (Lib.intSat 64 s.data.toList), .iface 114 (.pointer (some ⟨N, 0, none⟩))]) ∧ w.heap.size ≤ N ∧ w'.heap[N]? = some (.cells #[.string ⟨#[80, 97, 114, 115, 101, 73, 110, 116]⟩, .string s, ev] 127 (0, 0)) ∧ Below w.heap.size w w' := Any.strconv_ParseInt_10_at64_range Tryd.laysC174 s hlim h ev w hv hev
end Go.Proofs
end
