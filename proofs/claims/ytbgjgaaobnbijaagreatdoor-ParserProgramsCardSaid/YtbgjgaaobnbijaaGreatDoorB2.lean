import Derived.Test.YtbgjgaaobnbijaaGreatDoorB1
import Derived.Deep.AppendSrc
import Derived.Test.YtbgjgaaobnbijaaGreatDoorProg
import Derived.Carry
import Derived.OpenShut
import Derived.Handed
import Derived.Shelf.Strconv.Itoa0
import Derived.Shelf.Strconv.Itoa1
import Derived.Shelf.LaysM
import Derived.Shelf.Strconv.Itoa2
import Derived.Shelf.Strconv.Itoa3
import Derived.Shelf.Strconv.ParseIntEmpty
import Derived.Shelf.Strconv.Clone
import Derived.Shelf.Strconv.SyntaxError
import Derived.Shelf.LaysC
import Derived.Shelf.Strconv.ToError
import Derived.Shelf.Strconv.Lower
import Derived.Shelf.Strconv.ParseUint10
import Derived.Shelf.Strconv.ParseUint10Empty
import Derived.Shelf.Strconv.ParseUint10Any
import Derived.Shelf.Strconv.ParseInt10
import Derived.Shelf.Strconv.RangeError
import Derived.Shelf.Strconv.ToErrorRange
import Derived.Shelf.Strconv.ParseUintEmpty
import Derived.Shelf.Strconv.ParseUint10b64
import Derived.Shelf.Strconv.ParseUint10b32
import Derived.Shelf.Strconv.ParseUint10b16
import Derived.Shelf.Strconv.ParseUint10b8
import Derived.Shelf.Strconv.ParseUint10At
import Derived.Shelf.Strconv.ParseInt10At64
import Derived.Shelf.Strconv.ParseInt10At32
import Derived.Shelf.Strconv.ParseInt10At16
import Derived.Shelf.Strconv.ParseInt10At8
import Derived.Shelf.Strconv.ParseInt10All
import Derived.Shelf.Strconv.ParseIntPublic10
section
/- The rules by which simp goes through stripped code. -/
namespace Gx
open Go

def vcK (P : Program) (E : Chain → Heap → Prop) (b : SCode) (Q : Post) : Slots → Heap → Prop := fun σ H => vc P E b σ H Q

def retK (P : Program) (E : Chain → Heap → Prop) (d : Dst) (r : List GOp) (σ : Slots) (τ : List Value) (K : Slots → Heap → Prop) : Value → Heap → Prop :=
  fun v H' => vcOps P E r (putS d v σ) (putT d v τ) H' K

def gdN (P : Program) (E : Chain → Heap → Prop) (t : Opd) (b fr : Bool) (d : Dst) (s : SOp Opd) (r : List GOp) (σ : Slots) (τ : List Value) (H : Heap) (K : Slots → Heap → Prop) : Option (Option Bool) → Prop
  | some (some c) => (c = b → s.vc P E (evO (gS fr t (.bool b) σ) (gT fr t (.bool b) τ)) H (retK P E d r (gS fr t (.bool b) σ) (gT fr t (.bool b) τ) K)) ∧
      (c = (!b) → vcOps P E r (putS d undef (gS fr t (.bool (!b)) σ)) (putT d undef (gT fr t (.bool (!b)) τ)) H K)
  | some none => vcOps P E r (putS d undef σ) (putT d undef τ) H K
  | none => False

def rdD (P : Program) (E : Chain → Heap → Prop) (next : DT) (d : Dst) (s : SOp Opd) (D : List Nat) (pend : Pend) (σ : Slots) (τ : List Value) (H : Heap) (K : Slots → Heap → Prop) : Option (Prop × Value) → Prop
  | some (p, v) => p ∧ vcD P E next (s.held (evO σ τ) D v pend) (putS d v σ) (putT d v τ) H K
  | none => False

def efK (P : Program) (E : Chain → Heap → Prop) (next : DT) (d : Dst) (pend : Pend) (σ : Slots) (τ : List Value) (K : Slots → Heap → Prop) : Value → Heap → Prop :=
  fun v H' => pendOk H' pend ∧ vcD P E next pend (putS d v σ) (putT d v τ) H' K

def gdRd (P : Program) (E : Chain → Heap → Prop) (t : Opd) (b : Bool) (next : DT) (d : Dst) (s : SOp Opd) (D : List Nat) (pend : Pend) (σ : Slots) (τ : List Value) (H : Heap) (K : Slots → Heap → Prop) : Option (Option Bool) → Prop
  | some (some c) => (c = b → rdD P E next d s D pend (setS t (.bool b) σ) (setT t (.bool b) τ) H K (s.rd (evO (setS t (.bool b) σ) (setT t (.bool b) τ)) H)) ∧
      (c = (!b) → vcD P E next pend (putS d undef (setS t (.bool (!b)) σ)) (putT d undef (setT t (.bool (!b)) τ)) H K)
  | some none => vcD P E next pend (putS d undef σ) (putT d undef τ) H K
  | none => False

def gdEf (P : Program) (E : Chain → Heap → Prop) (t : Opd) (b : Bool) (next : DT) (d : Dst) (s : SOp Opd) (pend : Pend) (σ : Slots) (τ : List Value) (H : Heap) (K : Slots → Heap → Prop) : Option (Option Bool) → Prop
  | some (some c) => (c = b → s.vc P E (evO (setS t (.bool b) σ) (setT t (.bool b) τ)) H (efK P E next d pend (setS t (.bool b) σ) (setT t (.bool b) τ) K)) ∧
      (c = (!b) → vcD P E next pend (putS d undef (setS t (.bool (!b)) σ)) (putT d undef (setT t (.bool (!b)) τ)) H K)
  | some none => vcD P E next pend (putS d undef σ) (putT d undef τ) H K
  | none => False

section
variable {P : Program} {E : Chain → Heap → Prop} {σ : Slots} {τ : List Value} {H : Heap} {Q : Post} {K : Slots → Heap → Prop}

@[go_sem] theorem vc_de (t : DT) : vc P E (.de t) σ H Q = vcD P E t [] σ [] H (nrmK Q) := rfl
@[go_sem] theorem vcD_done (pend : Pend) : vcD P E .done pend σ τ H K = K σ H := rfl
@[go_sem] theorem vcD_rd (d : Dst) (s : SOp Opd) (D : List Nat) (next : DT) (pend : Pend) : vcD P E (.rd none d s D next) pend σ τ H K = rdD P E next d s D pend σ τ H K (s.rd (evO σ τ) H) := by
  simp only [vcD, rdD, rdK]; cases s.rd (evO σ τ) H <;> rfl
@[go_sem] theorem vcD_rdg (t : Opd) (b : Bool) (d : Dst) (s : SOp Opd) (D : List Nat) (next : DT) (pend : Pend) : vcD P E (.rd (some (t, b)) d s D next) pend σ τ H K = gdRd P E t b next d s D pend σ τ H K (guardOf (evO σ τ t)) := by
  simp only [vcD, gdRd, rdD, rdK]
  cases guardOf (evO σ τ t) with
  | none => rfl
  | some x =>
    cases x with
    | none => rfl
    | some c =>
      simp only
      congr 1
      cases s.rd (evO (setS t (.bool b) σ) (setT t (.bool b) τ)) H <;> rfl
@[go_sem] theorem vcD_ef (i : Nat) (d : Dst) (s : SOp Opd) (next : DT) (pend : Pend) : vcD P E (.ef i none d s next) pend σ τ H K = s.vc P E (evO σ τ) H (efK P E next d (pendDrop i pend) σ τ K) := rfl
@[go_sem] theorem vcD_efg (i : Nat) (t : Opd) (b : Bool) (d : Dst) (s : SOp Opd) (next : DT) (pend : Pend) : vcD P E (.ef i (some (t, b)) d s next) pend σ τ H K = gdEf P E t b next d s (pendDrop i pend) σ τ H K (guardOf (evO σ τ t)) := by
  simp only [vcD, gdEf]
  cases guardOf (evO σ τ t) with
  | none => rfl
  | some x => cases x <;> rfl
@[go_sem] theorem vcD_br (a b : DT) (pend : Pend) : vcD P E (.br a b) pend σ τ H K = (vcD P E a pend σ τ H K ∧ vcD P E b pend σ τ H K) := rfl
@[go_sem] theorem rdD_some (next : DT) (d : Dst) (s : SOp Opd) (D : List Nat) (pend : Pend) (p : Prop) (v : Value) : rdD P E next d s D pend σ τ H K (some (p, v)) = (p ∧ vcD P E next (s.held (evO σ τ) D v pend) (putS d v σ) (putT d v τ) H K) := rfl
@[go_sem] theorem efK_app (next : DT) (d : Dst) (pend : Pend) (v : Value) (H' : Heap) : efK P E next d pend σ τ K v H' = (pendOk H' pend ∧ vcD P E next pend (putS d v σ) (putT d v τ) H' K) := rfl
@[go_sem] theorem gdRd_bool (t : Opd) (b : Bool) (next : DT) (d : Dst) (s : SOp Opd) (D : List Nat) (pend : Pend) (c : Bool) : gdRd P E t b next d s D pend σ τ H K (some (some c)) =
    ((c = b → rdD P E next d s D pend (setS t (.bool b) σ) (setT t (.bool b) τ) H K (s.rd (evO (setS t (.bool b) σ) (setT t (.bool b) τ)) H)) ∧ (c = (!b) → vcD P E next pend (putS d undef (setS t (.bool (!b)) σ)) (putT d undef (setT t (.bool (!b)) τ)) H K)) := rfl
@[go_sem 2000] theorem gdRd_hit_true (t : Opd) (next : DT) (d : Dst) (s : SOp Opd) (D : List Nat) (pend : Pend) : gdRd P E t true next d s D pend σ τ H K (some (some true)) = rdD P E next d s D pend (setS t (.bool true) σ) (setT t (.bool true) τ) H K (s.rd (evO (setS t (.bool true) σ) (setT t (.bool true) τ)) H) := by simp [gdRd]
@[go_sem 2000] theorem gdRd_miss_true (t : Opd) (next : DT) (d : Dst) (s : SOp Opd) (D : List Nat) (pend : Pend) : gdRd P E t true next d s D pend σ τ H K (some (some false)) = vcD P E next pend (putS d undef (setS t (.bool false) σ)) (putT d undef (setT t (.bool false) τ)) H K := by simp [gdRd]
@[go_sem 2000] theorem gdEf_hit_true (t : Opd) (next : DT) (d : Dst) (s : SOp Opd) (pend : Pend) : gdEf P E t true next d s pend σ τ H K (some (some true)) = s.vc P E (evO (setS t (.bool true) σ) (setT t (.bool true) τ)) H (efK P E next d pend (setS t (.bool true) σ) (setT t (.bool true) τ) K) := by simp [gdEf]
@[go_sem 2000] theorem gdEf_miss_true (t : Opd) (next : DT) (d : Dst) (s : SOp Opd) (pend : Pend) : gdEf P E t true next d s pend σ τ H K (some (some false)) = vcD P E next pend (putS d undef (setS t (.bool false) σ)) (putT d undef (setT t (.bool false) τ)) H K := by simp [gdEf]
@[go_sem 2000] theorem gdRd_hit_false (t : Opd) (next : DT) (d : Dst) (s : SOp Opd) (D : List Nat) (pend : Pend) : gdRd P E t false next d s D pend σ τ H K (some (some false)) = rdD P E next d s D pend (setS t (.bool false) σ) (setT t (.bool false) τ) H K (s.rd (evO (setS t (.bool false) σ) (setT t (.bool false) τ)) H) := by simp [gdRd]
@[go_sem 2000] theorem gdRd_miss_false (t : Opd) (next : DT) (d : Dst) (s : SOp Opd) (D : List Nat) (pend : Pend) : gdRd P E t false next d s D pend σ τ H K (some (some true)) = vcD P E next pend (putS d undef (setS t (.bool true) σ)) (putT d undef (setT t (.bool true) τ)) H K := by simp [gdRd]
@[go_sem 2000] theorem gdEf_hit_false (t : Opd) (next : DT) (d : Dst) (s : SOp Opd) (pend : Pend) : gdEf P E t false next d s pend σ τ H K (some (some false)) = s.vc P E (evO (setS t (.bool false) σ) (setT t (.bool false) τ)) H (efK P E next d pend (setS t (.bool false) σ) (setT t (.bool false) τ) K) := by simp [gdEf]
@[go_sem 2000] theorem gdEf_miss_false (t : Opd) (next : DT) (d : Dst) (s : SOp Opd) (pend : Pend) : gdEf P E t false next d s pend σ τ H K (some (some true)) = vcD P E next pend (putS d undef (setS t (.bool true) σ)) (putT d undef (setT t (.bool true) τ)) H K := by simp [gdEf]
@[go_sem] theorem gdRd_undef (t : Opd) (b : Bool) (next : DT) (d : Dst) (s : SOp Opd) (D : List Nat) (pend : Pend) : gdRd P E t b next d s D pend σ τ H K (some none) = vcD P E next pend (putS d undef σ) (putT d undef τ) H K := rfl
@[go_sem] theorem gdEf_bool (t : Opd) (b : Bool) (next : DT) (d : Dst) (s : SOp Opd) (pend : Pend) (c : Bool) : gdEf P E t b next d s pend σ τ H K (some (some c)) =
    ((c = b → s.vc P E (evO (setS t (.bool b) σ) (setT t (.bool b) τ)) H (efK P E next d pend (setS t (.bool b) σ) (setT t (.bool b) τ) K)) ∧ (c = (!b) → vcD P E next pend (putS d undef (setS t (.bool (!b)) σ)) (putT d undef (setT t (.bool (!b)) τ)) H K)) := rfl
@[go_sem] theorem gdEf_undef (t : Opd) (b : Bool) (next : DT) (d : Dst) (s : SOp Opd) (pend : Pend) : gdEf P E t b next d s pend σ τ H K (some none) = vcD P E next pend (putS d undef σ) (putT d undef τ) H K := rfl
@[go_sem] theorem pendOk_nil : pendOk H [] = True := rfl
@[go_sem] theorem pendOk_cons (D : List Nat) (h : Held) (r : Pend) : pendOk H ((D, h) :: r) = (h.ok H ∧ pendOk H r) := rfl
@[go_sem] theorem pendDrop_nil (i : Nat) : pendDrop i [] = [] := rfl
@[go_sem] theorem pendDrop_cons (i : Nat) (D : List Nat) (h : Held) (r : Pend) : pendDrop i ((D, h) :: r) = if D.elem i then pendDrop i r else (D, h) :: pendDrop i r := rfl
@[go_sem] theorem held_ok_ld (sz : Option Nat) (a : Addr) (v : Value) : (Held.ld sz a v).ok H = (ldV H sz a = some v) := rfl
@[go_sem] theorem held_ok_b2s (x v : Value) : (Held.b2s x v).ok H = (b2sN H (some x) = some v) := rfl
attribute [go_sem] SOp.held

@[go_sem] theorem vc_skip : vc P E .skip σ H Q = Q .nrm σ H := rfl
@[go_sem] theorem vc_ops (l : List GOp) : vc P E (.ops l) σ H Q = vcOps P E l σ [] H (nrmK Q) := rfl
@[go_sem] theorem vc_dq (l : List GOp) : vc P E (.dq l) σ H Q = vcOps P E l σ [] H (nrmK Q) := rfl
@[go_sem] theorem vc_seq (a b : SCode) : vc P E (.seq a b) σ H Q = vc P E a σ H (seqK (vcK P E b Q) Q) := rfl
@[go_sem] theorem vc_cond (c : Opd) (a b : SCode) : vc P E (.cond c a b) σ H Q = condN (vc P E a σ H Q) (vc P E b σ H Q) (evO σ [] c) := rfl
@[go_sem] theorem vc_block (id : Nat) (c : SCode) : vc P E (.block id c) σ H Q = vc P E c σ H (blockK id Q) := rfl
@[go_sem] theorem vc_exit (i : Nat) : vc P E (.exit i) σ H Q = Q (.ext i) σ H := rfl
@[go_sem] theorem vc_ret : vc P E .ret σ H Q = Q .ret σ H := rfl
@[go_sem] theorem vcK_app (b : SCode) : vcK P E b Q σ H = vc P E b σ H Q := rfl
@[go_sem] theorem nrmK_app : nrmK Q σ H = Q .nrm σ H := rfl
@[go_sem] theorem seqK_nrm (F : Slots → Heap → Prop) : seqK F Q .nrm σ H = F σ H := rfl
@[go_sem] theorem seqK_ext (F : Slots → Heap → Prop) (i : Nat) : seqK F Q (.ext i) σ H = Q (.ext i) σ H := rfl
@[go_sem] theorem seqK_ret (F : Slots → Heap → Prop) : seqK F Q .ret σ H = Q .ret σ H := rfl
@[go_sem] theorem blockK_nrm (i : Nat) : blockK i Q .nrm σ H = Q .nrm σ H := rfl
@[go_sem] theorem blockK_same (i : Nat) : blockK i Q (.ext i) σ H = Q .nrm σ H := if_pos rfl
@[go_sem] theorem blockK_ext (i j : Nat) : blockK i Q (.ext j) σ H = if j = i then Q .nrm σ H else Q (.ext j) σ H := rfl
@[go_sem] theorem blockK_ret (i : Nat) : blockK i Q .ret σ H = Q .ret σ H := rfl
@[go_sem 2000] theorem condN_true (A B : Prop) : condN A B (some (.bool true)) = A := by simp [condN]
@[go_sem 2000] theorem condN_false (A B : Prop) : condN A B (some (.bool false)) = B := by simp [condN]
@[go_sem] theorem condN_bool (A B : Prop) (t : Bool) : condN A B (some (.bool t)) = ((t = true → A) ∧ (t = false → B)) := rfl

@[go_sem] theorem vcOps_nil : vcOps P E [] σ τ H K = K σ H := rfl
@[go_sem] theorem vcOps_op (d : Dst) (s : SOp Opd) (r : List GOp) : vcOps P E (.op none d s :: r) σ τ H K = s.vc P E (evO σ τ) H (retK P E d r σ τ K) := rfl
@[go_sem] theorem vcOps_gd (t : Opd) (b fr : Bool) (d : Dst) (s : SOp Opd) (r : List GOp) : vcOps P E (.op (some (t, b, fr)) d s :: r) σ τ H K = gdN P E t b fr d s r σ τ H K (guardOf (evO σ τ t)) := by
  simp only [vcOps, gdN]
  cases guardOf (evO σ τ t) with
  | none => rfl
  | some x => cases x <;> rfl
@[go_sem] theorem vcOps_sel (t : Opd) (b : Bool) (inner : List In) (d : Dst) (x y : Opd) (r : List GOp) :
    vcOps P E (.sel t b inner d x y :: r) σ τ H K = vN H (retK P E d r σ τ K) (selV σ τ t b x y (innerE H σ inner τ)) := rfl
@[go_sem] theorem retK_app (d : Dst) (r : List GOp) (v : Value) (H' : Heap) : retK P E d r σ τ K v H' = vcOps P E r (putS d v σ) (putT d v τ) H' K := rfl
@[go_sem] theorem putS_no (v : Value) : putS .no v σ = σ := rfl
@[go_sem] theorem putS_t (v : Value) : putS .t v σ = σ := rfl
@[go_sem] theorem putS_s (k : Nat) (v : Value) : putS (.s k) v σ = σ.set k (some v) := rfl
@[go_sem] theorem putT_no (v : Value) : putT .no v τ = τ := rfl
@[go_sem] theorem putT_t (v : Value) : putT .t v τ = v :: τ := rfl
@[go_sem] theorem putT_s (k : Nat) (v : Value) : putT (.s k) v τ = τ := rfl
@[go_sem] theorem setS_t (k : Nat) (v : Value) : setS (.t k) v σ = σ := rfl
@[go_sem] theorem setS_s (k : Nat) (v : Value) : setS (.s k) v σ = σ.set k (some v) := rfl
@[go_sem] theorem setT_t (k : Nat) (v : Value) : setT (.t k) v τ = τ.set k v := rfl
@[go_sem] theorem setT_s (k : Nat) (v : Value) : setT (.s k) v τ = τ := rfl
@[go_sem] theorem gS_true (x : Opd) (v : Value) : gS true x v σ = setS x v σ := rfl
@[go_sem] theorem gS_false (x : Opd) (v : Value) : gS false x v σ = σ := rfl
@[go_sem] theorem gT_true (x : Opd) (v : Value) : gT true x v τ = setT x v τ := rfl
@[go_sem] theorem gT_false (x : Opd) (v : Value) : gT false x v τ = τ := rfl
@[go_sem] theorem gdN_bool (t : Opd) (b fr : Bool) (d : Dst) (s : SOp Opd) (r : List GOp) (c : Bool) : gdN P E t b fr d s r σ τ H K (some (some c)) =
    ((c = b → s.vc P E (evO (gS fr t (.bool b) σ) (gT fr t (.bool b) τ)) H (retK P E d r (gS fr t (.bool b) σ) (gT fr t (.bool b) τ) K)) ∧ (c = (!b) → vcOps P E r (putS d undef (gS fr t (.bool (!b)) σ)) (putT d undef (gT fr t (.bool (!b)) τ)) H K)) := rfl
@[go_sem 2000] theorem gdN_hit_true (t : Opd) (fr : Bool) (d : Dst) (s : SOp Opd) (r : List GOp) : gdN P E t true fr d s r σ τ H K (some (some true)) = s.vc P E (evO (gS fr t (.bool true) σ) (gT fr t (.bool true) τ)) H (retK P E d r (gS fr t (.bool true) σ) (gT fr t (.bool true) τ) K) := by simp [gdN]
@[go_sem 2000] theorem gdN_miss_true (t : Opd) (fr : Bool) (d : Dst) (s : SOp Opd) (r : List GOp) : gdN P E t true fr d s r σ τ H K (some (some false)) = vcOps P E r (putS d undef (gS fr t (.bool false) σ)) (putT d undef (gT fr t (.bool false) τ)) H K := by simp [gdN]
@[go_sem 2000] theorem gdN_hit_false (t : Opd) (fr : Bool) (d : Dst) (s : SOp Opd) (r : List GOp) : gdN P E t false fr d s r σ τ H K (some (some false)) = s.vc P E (evO (gS fr t (.bool false) σ) (gT fr t (.bool false) τ)) H (retK P E d r (gS fr t (.bool false) σ) (gT fr t (.bool false) τ) K) := by simp [gdN]
@[go_sem 2000] theorem gdN_miss_false (t : Opd) (fr : Bool) (d : Dst) (s : SOp Opd) (r : List GOp) : gdN P E t false fr d s r σ τ H K (some (some true)) = vcOps P E r (putS d undef (gS fr t (.bool true) σ)) (putT d undef (gT fr t (.bool true) τ)) H K := by simp [gdN]
@[go_sem] theorem gdN_undef (t : Opd) (b fr : Bool) (d : Dst) (s : SOp Opd) (r : List GOp) : gdN P E t b fr d s r σ τ H K (some none) = vcOps P E r (putS d undef σ) (putT d undef τ) H K := rfl
@[go_sem] theorem guardOf_b (c : Bool) : guardOf (some (.bool c)) = some (some c) := rfl
attribute [go_sem] undef
@[go_sem] theorem guardOf_undef' : guardOf (some (.tuple #[])) = some none := rfl

section
variable {R : Value → Heap → Prop} {O : Type} {ev : O → Option Value}
@[go_sem] theorem svc_v (e : PE O) : SOp.vc P E ev H R (.v e) = vN H R (e.val ev) := rfl
@[go_sem] theorem svc_ld (sz : Option Nat) (x : O) : SOp.vc P E ev H R (.ld sz x) = rdN H R (ldN H sz (ev x)) := rfl
@[go_sem] theorem svc_st (n : Nat) (a x : O) : SOp.vc P E ev H R (.st n a x) = stN H n R (ev a) (ev x) := rfl
@[go_sem] theorem svc_al (t : Nat) (z : List Value) : SOp.vc P E ev H R (.al t z) = NewP H t z R := rfl
@[go_sem] theorem svc_bx (t : Nat) (x : O) : SOp.vc P E ev H R (.bx t x) = bxN H t R (ev x) := rfl
@[go_sem] theorem svc_bs (t n : Nat) (z : List Value) (ps : List (Nat × Nat × O)) : SOp.vc P E ev H R (.bs t n z ps) = bsN H t n z R (partsE ev ps) := rfl
@[go_sem] theorem svc_ap (t tx : Nat) (s x : O) : SOp.vc P E ev H R (.ap t tx s x) = apN P t tx H R (ev s) (ev x) := rfl
@[go_sem] theorem svc_mk (t s b : Nat) (z : Value) (l c : O) : SOp.vc P E ev H R (.mk t s b z l c) = mkN H t s b z R (ev l) (ev c) := rfl
@[go_sem] theorem svc_call (f : Nat) (args : List O) : SOp.vc P E ev H R (.call f args) = callN P E f H R (evs ev args) := rfl
@[go_sem] theorem svc_cv (f : O) (args : List O) : SOp.vc P E ev H R (.cv f args) = cvN P E H R (ev f) (evs ev args) := rfl
@[go_sem] theorem svc_b2s (x : O) : SOp.vc P E ev H R (.b2s x) = rdN H R (b2sN H (ev x)) := rfl
@[go_sem] theorem svc_pnc (x : O) : SOp.vc P E ev H R (.pnc x) = pncN E H (ev x) := rfl
@[go_sem] theorem pncN_some (t : Nat) (v : Value) : pncN E H (some (.iface t v)) = E [{ v := .iface t v, recovered := false }] H := rfl
@[go_sem] theorem svc_mks (x : O) : SOp.vc P E ev H R (.mks x) = mksN H R (ev x) := rfl
@[go_sem] theorem mksN_some (a : Addr) (n c : Nat) : mksN H R (some (.slice (some a) n c)) = Mks H a (R (.slice (some a) n c)) := rfl
@[go_sem] theorem svc_mm : SOp.vc P E ev H R .mm = NewM H R := rfl
@[go_sem] theorem svc_ins (m k x : O) : SOp.vc P E ev H R (.ins m k x) = insN H R (ev m) (ev k) (ev x) := rfl
@[go_sem] theorem insN_some (r : Nat) (s : ByteArray) (v : Value) : insN H R (some (.map (some r))) (some (.string s)) (some v) = InsM H r s v (R undef) := rfl
@[go_sem] theorem svc_lkp (z : Value) (m k : O) : SOp.vc P E ev H R (.lkp z m k) = lkpN H z R (ev m) (ev k) := rfl
@[go_sem] theorem lkpN_some (z : Value) (r : Nat) (s : ByteArray) : lkpN H z R (some (.map (some r))) (some (.string s)) = LkpM H z r s (fun v => R v H) := rfl
@[go_sem] theorem svc_s2b (t : Nat) (x : O) : SOp.vc P E ev H R (.s2b t x) = s2bN H t R (ev x) := rfl
@[go_sem] theorem vN_some (p : Prop) (v : Value) : vN H R (some (p, v)) = (p ∧ R v H) := rfl
@[go_sem] theorem rdN_some (v : Value) : rdN H R (some v) = R v H := rfl
@[go_sem] theorem stN_some (n : Nat) (a : Addr) (v : Value) : stN H n R (some (.pointer (some a))) (some v) = (v.cells.size = n ∧ Sto H a v.cells.toList 0 (R undef)) := rfl
@[go_sem] theorem bxN_some (t : Nat) (v : Value) : bxN H t R (some v) = NewP H t v.cells.toList R := rfl
def bs2N (H : Heap) (t n : Nat) (R : Value → Heap → Prop) : Option (List Value) → Prop
  | some cs => NewS H t n cs R
  | none => False
@[go_sem] theorem bs2N_some (t n : Nat) (cs : List Value) : bs2N H t n R (some cs) = NewS H t n cs R := rfl
@[go_sem] theorem bsN_some (t n : Nat) (z : List Value) (ps : List (Nat × Nat × Value)) : bsN H t n z R (some ps) = bs2N H t n R (fillV z ps) := by
  simp only [bsN, bs2N]; cases fillV z ps <;> rfl
@[go_sem] theorem apN_some (t tx : Nat) (s x : Value) : apN P t tx H R (some s) (some x) = App P t tx t H s x R := rfl
@[go_sem] theorem callN_some (f : Nat) (vs : List Value) : callN P E f H R (some vs) = PCalls P f vs.toArray H R E := rfl
@[go_sem] theorem cvN_some (f : Nat) (first cap : Array Value) (vs : List Value) : cvN P E H R (some (.func (.func f) first cap)) (some vs) = (hasBody P f = true ∧ PCalls P f (first ++ vs.toArray ++ cap) H R E) := rfl
@[go_sem] theorem mkN_some (t s b : Nat) (z : Value) (l c : Int) : mkN H t s b z R (some (.int .i64 l)) (some (.int .i64 c)) = Mk H t s z l c b R := rfl
@[go_sem] theorem s2bN_some (t : Nat) (s : ByteArray) : s2bN H t R (some (.string s)) = S2b H t s R := rfl
@[go_sem] theorem ldN_some (sz : Option Nat) (a : Addr) : ldN H sz (some (.pointer (some a))) = ldV H sz a := rfl
@[go_sem] theorem ldN_tuple (sz : Option Nat) (vs : Array Value) : ldN H sz (some (.tuple vs)) = none := rfl
@[go_sem] theorem ldN_nilp (sz : Option Nat) : ldN H sz (some (.pointer none)) = none := rfl
@[go_sem] theorem ldV_one (a : Addr) : ldV H none a = cellAt H a := rfl
end

def aggN : Option (List Value) → Option Value
  | some vs => some (.agg vs.toArray)
  | none => none
@[go_sem] theorem aggN_some (vs : List Value) : aggN (some vs) = some (.agg vs.toArray) := rfl
@[go_sem] theorem ldV_agg (n : Nat) (a : Addr) : ldV H (some n) a = aggN (cellsFrom H a 0 n) := by
  simp only [ldV]; cases cellsFrom H a 0 n <;> rfl
def consN : Option Value → Option (List Value) → Option (List Value)
  | some v, some vs => some (v :: vs)
  | _, _ => none
@[go_sem] theorem consN_some (v : Value) (vs : List Value) : consN (some v) (some vs) = some (v :: vs) := rfl
@[go_sem] theorem cellsFrom_zero (a : Addr) (i : Nat) : cellsFrom H a i 0 = some [] := rfl
@[go_sem] theorem cellsFrom_succ (a : Addr) (i n : Nat) : cellsFrom H a i (n + 1) = consN (cellAt H (a.add i)) (cellsFrom H a (i + 1) n) := by
  simp only [cellsFrom, consN]; cases cellAt H (a.add i) <;> cases cellsFrom H a (i + 1) n <;> rfl

/-! ### operands -/
@[go_sem] theorem evO_t (k : Nat) : evO σ τ (.t k) = τ.toArray[k]? := rfl
@[go_sem] theorem evO_s (k : Nat) : evO σ τ (.s k) = jn (σ.toArray[k]?) := rfl
@[go_sem] theorem evO_c (v : Value) : evO σ τ (.c v) = some v := rfl
@[go_sem] theorem evO_g (g : Nat) : evO σ τ (.g g) = some (.pointer (some ⟨g, 0, none⟩)) := rfl
@[go_sem] theorem evO_f (f : Nat) : evO σ τ (.f f) = some (.func (.func f) #[] #[]) := rfl
@[go_sem] theorem jn_some (x : Option Value) : jn (some x) = x := rfl
@[go_sem] theorem evs_nil {O : Type} (ev : O → Option Value) : evs ev [] = some [] := rfl
@[go_sem] theorem evs_cons {O : Type} (ev : O → Option Value) (x : O) (r : List O) : evs ev (x :: r) = consN (ev x) (evs ev r) := by
  simp only [evs, consN]; cases ev x <;> cases evs ev r <;> rfl
def part3 (o s : Nat) : Option Value → Option (List (Nat × Nat × Value)) → Option (List (Nat × Nat × Value))
  | some v, some r => some ((o, s, v) :: r)
  | _, _ => none
@[go_sem] theorem part3_some (o s : Nat) (v : Value) (r : List (Nat × Nat × Value)) : part3 o s (some v) (some r) = some ((o, s, v) :: r) := rfl
@[go_sem] theorem parts_nil {O : Type} (ev : O → Option Value) : partsE ev [] = some [] := rfl
@[go_sem] theorem parts_cons {O : Type} (ev : O → Option Value) (o s : Nat) (x : O) (r : List (Nat × Nat × O)) : partsE ev ((o, s, x) :: r) = part3 o s (ev x) (partsE ev r) := by
  simp only [partsE, part3]; cases ev x <;> cases partsE ev r <;> rfl
def bndN : Option Value → Option (Option Int)
  | some (.int _ n) => some (some n)
  | _ => none
@[go_sem] theorem bndN_some (k : IntKind) (n : Int) : bndN (some (.int k n)) = some (some n) := rfl
@[go_sem] theorem bnd_none' {O : Type} (ev : O → Option Value) : bnd ev none = some none := rfl
@[go_sem] theorem bnd_some' {O : Type} (ev : O → Option Value) (x : O) : bnd ev (some x) = bndN (ev x) := by
  simp only [bnd, bndN]
  cases ev x with
  | none => rfl
  | some v => cases v <;> rfl

/-! ### slots -/
@[go_sem] theorem get_cons (i t : Nat) (v : Value) (r : Env) : Env.get ((i, v) :: r) t = if i = t then some v else Env.get r t := rfl
@[go_sem] theorem get_nil (t : Nat) : Env.get [] t = none := rfl
@[go_sem] theorem mkS_nil (E : Env) : mkS [] E = [] := rfl
@[go_sem] theorem mkS_cons (t : Nat) (r : List Nat) (E : Env) : mkS (t :: r) E = Env.get E t :: mkS r E := rfl
@[go_sem] theorem lookS_cons (k t : Nat) (ks : List Nat) (s : Option Value) (ss : Slots) : lookS (k :: ks) (s :: ss) t = if k = t then s else lookS ks ss t := rfl
@[go_sem] theorem knowsK_nil (keep : List Nat) : knowsK keep σ [] = True := rfl
@[go_sem] theorem knowsK_cons (keep : List Nat) (t : Nat) (v : Value) (r : Env) : knowsK keep σ ((t, v) :: r) = (lookS keep σ t = some v ∧ knowsK keep σ r) := rfl
@[go_sem] theorem argS_nil (vs : List Value) : argS [] vs = [] := rfl
@[go_sem] theorem argS_cons (t : Nat) (r : List Nat) (vs : List Value) : argS (t :: r) vs = argV vs.toArray[t]? :: argS r vs := rfl
@[go_sem] theorem argV_some (v : Value) : argV (some v) = some v := rfl
@[go_sem] theorem argV_none : argV none = some (.tuple #[]) := rfl

/-! ### pure operations -/
attribute [go_sem] PE.val mvN pickN binN beqN steqN negN stEq leafEq andB isnilN isnilsN unN cviN cvsN faN ixN ixaN sixN slN sslN lenN slenN fld1N fldAN extN mmN ncN mkfN mkiN isnilfN tyaN tybN bldN binV intV strV unV slV sslV fillV
  SOp.rd resV RV.val finN finQ
attribute [go_sem] List.elem_cons List.elem_nil

@[go_sem] theorem inPush_some' (p : Prop) (v : Value) : inPush (some (p, v)) τ = some (p, v :: τ) := rfl
@[go_sem] theorem inPush_none : inPush none τ = none := rfl
def andN (p : Prop) : Option (Prop × List Value) → Option (Prop × List Value)
  | some (q, e) => some (p ∧ q, e)
  | none => none
@[go_sem] theorem andN_some (p q : Prop) (e : List Value) : andN p (some (q, e)) = some (p ∧ q, e) := rfl
@[go_sem] theorem andN_none (p : Prop) : andN p none = none := rfl
@[go_sem] theorem inThen_none (f : List Value → Option (Prop × List Value)) : inThen f none = none := rfl
@[go_sem] theorem innerE_nil : innerE H σ [] τ = some (True, τ) := by simp [innerE]
def inNext (H : Heap) (σ : Slots) (r : List In) : Option (Prop × List Value) → Option (Prop × List Value)
  | some (p, τ') => andN p (innerE H σ r τ')
  | none => none
@[go_sem] theorem inNext_some (r : List In) (p : Prop) (τ' : List Value) : inNext H σ r (some (p, τ')) = andN p (innerE H σ r τ') := rfl
@[go_sem] theorem inNext_none (r : List In) : inNext H σ r none = none := rfl
@[go_sem] theorem innerE_cons (i : In) (r : List In) : innerE H σ (i :: r) τ = inNext H σ r (inE H σ i τ) := by
  simp only [innerE, inThen, inNext]
  cases inE H σ i τ with
  | none => rfl
  | some x =>
    obtain ⟨p, τ'⟩ := x
    simp only [andN]
    cases innerE H σ r τ' with
    | none => rfl
    | some y => rfl
@[go_sem] theorem inE_op (s : SOp Opd) : inE H σ (.op s) τ = inPush (s.rd (evO σ τ) H) τ := by simp only [inE]
@[go_sem] theorem inE_nst (t : Opd) (b : Bool) (inner : List In) (x y : Opd) : inE H σ (.nst t b inner x y) τ = inPush (selV σ τ t b x y (innerE H σ inner τ)) τ := by simp only [inE]
attribute [go_sem] selV selN

/-! ### propositions -/
attribute [go_sem] true_and and_true true_imp_iff false_imp_iff implies_true forall_const

end

theorem vc_loop {P : Program} {Ec : Chain → Heap → Prop} {α : Type} {keep : List Nat} {σ : Slots} {H : Heap} {Q : Post} {c : SCode} (I : α → Heap → Prop) (E : α → Env) (μ : α → Nat) (x₀ : α) (h₀ : I x₀ H) (hk : knowsK keep σ (E x₀))
    (round : ∀ x H, I x H → vc P Ec c (mkS keep (E x)) H (seqK (loopK keep I E μ x) Q)) : vc P Ec (.loop keep c) σ H Q :=
  ⟨α, I, E, μ, x₀, h₀, hk, round⟩

theorem loopK_intro {α : Type} {keep : List Nat} {I : α → Heap → Prop} {E : α → Env} {μ : α → Nat} {x : α} {σ : Slots} {H : Heap} (y : α) (h1 : μ y < μ x) (h2 : knowsK keep σ (E y)) (h3 : I y H) : loopK keep I E μ x σ H := ⟨y, h1, h2, h3⟩

end Gx
end
section
/- Memory: blocks, frames, rows of one's own. -/
namespace Gx
open Go

/-- The cell at an offset of a block. -/
def cellB (H : Heap) (b o : Nat) : Option Value :=
  match H[b]? with
  | some (.cells c _ _) => c[o]?
  | _ => none

@[go_sem] theorem cellAt_mk (H : Heap) (b o : Nat) : cellAt H ⟨b, o, none⟩ = cellB H b o := by
  simp only [cellAt, cellB]; cases H[b]? with
  | none => rfl
  | some x => cases x <;> rfl
@[go_sem] theorem add_mk (b o n : Nat) : Addr.add ⟨b, o, none⟩ n = ⟨b, o + n, none⟩ := Addr.add_lit b o n

/-- A block that is known whole and may be written. -/
def Blk (H : Heap) (b t : Nat) (l : List Value) : Prop := H[b]? = some (.cells l.toArray t (0, 0))

theorem Blk.cell {H : Heap} {b t : Nat} {l : List Value} (h : Blk H b t l) (o : Nat) : cellB H b o = l[o]? := by
  unfold Blk at h; simp [cellB, h]
theorem Blk.lt {H : Heap} {b t : Nat} {l : List Value} (h : Blk H b t l) : b < H.size := by
  rcases Nat.lt_or_ge b H.size with h' | h'
  · exact h'
  · unfold Blk at h; simp [Array.getElem?_eq_none h'] at h

/-- Of what was there all is as it was, but for the blocks in `M`. -/
structure Fr (M : List Nat) (H H' : Heap) : Prop where
  size : H.size ≤ H'.size
  same : ∀ b, b < H.size → b ∉ M → H'[b]? = H[b]?

theorem Fr.refl (M : List Nat) (H : Heap) : Fr M H H := ⟨Nat.le_refl _, fun _ _ _ => rfl⟩
theorem Fr.trans {M : List Nat} {a b c : Heap} (h : Fr M a b) (k : Fr M b c) : Fr M a c :=
  ⟨Nat.le_trans h.size k.size, fun i hi hm => (k.same i (Nat.lt_of_lt_of_le hi h.size) hm).trans (h.same i hi hm)⟩
theorem Fr.mono {M M' : List Nat} {H H' : Heap} (h : Fr M H H') (hm : ∀ b, b ∈ M → b ∈ M' ∨ H.size ≤ b) : Fr M' H H' :=
  ⟨h.size, fun b hb hn => h.same b hb fun hx => by rcases hm b hx with h1 | h1; exact hn h1; omega⟩
/-- What was written was new. -/
theorem Fr.trans' {M M' : List Nat} {a b c : Heap} (h : Fr M a b) (k : Fr M' b c) (hm : ∀ x, x ∈ M' → x ∈ M ∨ a.size ≤ x) : Fr M a c :=
  ⟨Nat.le_trans h.size k.size, fun i hi hn => (k.same i (Nat.lt_of_lt_of_le hi h.size) (fun hx => by rcases hm i hx with h1 | h1; exact hn h1; omega)).trans (h.same i hi hn)⟩

theorem Blk.fr {M : List Nat} {H H' : Heap} {b t : Nat} {l : List Value} (h : Blk H b t l) (hf : Fr M H H') (hb : b ∉ M) : Blk H' b t l := by
  have hlt := h.lt
  unfold Blk at *; rw [hf.same b hlt hb]; exact h
theorem Blk.ext {H H' : Heap} {b t : Nat} {l : List Value} (h : Blk H b t l) (hf : Fr [] H H') : Blk H' b t l := h.fr hf (by simp)

theorem cellB_lt {H : Heap} {b o : Nat} {v : Value} (h : cellB H b o = some v) : b < H.size := by
  rcases Nat.lt_or_ge b H.size with h' | h'
  · exact h'
  · simp [cellB, Array.getElem?_eq_none h'] at h
theorem cellB_fr {M : List Nat} {H H' : Heap} {b o : Nat} {v : Value} (h : cellB H b o = some v) (hf : Fr M H H') (hb : b ∉ M) : cellB H' b o = some v := by
  have := hf.same b (cellB_lt h) hb
  unfold cellB at *; rw [this]; exact h

/-! ### a new block -/
theorem fr_push (M : List Nat) (H : Heap) (o : Obj) : Fr M H (H.push o) :=
  ⟨by simp, fun b hb _ => by rw [Array.getElem?_push]; simp [show b ≠ H.size by omega]⟩

theorem NewP_intro {H : Heap} {t : Nat} {cs : List Value} {R : Value → Heap → Prop} (h : ∀ H', Blk H' H.size t cs → Fr [] H H' → H'.size = H.size + 1 → R (.pointer (some ⟨H.size, 0, none⟩)) H') : NewP H t cs R :=
  h _ (by simp [Blk]) (fr_push _ _ _) (by simp)
theorem NewS_intro {H : Heap} {t n : Nat} {cs : List Value} {R : Value → Heap → Prop} (h : ∀ H', Blk H' H.size t cs → Fr [] H H' → H'.size = H.size + 1 → R (.slice (some ⟨H.size, 0, none⟩) n n) H') : NewS H t n cs R :=
  h _ (by simp [Blk]) (fr_push _ _ _) (by simp)

/-! ### stores -/
theorem Blk.set {H : Heap} {b t : Nat} {l : List Value} (h : Blk H b t l) (o : Nat) (v : Value) : Blk (setCellH H ⟨b, o, none⟩ v) b t (l.set o v) := by
  have hlt := h.lt
  unfold Blk at *
  have h' : H[b] = .cells l.toArray t (0, 0) := by simpa [Array.getElem?_eq_getElem hlt] using h
  simp only [setCellH]
  rw [Array.getElem?_eq_getElem (by simpa using hlt), Array.getElem_modify_self, h']
  simp

theorem fr_set (H : Heap) (b o : Nat) (v : Value) : Fr [b] H (setCellH H ⟨b, o, none⟩ v) :=
  ⟨by simp [setCellH], fun k _ hk => by simp only [setCellH, Array.getElem?_modify]; rw [if_neg (by simp at hk; omega)]⟩
theorem size_set (H : Heap) (a : Addr) (v : Value) : (setCellH H a v).size = H.size := by simp [setCellH]

/-- What a list is behind stores from an offset on. -/
def setL (l : List Value) (o : Nat) : List Value → List Value
  | [] => l
  | v :: vs => setL (l.set o v) (o + 1) vs

theorem length_setL (l : List Value) : ∀ (vs : List Value) (o : Nat), (setL l o vs).length = l.length := by
  intro vs; induction vs generalizing l with
  | nil => intro o; rfl
  | cons v vs ih => intro o; simp [setL, ih]

theorem setL_eq : ∀ (vs : List Value) (l : List Value) (o : Nat), o + vs.length ≤ l.length → setL l o vs = l.take o ++ vs ++ l.drop (o + vs.length)
  | [], l, o, _ => by simp [setL]
  | v :: vs, l, o, h => by
    simp only [List.length_cons] at h
    rw [setL, setL_eq vs (l.set o v) (o + 1) (by simp; omega)]
    have e2 : (l.set o v).take (o + 1) = l.take o ++ [v] := by
      rw [List.take_add_one, List.take_set_of_le (Nat.le_refl _)]; simp [show o < l.length by omega]
    have e3 : (l.set o v).drop (o + 1 + vs.length) = l.drop (o + (vs.length + 1)) := by
      rw [List.drop_set_of_lt (by omega)]; congr 1; omega
    rw [e2, e3]; simp

theorem Sto_blk {R : Heap → Prop} {b t : Nat} : ∀ (vs : List Value) (H : Heap) (l : List Value) (o i : Nat), Blk H b t l → o + i + vs.length ≤ l.length → (∀ v ∈ vs, v.oneCell' = true) →
    (∀ H', Blk H' b t (setL l (o + i) vs) → Fr [b] H H' → H'.size = H.size → R H') → Sto H ⟨b, o, none⟩ vs i R
  | [], H, l, o, i, h, _, _, hR => hR H h (Fr.refl _ _) rfl
  | v :: vs, H, l, o, i, h, hl, h1, hR => by
    simp only [List.length_cons] at hl
    have hlt : o + i < l.length := by omega
    refine ⟨h1 v (by simp), ⟨l[o + i], ?_⟩, ?_, ?_⟩
    · rw [add_mk, cellAt_mk, h.cell]; simp [hlt]
    · rw [add_mk]; unfold Blk at h; simp [frozenAt, h]
    · rw [add_mk]
      refine Sto_blk vs _ (l.set (o + i) v) o (i + 1) (h.set (o + i) v) (by simp; omega) (fun v hv => h1 v (by simp [hv])) fun H' hb hf hs => ?_
      exact hR H' hb ((fr_set H b (o + i) v).trans hf) (hs.trans (size_set _ _ _))

/-- One cell of a block that is known. -/
theorem Sto_one {R : Heap → Prop} {b t o : Nat} {H : Heap} {l : List Value} {v : Value} (h : Blk H b t l) (ho : o < l.length) (h1 : v.oneCell' = true)
    (hR : ∀ H', Blk H' b t (l.set o v) → Fr [b] H H' → H'.size = H.size → R H') : Sto H ⟨b, o, none⟩ [v] 0 R :=
  Sto_blk [v] H l o 0 h (by simp; omega) (by simpa using h1) fun H' hb hf hs => hR H' (by simpa [setL] using hb) hf hs

/-! ### rows of one's own -/
/-- The slice value `v` of `n` elements (type `e`, `size` cells each) owns the cells `xs`; `g`: its block. -/
def Own (H : Heap) (e size : Nat) (v : Value) (n : Nat) (xs : List Value) (g : Option Nat) : Prop :=
  xs.length = n * size ∧
  ((g = none ∧ v = .slice none 0 0 ∧ n = 0) ∨
   ∃ b cap cur, g = some b ∧ v = .slice (some ⟨b, 0, none⟩) n cap ∧ H[b]? = some (.cells cur e (0, 0)) ∧ n ≤ cap ∧ cap ≤ maxLen ∧ cur.size = cap * size ∧ cur.toList.take (n * size) = xs)

theorem Own.nil (H : Heap) (e size : Nat) : Own H e size (.slice none 0 0) 0 [] none := ⟨by simp, .inl ⟨rfl, rfl, rfl⟩⟩

theorem Own.lt {H : Heap} {e size : Nat} {v : Value} {n : Nat} {xs : List Value} {g : Option Nat} (h : Own H e size v n xs g) {b : Nat} (hb : g = some b) : b < H.size := by
  rcases h.2 with ⟨h1, _⟩ | ⟨b', cap, cur, h1, _, h2, _⟩
  · rw [h1] at hb; cases hb
  · rw [h1] at hb; cases hb
    rcases Nat.lt_or_ge b H.size with h' | h'
    · exact h'
    · simp [Array.getElem?_eq_none h'] at h2

theorem Own.fr {M : List Nat} {H H' : Heap} {e size : Nat} {v : Value} {n : Nat} {xs : List Value} {g : Option Nat} (h : Own H e size v n xs g) (hf : Fr M H H') (hg : ∀ b, g = some b → b ∉ M) : Own H' e size v n xs g := by
  refine ⟨h.1, ?_⟩
  rcases h.2 with h1 | ⟨b, cap, cur, h1, h2, h3, r⟩
  · exact .inl h1
  · refine .inr ⟨b, cap, cur, h1, h2, ?_, r⟩
    rw [hf.same b (h.lt h1) (hg b h1)]; exact h3

/-- What is at an offset. -/
theorem Own.cell {H : Heap} {e size : Nat} {v : Value} {n : Nat} {xs : List Value} {b : Nat} (h : Own H e size v n xs (some b)) (j : Nat) (hj : j < n * size) : cellB H b j = xs[j]? := by
  rcases h.2 with ⟨h1, _⟩ | ⟨b', cap, cur, h1, h2, h3, h4, h5, h6, h7⟩
  · cases h1
  · cases h1
    rw [← h7]
    have : j < cur.size := by rw [h6]; exact Nat.lt_of_lt_of_le hj (Nat.mul_le_mul_right _ h4)
    simp [cellB, h3, hj]

theorem Own.ownsRow {w : World} {e size : Nat} {v : Value} {n : Nat} {xs : List Value} {g : Option Nat} (h : Own w.heap e size v n xs g) : w.ownsRow 0 e size v n xs ∧ v.ownBlock = g := by
  rcases h.2 with ⟨rfl, rfl, rfl⟩ | ⟨b, cap, cur, rfl, rfl, h3, r⟩
  · exact ⟨⟨h.1, .inl ⟨rfl, rfl⟩⟩, rfl⟩
  · exact ⟨⟨h.1, .inr ⟨b, cap, cur, rfl, Nat.zero_le _, h3, r⟩⟩, rfl⟩
theorem Own.of_ownsRow {w : World} {base e size : Nat} {v : Value} {n : Nat} {xs : List Value} (h : w.ownsRow base e size v n xs) : Own w.heap e size v n xs v.ownBlock := by
  refine ⟨h.1, ?_⟩
  rcases h.2 with ⟨rfl, rfl⟩ | ⟨b, cap, cur, rfl, _, r⟩
  · exact .inl ⟨rfl, rfl, rfl⟩
  · exact .inr ⟨b, cap, cur, rfl, rfl, r⟩

/-- A row that a literal has made. -/
theorem Own.of_blk {H : Heap} {b e size n : Nat} {l : List Value} (h : Blk H b e l) (hl : l.length = n * size) (hn : n ≤ maxLen) : Own H e size (.slice (some ⟨b, 0, none⟩) n n) n l (some b) :=
  ⟨hl, .inr ⟨b, n, l.toArray, rfl, rfl, h, Nat.le_refl _, hn, by simp [hl], by simp [← hl]⟩⟩

/-- The type's row in the table. -/
structure ElemOk (P : Program) (t e size bytes : Nat) (z : Value) : Prop where
  und : P.underlying t = some (.slice e)
  info : (P.info? e).map (fun i => (i.zero, i.size, i.bytes)) = some (some z, size, bytes)
  zs : z.cells.size = size
  pos : 0 < size

/-- What the second argument of an append yields, from every world with this heap. -/
def SrcH (P : Program) (H : Heap) (size tx : Nat) (x : Value) (m : Nat) (news : List Value) : Prop := ∀ w : World, w.heap = H → Src P size tx x m news w

theorem SrcH.cells {P : Program} {H : Heap} {size tx e : Nat} (hk : P.underlying tx = some (.slice e)) {ad : Addr} {m c : Nat} {news : List Value} (hl : news.length = m * size) (hn : ∀ j u, news[j]? = some u → cellAt H (ad.add j) = some u) (h1 : ∀ u ∈ news, u.oneCell' = true) :
    SrcH P H size tx (.slice (some ad) m c) m news := fun w hw => Src.ofSlice w hk ad m c news hl (fun j u hj => by subst hw; exact hn j u hj) h1
theorem SrcH.nil {P : Program} {H : Heap} {size tx e : Nat} (hk : P.underlying tx = some (.slice e)) (c : Nat) : SrcH P H size tx (.slice none 0 c) 0 [] := fun w _ => Src.ofNil w hk c
theorem SrcH.str {P : Program} {H : Heap} {tx : Nat} (hk : P.underlying tx = some .string) (l : List UInt8) : SrcH P H 1 tx (.string ⟨⟨l⟩⟩) l.length (l.map fun b => Value.int .u8 b.toNat) := fun w _ => by
  have := Src.ofString w hk ⟨⟨l⟩⟩
  exact this
/-- A slice without elements, whatever its address. -/
theorem SrcH.empty {P : Program} {H : Heap} {size tx e : Nat} (hk : P.underlying tx = some (.slice e)) (ad : Option Addr) (c : Nat) : SrcH P H size tx (.slice ad 0 c) 0 [] := by
  cases ad with
  | none => exact SrcH.nil hk c
  | some ad => exact SrcH.cells hk (by simp) (by simp) (by simp)

theorem SrcH.blk {P : Program} {H : Heap} {size tx e : Nat} (hk : P.underlying tx = some (.slice e)) {b t m c : Nat} {l : List Value} (h : Blk H b t l) (hl : l.length = m * size) (h1 : ∀ u ∈ l, u.oneCell' = true) :
    SrcH P H size tx (.slice (some ⟨b, 0, none⟩) m c) m l :=
  SrcH.cells hk hl (fun j u hj => by rw [add_mk, cellAt_mk, Nat.zero_add, h.cell]; exact hj) h1

theorem Own.ne {H : Heap} {e size : Nat} {v : Value} {n : Nat} {xs : List Value} {g : Option Nat} {b t : Nat} {l : List Value} (h : Own H e size v n xs g) (hb : Blk H b t l) (ht : e ≠ t) : b ∉ g.toList := by
  intro hm
  have hg : g = some b := by simpa using hm
  rcases h.2 with ⟨h1, _⟩ | ⟨b', cap, cur, h1, _, h3, _⟩
  · rw [h1] at hg; cases hg
  · rw [h1] at hg; cases hg
    unfold Blk at hb
    rw [h3] at hb
    simp at hb
    exact ht hb.2

theorem setCells_blk {b e : Nat} : ∀ (vs : List Value) (o : Nat) (w : World) (l : List Value), Blk w.heap b e l → Blk (w.setCells b o vs).heap b e (setL l o vs) ∧ Fr [b] w.heap (w.setCells b o vs).heap ∧ Same w (w.setCells b o vs)
  | [], o, w, l, h => ⟨h, Fr.refl _ _, Same.refl _⟩
  | v :: vs, o, w, l, h => by
    obtain ⟨h1, h2, h3⟩ := setCells_blk vs (o + 1) (w.setCell ⟨b, o, none⟩ v) (l.set o v) (h.set o v)
    exact ⟨h1, (fr_set _ _ _ _).trans h2, ⟨h3.os, h3.tape, h3.output⟩⟩

/-- append to a row of one's own. -/
theorem App_own {P : Program} {t tx e size bytes : Nat} {z : Value} (hE : ElemOk P t e size bytes z) {H : Heap} {v x : Value} {n : Nat} {xs : List Value} {g : Option Nat} (hown : Own H e size v n xs g)
    {m : Nat} {news : List Value} (hsrc : SrcH P H size tx x m news) (h63 : n + m ≤ maxLen) (hb : (n + m) * bytes ≤ 140737488355328) {R : Value → Heap → Prop}
    (hR : ∀ a c H' g', Own H' e size (.slice a (n + m) c) (n + m) (xs ++ news) g' → Fr g.toList H H' → (∀ b, g' = some b → g = some b ∨ H.size ≤ b) → R (.slice a (n + m) c) H') : App P t tx t H v x R := by
  intro w hw
  have hs := hsrc w hw
  subst hw
  have hinfo := hE.info
  simp only [Option.map_eq_some_iff, Prod.mk.injEq] at hinfo
  obtain ⟨i, hi, hz, hsz, hbt⟩ := hinfo
  subst hsz; subst hbt
  have hlen : (xs ++ news).length = (n + m) * i.size := by rw [List.length_append, hown.1, hs.newsLen, Nat.add_mul]
  have h63' : ((n + m : Nat) : Int) ≤ 9223372036854775807 := by simp only [maxLen] at h63; omega
  have grow : ∀ (base : Option Addr) (cap : Nat), cap < n + m → v = .slice base n cap → (Builtin.firstCells i.size n (.slice base n cap)).run P w.drew = .ok xs.toArray w.drew →
      ∃ v' w', (Builtin.append_ #[t, tx] t #[v, x]).run P w = .ok v' w' ∧ R v' w'.heap ∧ Same w w' := by
    intro base cap hc hv hold
    subst hv
    have hr := run_append_grow_src (P := P) w t tx t e i z hE.und hi hz base n cap xs hold x m news hs hc h63' (growslice_fits hc hb)
    refine ⟨_, _, hr, hR _ _ _ (some w.heap.size) ⟨hlen, .inr ⟨w.heap.size, _, _, rfl, rfl, heap_alloc_new w.drew _, grownCap_ge _ _ _ _, grownCap_le_maxLen _ _ _ _ h63, ?_, ?_⟩⟩ ?_ ?_, ⟨rfl, rfl, rfl⟩⟩
    · have hge := grownCap_ge w (n + m) cap e
      rw [Array.size_append, size_zeroCells, hE.zs]
      simp only [List.size_toArray, hlen, ← Nat.add_mul]
      congr 1; omega
    · simp only [Array.toList_append]
      rw [← hlen]; exact List.take_left
    · exact fr_push _ _ _
    · intro b hb; simp at hb; exact .inr (by omega)
  rcases hown.2 with ⟨rfl, rfl, rfl⟩ | ⟨b, cap, cur, rfl, rfl, hg, hnc, hcm, hcs, htake⟩
  · have hx : xs = [] := List.eq_nil_of_length_eq_zero (by simpa using hown.1)
    subst hx
    by_cases hm : m = 0
    · subst hm
      have hn : news = [] := List.eq_nil_of_length_eq_zero (by simpa using hs.newsLen)
      subst hn
      refine ⟨.slice none 0 0, w, ?_, hR none 0 _ none (Own.nil _ _ _) (Fr.refl _ _) (by simp), Same.refl _⟩
      rcases hs.kind with ⟨e', hk⟩ | hk <;> simp [Builtin.append_, run_underlying hE.und, run_underlying hk, Go.sizeOf, typeInfo, hi, hs.len, hs.cells]
    · exact grow none 0 (by omega) rfl (run_firstCells_none _ _ _ _ _)
  · by_cases hroom : n + m ≤ cap
    · have hfit : n * i.size + news.length ≤ cur.size := by rw [hs.newsLen, hcs, ← Nat.add_mul]; exact Nat.mul_le_mul_right _ hroom
      have hblk : Blk w.heap b e cur.toList := by simpa [Blk] using hg
      have hr := run_append_room_src (P := P) w t tx t e i hE.und hi b 0 n cap x m news hs hroom
        (fun j hj => by
          have : w.cell? ⟨b, 0 + n * i.size + j, none⟩ = cellB w.heap b (0 + n * i.size + j) := (cell?_eq w _).trans (cellAt_mk _ _ _)
          rw [this, hblk.cell]; simp; omega)
        (fun j hj => by
          show frozenAt w.heap _ = false
          simp [frozenAt, hg])
      rw [Nat.zero_add] at hr
      obtain ⟨h1, h2, h3⟩ := setCells_blk news (n * i.size) w cur.toList hblk
      rw [setL_eq _ _ _ (by simpa using hfit)] at h1
      refine ⟨_, _, hr, hR _ _ _ (some b) ⟨hlen, .inr ⟨b, cap, _, rfl, rfl, h1, hroom, hcm, ?_, ?_⟩⟩ h2 (fun b' hb => by simp at hb; exact .inl (by rw [hb])), h3⟩
      · simp; omega
      · rw [htake, ← hlen]; exact List.take_left
    · refine grow (some ⟨b, 0, none⟩) cap (by omega) rfl ?_
      refine run_firstCells_some w.drew i.size n ⟨b, 0, none⟩ n cap xs hown.1 fun j u hj => ?_
      have hlt : j < n * i.size := by
        rw [← hown.1]
        rcases Nat.lt_or_ge j xs.length with h | h
        · exact h
        · rw [List.getElem?_eq_none h] at hj; cases hj
      show cellAt w.heap _ = _
      rw [add_mk, cellAt_mk, Nat.zero_add, hown.cell j hlt, hj]

end Gx
end
section
/- Bytes. -/
namespace Gx
open Go

def bv (b : UInt8) : Value := .int .u8 b.toNat
@[simp] theorem bv_one (b : UInt8) : (bv b).oneCell' = true := rfl

theorem wrap_u8_id (x : Int) (h : 0 ≤ x) (h' : x < 256) : IntKind.u8.wrap x = x := by
  rw [IntKind.wrap_u8]; omega
theorem wrap_u64_id (x : Int) (h : 0 ≤ x) (h' : x < 18446744073709551616) : IntKind.u64.wrap x = x := by
  rw [IntKind.wrap_u64]; omega
theorem wrap_i64_id (x : Int) (h : -9223372036854775808 ≤ x) (h' : x < 9223372036854775808) : IntKind.i64.wrap x = x := by
  rw [IntKind.wrap_i64]; omega
theorem u8_of (n : Nat) (h : n < 256) : ((UInt8.ofNat n).toNat : Int) = n := by
  have : (UInt8.ofNat n).toNat = n % 256 := UInt8.toNat_ofNat'
  omega

/-- What can be read behind a slice's address. -/
def BsR (H : Heap) (a : Option Addr) (l : List UInt8) : Prop :=
  l = [] ∨ ∃ b o, a = some ⟨b, o, none⟩ ∧ ∀ j (h : j < l.length), cellB H b (o + j) = some (bv l[j])

theorem BsR.nil (H : Heap) (a : Option Addr) : BsR H a [] := .inl rfl
theorem BsR.ext {H H' : Heap} {a : Option Addr} {l : List UInt8} (h : BsR H a l) (hf : Fr [] H H') : BsR H' a l := by
  rcases h with h | ⟨b, o, h1, h2⟩
  · exact .inl h
  · exact .inr ⟨b, o, h1, fun j hj => cellB_fr (h2 j hj) hf (by simp)⟩
/-- Behind writes to blocks that it does not lie in. -/
theorem BsR.fr {M : List Nat} {H H' : Heap} {a : Option Addr} {l : List UInt8} (h : BsR H a l) (hf : Fr M H H') (hm : ∀ b o, a = some ⟨b, o, none⟩ → b ∉ M) : BsR H' a l := by
  rcases h with h | ⟨b, o, h1, h2⟩
  · exact .inl h
  · exact .inr ⟨b, o, h1, fun j hj => cellB_fr (h2 j hj) hf (hm b o h1)⟩
theorem BsR.take {H : Heap} {a : Option Addr} {l : List UInt8} (h : BsR H a l) (n : Nat) : BsR H a (l.take n) := by
  rcases h with h | ⟨b, o, h1, h2⟩
  · subst h; simp [BsR]
  · refine .inr ⟨b, o, h1, fun j hj => ?_⟩
    simp only [List.length_take] at hj
    rw [h2 j (by omega)]; simp
theorem BsR.drop {H : Heap} {a : Option Addr} {l : List UInt8} (h : BsR H a l) (n : Nat) : BsR H (a.map (·.add n)) (l.drop n) := by
  rcases h with h | ⟨b, o, h1, h2⟩
  · subst h; simp [BsR]
  · refine .inr ⟨b, o + n, by simp [h1, add_mk], fun j hj => ?_⟩
    simp only [List.length_drop] at hj
    rw [show o + n + j = o + (n + j) by omega, h2 (n + j) (by omega)]; simp

theorem BsR.src {P : Program} {H : Heap} {a : Option Addr} {l : List UInt8} {tx e c : Nat} (hk : P.underlying tx = some (.slice e)) (h : BsR H a l) : SrcH P H 1 tx (.slice a l.length c) l.length (l.map bv) := by
  rcases h with h | ⟨b, o, h1, h2⟩
  · subst h; exact SrcH.empty hk a c
  · subst h1
    refine SrcH.cells hk (by simp) (fun j u hj => ?_) (by simp)
    have hlt : j < l.length := by
      rcases Nat.lt_or_ge j l.length with h | h
      · exact h
      · rw [List.getElem?_eq_none (by simpa using h)] at hj; cases hj
    rw [add_mk, cellAt_mk, h2 j hlt]
    simp [hlt] at hj; rw [hj]

theorem Own.bsR {H : Heap} {a : Option Addr} {c : Nat} {l : List UInt8} {e : Nat} {g : Option Nat} (h : Own H e 1 (.slice a l.length c) l.length (l.map bv) g) : BsR H a l := by
  rcases h.2 with ⟨h1, h2, h3⟩ | ⟨b, cap, cur, h1, h2, h3, h4, h5, h6, h7⟩
  · exact .inl (List.eq_nil_of_length_eq_zero h3)
  · refine .inr ⟨b, 0, by simp at h2; exact h2.1, fun j hj => ?_⟩
    subst h1
    rw [Nat.zero_add, h.cell j (by simpa using hj)]
    simp [hj]

/-- The string of the bytes behind a slice. -/
theorem BsR.b2s {H : Heap} {a : Option Addr} {l : List UInt8} (c : Nat) (h : BsR H a l) : b2sN H (some (.slice a l.length c)) = some (.string ⟨⟨l⟩⟩) := by
  have key : ∀ (k : List UInt8) (b o i : Nat), (∀ j (h : j < k.length), cellB H b (o + i + j) = some (bv k[j])) → bytesFrom H ⟨b, o, none⟩ i k.length = some k := by
    intro k
    induction k with
    | nil => intro b o i _; rfl
    | cons x k ih =>
      intro b o i hc
      simp only [List.length_cons, bytesFrom, add_mk, cellAt_mk]
      have h0 := hc 0 (by simp)
      simp only [Nat.add_zero, List.getElem_cons_zero] at h0
      rw [h0, ih b o (i + 1) (fun j hj => by have := hc (j + 1) (by simpa using hj); simpa [Nat.add_assoc, Nat.add_comm 1 j] using this)]
      simp [bv]
  rcases h with h | ⟨b, o, h1, h2⟩
  · subst h; cases a <;> rfl
  · subst h1
    simp only [b2sN]
    rw [key l b o 0 (by simpa using h2)]

theorem Own.cap_le {H : Heap} {e z n c : Nat} {a : Option Addr} {xs : List Value} {g : Option Nat} (h : Own H e z (.slice a n c) n xs g) : n ≤ c := by
  rcases h.2 with ⟨_, h2, _⟩ | ⟨b, cap, cur, h1, h2, h3, h4, _⟩
  · simp at h2; omega
  · simp at h2; omega
theorem BsR.sub {H : Heap} {a : Option Addr} {l : List UInt8} (h : BsR H a l) (c : Nat) {lo hi : Nat} (hc : lo ≤ hi ∧ hi ≤ c) : BsR H (if c = lo then a else Option.map (fun x => x.add lo) a) ((l.drop lo).take (hi - lo)) := by
  by_cases e : c = lo
  · rw [show hi - lo = 0 by omega]; exact .inl rfl
  · rw [if_neg e]; exact (h.drop lo).take _

end Gx
end
section
/- Short words for stripped code. -/
namespace Gx
open Go
abbrev I (n : Int) : Value := .int .i64 n
abbrev C (n : Int) : Opd := .c (.int .i64 n)
abbrev Z : Value := .slice none 0 0
abbrev oT (s : SOp Opd) : GOp := .op none .t s
abbrev oN (s : SOp Opd) : GOp := .op none .no s
abbrev oS (k : Nat) (s : SOp Opd) : GOp := .op none (.s k) s
abbrev mT (x : Opd) : GOp := .op none .t (.v (.mv x))
abbrev fT (n : Nat) (x : Opd) : GOp := .op none .t (.v (.fa n x))
abbrev lT (x : Opd) : GOp := .op none .t (.ld none x)
abbrev nT (x : Opd) : GOp := .op none .t (.v (.len x))
abbrev mS (k : Nat) (x : Opd) : GOp := .op none (.s k) (.v (.mv x))
abbrev rm (x : Opd) (D : List Nat) (n : DT) : DT := .rd none .t (.v (.mv x)) D n
abbrev rf (k : Nat) (x : Opd) (D : List Nat) (n : DT) : DT := .rd none .t (.v (.fa k x)) D n
abbrev rl (x : Opd) (D : List Nat) (n : DT) : DT := .rd none .t (.ld none x) D n
/-- Two pieces of code say the same. -/
abbrev U (a b : SCode) : Prop := ∀ (P : Program) (E : Chain → Heap → Prop) (σ : Slots) (H : Heap) (Q : Post), vc P E a σ H Q = vc P E b σ H Q
abbrev S0 : Opd := .s 0
abbrev T0 : Opd := .t 0
abbrev S1 : Opd := .s 1
abbrev T1 : Opd := .t 1
abbrev S2 : Opd := .s 2
abbrev T2 : Opd := .t 2
abbrev S3 : Opd := .s 3
abbrev T3 : Opd := .t 3
abbrev S4 : Opd := .s 4
abbrev T4 : Opd := .t 4
abbrev S5 : Opd := .s 5
abbrev T5 : Opd := .t 5
abbrev S6 : Opd := .s 6
abbrev T6 : Opd := .t 6
abbrev S7 : Opd := .s 7
abbrev T7 : Opd := .t 7
abbrev S8 : Opd := .s 8
abbrev T8 : Opd := .t 8
abbrev S9 : Opd := .s 9
abbrev T9 : Opd := .t 9
abbrev S10 : Opd := .s 10
abbrev T10 : Opd := .t 10
abbrev S11 : Opd := .s 11
abbrev T11 : Opd := .t 11
abbrev S12 : Opd := .s 12
abbrev T12 : Opd := .t 12
abbrev S13 : Opd := .s 13
abbrev T13 : Opd := .t 13
abbrev S14 : Opd := .s 14
abbrev T14 : Opd := .t 14
abbrev S15 : Opd := .s 15
abbrev T15 : Opd := .t 15
abbrev S16 : Opd := .s 16
abbrev T16 : Opd := .t 16
abbrev S17 : Opd := .s 17
abbrev T17 : Opd := .t 17
abbrev S18 : Opd := .s 18
abbrev T18 : Opd := .t 18
abbrev S19 : Opd := .s 19
abbrev T19 : Opd := .t 19
abbrev S20 : Opd := .s 20
abbrev T20 : Opd := .t 20
abbrev S21 : Opd := .s 21
abbrev T21 : Opd := .t 21
abbrev S22 : Opd := .s 22
abbrev T22 : Opd := .t 22
abbrev S23 : Opd := .s 23
abbrev T23 : Opd := .t 23
abbrev S24 : Opd := .s 24
abbrev T24 : Opd := .t 24
abbrev S25 : Opd := .s 25
abbrev T25 : Opd := .t 25
abbrev S26 : Opd := .s 26
abbrev T26 : Opd := .t 26
abbrev S27 : Opd := .s 27
abbrev T27 : Opd := .t 27
abbrev S28 : Opd := .s 28
abbrev T28 : Opd := .t 28
abbrev S29 : Opd := .s 29
abbrev T29 : Opd := .t 29
abbrev S30 : Opd := .s 30
abbrev T30 : Opd := .t 30
abbrev S31 : Opd := .s 31
abbrev T31 : Opd := .t 31
abbrev S32 : Opd := .s 32
abbrev T32 : Opd := .t 32
abbrev S33 : Opd := .s 33
abbrev T33 : Opd := .t 33
abbrev S34 : Opd := .s 34
abbrev T34 : Opd := .t 34
abbrev S35 : Opd := .s 35
abbrev T35 : Opd := .t 35
abbrev S36 : Opd := .s 36
abbrev T36 : Opd := .t 36
abbrev S37 : Opd := .s 37
abbrev T37 : Opd := .t 37
abbrev S38 : Opd := .s 38
abbrev T38 : Opd := .t 38
abbrev S39 : Opd := .s 39
abbrev T39 : Opd := .t 39
end Gx
end
section
/- Generated: the stripped code of Go functions, each held against the loaded program. -/
namespace Go.Proofs.YtbgjgaaobnbijaaGreatDoor
open Gx Go

/- lexer.Lex -/
@[go_sem] def c25k : List Nat := [0, 2, 3, 4, 5, 6, 7, 8, 18, 26]
@[go_sem] def c25r0 : List GOp := [mS 1 (.c Z), oS 2 (.al 28 [(I 0), (I 0)])]
@[go_sem] def c25r1 : List GOp := [mS 3 (.c Z)]
@[go_sem] def c25r2 : List GOp := [mS 4 (C 0)]
@[go_sem] def c25r3 : List GOp := [mT S0, mT S4, oT (.call 49 [T1, T0]), mT T0, oT (.v (.ext T0 0)), oT (.v (.ext T1 1)), oT (.v (.ext T2 2)), oS 5 (.al 41 [(I 0), (.string ⟨⟨[]⟩⟩), (I 0), (I 0)]), oS 7 (.al 28 [(I 0), (I 0)]), oN (.st 4 S5 T2), mS 6 T1, oN (.st 2 S7 T0)]
@[go_sem] def c25r4 : List GOp := [fT 0 S7, lT T0, oS 8 (.v (.bin .neq T0 (C 0)))]
@[go_sem] def c25d5 : DT := (.rd none .t (.ld (some 2) S7) [2] (.rd none (.s 1) (.v (.mv (.c Z))) [2] (.ef 2 none .no (.st 2 S2 T0) .done)))
def c25s6 : SCode := (.cond S8 (.seq (.de c25d5) .ret) .skip)
@[go_sem] theorem c25s6eq : U c25s6 (.cond S8 (.seq (.de c25d5) .ret) .skip) := fun _ _ _ _ _ => rfl
@[go_sem] def c25r7 : List GOp := [mT S3, oT (.ld (some 4) S5), oT (.bs 41 1 [(I 0), (.string ⟨⟨[]⟩⟩), (I 0), (I 0)] [(0, (4, T0))]), oT (.ap 43 43 T2 T0), mS 3 T0]
@[go_sem] def c25r8 : List GOp := [fT 0 S5, lT T0, oS 9 (.v (.bin .eql T0 (C 6)))]
@[go_sem] def c25r9 : List GOp := [mT S3, oT (.v (.bld [(I 0), (I 0)] [])), mS 1 T1, oN (.st 2 S2 T0)]
def c25s10 : SCode := (.seq (.ops c25r9) .ret)
@[go_sem] theorem c25s10eq : U c25s10 (.seq (.ops c25r9) .ret) := fun _ _ _ _ _ => rfl
@[go_sem] def c25r11 : List GOp := [mT S6, mS 4 T0]
def c25s12 : SCode := (.ops c25r11)
@[go_sem] theorem c25s12eq : U c25s12 (.ops c25r11) := fun _ _ _ _ _ => rfl
def c25s13 : SCode := (.seq (.seq (.ops c25r8) (.cond S9 c25s10 .skip)) c25s12)
@[go_sem] theorem c25s13eq : U c25s13 (.seq (.seq (.ops c25r8) (.cond S9 c25s10 .skip)) c25s12) := fun _ _ _ _ _ => rfl
def c25s14 : SCode := (.seq (.ops c25r7) c25s13)
@[go_sem] theorem c25s14eq : U c25s14 (.seq (.ops c25r7) c25s13) := fun _ _ _ _ _ => rfl
def c25s15 : SCode := (.seq (.seq (.ops c25r4) c25s6) c25s14)
@[go_sem] theorem c25s15eq : U c25s15 (.seq (.seq (.ops c25r4) c25s6) c25s14) := fun _ _ _ _ _ => rfl
def c25s16 : SCode := (.block 1 (.seq (.ops c25r3) c25s15))
@[go_sem] theorem c25s16eq : U c25s16 (.block 1 (.seq (.ops c25r3) c25s15)) := fun _ _ _ _ _ => rfl
def c25s17 : SCode := (.block 0 (.loop c25k c25s16))
@[go_sem] theorem c25s17eq : U c25s17 (.block 0 (.loop c25k c25s16)) := fun _ _ _ _ _ => rfl
def c25s18 : SCode := (.seq (.ops c25r2) c25s17)
@[go_sem] theorem c25s18eq : U c25s18 (.seq (.ops c25r2) c25s17) := fun _ _ _ _ _ => rfl
def c25s19 : SCode := (.seq (.ops c25r1) c25s18)
@[go_sem] theorem c25s19eq : U c25s19 (.seq (.ops c25r1) c25s18) := fun _ _ _ _ _ => rfl
def c25 : Gx.Fn := ⟨30, c25k, (.seq (.ops c25r0) c25s19), [(.tmp S1), (.cell S2 (some 2))]⟩
theorem c25ok : stripFn Tryz.prog c25k Tryz.f25 = some c25 := by kernel_rfl

/- plexusref15.Lex -/
@[go_sem] def c33k : List Nat := [0, 2, 3, 4, 5, 6, 7, 8, 18, 26]
@[go_sem] def c33r0 : List GOp := [mS 1 (.c Z), oS 2 (.al 28 [(I 0), (I 0)])]
@[go_sem] def c33r1 : List GOp := [mS 3 (.c Z)]
@[go_sem] def c33r2 : List GOp := [mS 4 (C 0)]
@[go_sem] def c33r3 : List GOp := [mT S0, mT S4, oT (.call 52 [T1, T0]), mT T0, oT (.v (.ext T0 0)), oT (.v (.ext T1 1)), oT (.v (.ext T2 2)), oS 5 (.al 41 [(I 0), (.string ⟨⟨[]⟩⟩), (I 0), (I 0)]), oS 7 (.al 28 [(I 0), (I 0)]), oN (.st 4 S5 T2), mS 6 T1, oN (.st 2 S7 T0)]
@[go_sem] def c33r4 : List GOp := [fT 0 S7, lT T0, oS 8 (.v (.bin .neq T0 (C 0)))]
@[go_sem] def c33d5 : DT := (.rd none .t (.ld (some 2) S7) [2] (.rd none (.s 1) (.v (.mv (.c Z))) [2] (.ef 2 none .no (.st 2 S2 T0) .done)))
def c33s6 : SCode := (.cond S8 (.seq (.de c33d5) .ret) .skip)
@[go_sem] theorem c33s6eq : U c33s6 (.cond S8 (.seq (.de c33d5) .ret) .skip) := fun _ _ _ _ _ => rfl
@[go_sem] def c33r7 : List GOp := [mT S3, oT (.ld (some 4) S5), oT (.bs 41 1 [(I 0), (.string ⟨⟨[]⟩⟩), (I 0), (I 0)] [(0, (4, T0))]), oT (.ap 43 43 T2 T0), mS 3 T0]
@[go_sem] def c33r8 : List GOp := [fT 0 S5, lT T0, oS 9 (.v (.bin .eql T0 (C 6)))]
@[go_sem] def c33r9 : List GOp := [mT S3, oT (.v (.bld [(I 0), (I 0)] [])), mS 1 T1, oN (.st 2 S2 T0)]
def c33s10 : SCode := (.seq (.ops c33r9) .ret)
@[go_sem] theorem c33s10eq : U c33s10 (.seq (.ops c33r9) .ret) := fun _ _ _ _ _ => rfl
@[go_sem] def c33r11 : List GOp := [mT S6, mS 4 T0]
def c33s12 : SCode := (.ops c33r11)
@[go_sem] theorem c33s12eq : U c33s12 (.ops c33r11) := fun _ _ _ _ _ => rfl
def c33s13 : SCode := (.seq (.seq (.ops c33r8) (.cond S9 c33s10 .skip)) c33s12)
@[go_sem] theorem c33s13eq : U c33s13 (.seq (.seq (.ops c33r8) (.cond S9 c33s10 .skip)) c33s12) := fun _ _ _ _ _ => rfl
def c33s14 : SCode := (.seq (.ops c33r7) c33s13)
@[go_sem] theorem c33s14eq : U c33s14 (.seq (.ops c33r7) c33s13) := fun _ _ _ _ _ => rfl
def c33s15 : SCode := (.seq (.seq (.ops c33r4) c33s6) c33s14)
@[go_sem] theorem c33s15eq : U c33s15 (.seq (.seq (.ops c33r4) c33s6) c33s14) := fun _ _ _ _ _ => rfl
def c33s16 : SCode := (.block 1 (.seq (.ops c33r3) c33s15))
@[go_sem] theorem c33s16eq : U c33s16 (.block 1 (.seq (.ops c33r3) c33s15)) := fun _ _ _ _ _ => rfl
def c33s17 : SCode := (.block 0 (.loop c33k c33s16))
@[go_sem] theorem c33s17eq : U c33s17 (.block 0 (.loop c33k c33s16)) := fun _ _ _ _ _ => rfl
def c33s18 : SCode := (.seq (.ops c33r2) c33s17)
@[go_sem] theorem c33s18eq : U c33s18 (.seq (.ops c33r2) c33s17) := fun _ _ _ _ _ => rfl
def c33s19 : SCode := (.seq (.ops c33r1) c33s18)
@[go_sem] theorem c33s19eq : U c33s19 (.seq (.ops c33r1) c33s18) := fun _ _ _ _ _ => rfl
def c33 : Gx.Fn := ⟨30, c33k, (.seq (.ops c33r0) c33s19), [(.tmp S1), (.cell S2 (some 2))]⟩
theorem c33ok : stripFn Tryz.prog c33k Tryz.f33 = some c33 := by kernel_rfl

/- lexer.Next -/
@[go_sem] def c49k : List Nat := [0, 1, 4, 5, 6, 7, 8, 9, 10, 13, 23, 37]
@[go_sem] def c49r0 : List GOp := [oS 2 (.al 41 [(I 0), (.string ⟨⟨[]⟩⟩), (I 0), (I 0)]), mS 3 (C 0), oS 4 (.al 28 [(I 0), (I 0)])]
@[go_sem] def c49r1 : List GOp := [mT S0, oT (.v (.slen T0)), oS 9 (.v (.bin .gtr T0 (C 65536)))]
@[go_sem] def c49r2 : List GOp := [oT (.v (.bld [(I 0), (.string ⟨⟨[]⟩⟩), (I 0), (I 0)] [])), oT (.v (.bld [(I 0), (I 0)] [(0, (1, (C 6))), (1, (1, (C 65536)))])), oN (.st 4 S2 T1), mS 3 (C 0), oN (.st 2 S4 T0)]
def c49s3 : SCode := (.seq (.ops c49r2) .ret)
@[go_sem] theorem c49s3eq : U c49s3 (.seq (.ops c49r2) .ret) := fun _ _ _ _ _ => rfl
@[go_sem] def c49r4 : List GOp := [mT S1, oT (.v (.bin .lss T0 (C 0))), mT T0, (.sel T0 false [(.op (.v (.mv S1))), (.op (.v (.mv S0))), (.op (.v (.slen T0))), (.op (.v (.bin .gtr T2 T0)))] (.s 10) (.c (.bool true)) T0)]
@[go_sem] def c49r5 : List GOp := [oT (.v (.bld [(I 0), (.string ⟨⟨[]⟩⟩), (I 0), (I 0)] [])), oT (.v (.bld [(I 0), (I 0)] [(0, (1, (C 1)))])), oN (.st 4 S2 T1), mS 3 (C 0), oN (.st 2 S4 T0)]
def c49s6 : SCode := (.seq (.ops c49r5) .ret)
@[go_sem] theorem c49s6eq : U c49s6 (.seq (.ops c49r5) .ret) := fun _ _ _ _ _ => rfl
@[go_sem] def c49r7 : List GOp := [mT S0, mT S1, oT (.v (.bld [(.string ⟨⟨[]⟩⟩), (I 0)] [(0, (1, T1)), (1, (1, T0))])), oS 5 (.al 67 [(.string ⟨⟨[]⟩⟩), (I 0)]), oN (.st 2 S5 T0)]
@[go_sem] def c49r8 : List GOp := [oT (.call 64 [S5])]
@[go_sem] def c49r9 : List GOp := [fT 1 S5, lT T0, mS 6 T0]
@[go_sem] def c49r10 : List GOp := [oT (.call 65 [S5]), mT T0, oT (.v (.ext T0 0)), oT (.v (.ext T1 1)), oS 7 (.al 41 [(I 0), (.string ⟨⟨[]⟩⟩), (I 0), (I 0)]), oN (.st 4 S7 T1), mS 8 T0]
@[go_sem] def c49r11 : List GOp := [mT S8, oS 11 (.v (.bin .neq T0 (C 0)))]
@[go_sem] def c49r12 : List GOp := [oT (.v (.bld [(I 0), (.string ⟨⟨[]⟩⟩), (I 0), (I 0)] [])), mT S8, mT S6, oT (.v (.bld [(I 0), (I 0)] [(0, (1, T1)), (1, (1, T0))])), oN (.st 4 S2 T3), mS 3 (C 0), oN (.st 2 S4 T0)]
def c49s13 : SCode := (.seq (.ops c49r12) .ret)
@[go_sem] theorem c49s13eq : U c49s13 (.seq (.ops c49r12) .ret) := fun _ _ _ _ _ => rfl
def c49s14 : SCode := (.cond S11 c49s13 .skip)
@[go_sem] theorem c49s14eq : U c49s14 (.cond S11 c49s13 .skip) := fun _ _ _ _ _ => rfl
@[go_sem] def c49d15 : DT := (.rd none .t (.ld (some 4) S7) [4, 6] (rf 1 S5 [6] (rl T0 [6] (.rd none .t (.v (.bld [(I 0), (I 0)] [])) [6] (.ef 4 none .no (.st 4 S2 T3) (.rd none (.s 3) (.v (.mv T1)) [6] (.ef 6 none .no (.st 2 S4 T0) .done)))))))
def c49s16 : SCode := (.seq (.de c49d15) .ret)
@[go_sem] theorem c49s16eq : U c49s16 (.seq (.de c49d15) .ret) := fun _ _ _ _ _ => rfl
def c49s17 : SCode := (.seq (.seq (.ops c49r11) c49s14) c49s16)
@[go_sem] theorem c49s17eq : U c49s17 (.seq (.seq (.ops c49r11) c49s14) c49s16) := fun _ _ _ _ _ => rfl
def c49s18 : SCode := (.seq (.ops c49r10) c49s17)
@[go_sem] theorem c49s18eq : U c49s18 (.seq (.ops c49r10) c49s17) := fun _ _ _ _ _ => rfl
def c49s19 : SCode := (.seq (.ops c49r9) c49s18)
@[go_sem] theorem c49s19eq : U c49s19 (.seq (.ops c49r9) c49s18) := fun _ _ _ _ _ => rfl
def c49s20 : SCode := (.seq (.ops c49r8) c49s19)
@[go_sem] theorem c49s20eq : U c49s20 (.seq (.ops c49r8) c49s19) := fun _ _ _ _ _ => rfl
def c49s21 : SCode := (.seq (.ops c49r7) c49s20)
@[go_sem] theorem c49s21eq : U c49s21 (.seq (.ops c49r7) c49s20) := fun _ _ _ _ _ => rfl
def c49s22 : SCode := (.seq (.seq (.ops c49r4) (.cond S10 c49s6 .skip)) c49s21)
@[go_sem] theorem c49s22eq : U c49s22 (.seq (.seq (.ops c49r4) (.cond S10 c49s6 .skip)) c49s21) := fun _ _ _ _ _ => rfl
def c49s23 : SCode := (.seq (.seq (.ops c49r1) (.cond S9 c49s3 .skip)) c49s22)
@[go_sem] theorem c49s23eq : U c49s23 (.seq (.seq (.ops c49r1) (.cond S9 c49s3 .skip)) c49s22) := fun _ _ _ _ _ => rfl
def c49 : Gx.Fn := ⟨46, c49k, (.seq (.ops c49r0) c49s23), [(.cell S2 (some 4)), (.tmp S3), (.cell S4 (some 2))]⟩
theorem c49ok : stripFn Tryz.prog c49k Tryz.f49 = some c49 := by kernel_rfl

/- plexusref15.Next -/
@[go_sem] def c52k : List Nat := [0, 1, 4, 5, 6, 7, 10, 22, 33]
@[go_sem] def c52r0 : List GOp := [oS 2 (.al 41 [(I 0), (.string ⟨⟨[]⟩⟩), (I 0), (I 0)]), mS 3 (C 0), oS 4 (.al 28 [(I 0), (I 0)])]
@[go_sem] def c52r1 : List GOp := [mT S0, oT (.v (.slen T0)), oS 6 (.v (.bin .gtr T0 (C 65536)))]
@[go_sem] def c52r2 : List GOp := [oT (.call 67 [(C 6), (C 65536)]), oT (.v (.ext T0 0)), oT (.v (.ext T1 1)), oT (.v (.ext T2 2)), oN (.st 4 S2 T2), mS 3 T1, oN (.st 2 S4 T0)]
def c52s3 : SCode := (.seq (.ops c52r2) .ret)
@[go_sem] theorem c52s3eq : U c52s3 (.seq (.ops c52r2) .ret) := fun _ _ _ _ _ => rfl
@[go_sem] def c52r4 : List GOp := [mT S1, oT (.v (.bin .lss T0 (C 0))), mT T0, (.sel T0 false [(.op (.v (.mv S1))), (.op (.v (.mv S0))), (.op (.v (.slen T0))), (.op (.v (.bin .gtr T2 T0)))] (.s 7) (.c (.bool true)) T0)]
@[go_sem] def c52r5 : List GOp := [oT (.call 67 [(C 1), (C 0)]), oT (.v (.ext T0 0)), oT (.v (.ext T1 1)), oT (.v (.ext T2 2)), oN (.st 4 S2 T2), mS 3 T1, oN (.st 2 S4 T0)]
def c52s6 : SCode := (.seq (.ops c52r5) .ret)
@[go_sem] theorem c52s6eq : U c52s6 (.seq (.ops c52r5) .ret) := fun _ _ _ _ _ => rfl
@[go_sem] def c52r7 : List GOp := [mT S0, mT S1, oT (.call 68 [T1, T0]), mS 5 T0]
@[go_sem] def c52r8 : List GOp := [mT S5, mT S0, oT (.v (.slen T0)), oS 8 (.v (.bin .eql T2 T0))]
@[go_sem] def c52r9 : List GOp := [mT S5, oT (.v (.bld [(I 0), (.string ⟨⟨[]⟩⟩), (I 0), (I 0)] [(0, (1, (C 6))), (3, (1, T0))])), mT S5, oT (.v (.bld [(I 0), (I 0)] [])), oN (.st 4 S2 T2), mS 3 T1, oN (.st 2 S4 T0)]
def c52s10 : SCode := (.seq (.ops c52r9) .ret)
@[go_sem] theorem c52s10eq : U c52s10 (.seq (.ops c52r9) .ret) := fun _ _ _ _ _ => rfl
@[go_sem] def c52r11 : List GOp := [mT S0, mT S5, oT (.call 69 [T1, T0]), oT (.v (.ext T0 0)), oT (.v (.ext T1 1)), oT (.v (.ext T2 2)), oN (.st 4 S2 T2), mS 3 T1, oN (.st 2 S4 T0)]
def c52s12 : SCode := (.seq (.ops c52r11) .ret)
@[go_sem] theorem c52s12eq : U c52s12 (.seq (.ops c52r11) .ret) := fun _ _ _ _ _ => rfl
def c52s13 : SCode := (.seq (.seq (.ops c52r8) (.cond S8 c52s10 .skip)) c52s12)
@[go_sem] theorem c52s13eq : U c52s13 (.seq (.seq (.ops c52r8) (.cond S8 c52s10 .skip)) c52s12) := fun _ _ _ _ _ => rfl
def c52s14 : SCode := (.seq (.ops c52r7) c52s13)
@[go_sem] theorem c52s14eq : U c52s14 (.seq (.ops c52r7) c52s13) := fun _ _ _ _ _ => rfl
def c52s15 : SCode := (.seq (.seq (.ops c52r4) (.cond S7 c52s6 .skip)) c52s14)
@[go_sem] theorem c52s15eq : U c52s15 (.seq (.seq (.ops c52r4) (.cond S7 c52s6 .skip)) c52s14) := fun _ _ _ _ _ => rfl
def c52s16 : SCode := (.seq (.seq (.ops c52r1) (.cond S6 c52s3 .skip)) c52s15)
@[go_sem] theorem c52s16eq : U c52s16 (.seq (.seq (.ops c52r1) (.cond S6 c52s3 .skip)) c52s15) := fun _ _ _ _ _ => rfl
def c52 : Gx.Fn := ⟨44, c52k, (.seq (.ops c52r0) c52s16), [(.cell S2 (some 4)), (.tmp S3), (.cell S4 (some 2))]⟩
theorem c52ok : stripFn Tryz.prog c52k Tryz.f52 = some c52 := by kernel_rfl

/- (*lexer.scanner).skip -/
@[go_sem] def c64k : List Nat := [0, 25]
@[go_sem] def c64r0 : List GOp := [mT S0, oT (.call 72 [T0, (.f 73)])]
@[go_sem] def c64r1 : List GOp := [mT S0, oT (.v (.nc T0)), fT 1 T0, lT T0, mT S0, oT (.v (.nc T0)), fT 0 T0, lT T0, oT (.v (.slen T0)), oT (.v (.bin .geq T5 T0)), mT T0, (.op (some (T0, (false, true))) .t (.v (.mv S0))), (.op (some (T1, (false, false))) .t (.v (.nc T0))), (.op (some (T2, (false, false))) .t (.v (.fa 0 T0))), (.op (some (T3, (false, false))) .t (.ld none T0)), (.op (some (T4, (false, false))) .t (.v (.mv S0))), (.op (some (T5, (false, false))) .t (.v (.nc T0))), (.op (some (T6, (false, false))) .t (.v (.fa 1 T0))), (.op (some (T7, (false, false))) .t (.ld none T0)), (.op (some (T8, (false, false))) .t (.v (.six T4 T0))), (.op (some (T9, (false, false))) .t (.v (.bin .neq T0 (.c (.int .u8 35))))), oS 1 (.v (.pick T10 (.c (.bool true)) T0))]
@[go_sem] def c64r2 : List GOp := [mT S0, oT (.call 72 [T0, (.f 74)])]
def c64s3 : SCode := (.ops c64r2)
@[go_sem] theorem c64s3eq : U c64s3 (.ops c64r2) := fun _ _ _ _ _ => rfl
def c64s4 : SCode := (.seq (.seq (.dq c64r1) (.cond S1 .ret .skip)) c64s3)
@[go_sem] theorem c64s4eq : U c64s4 (.seq (.seq (.dq c64r1) (.cond S1 .ret .skip)) c64s3) := fun _ _ _ _ _ => rfl
def c64s5 : SCode := (.block 1 (.seq (.ops c64r0) c64s4))
@[go_sem] theorem c64s5eq : U c64s5 (.block 1 (.seq (.ops c64r0) c64s4)) := fun _ _ _ _ _ => rfl
def c64 : Gx.Fn := ⟨28, c64k, (.block 0 (.loop c64k c64s5)), []⟩
theorem c64ok : stripFn Tryz.prog c64k Tryz.f64 = some c64 := by kernel_rfl

/- (*lexer.scanner).token -/
@[go_sem] def c65k : List Nat := [0, 2, 3, 4, 5, 6, 7, 8, 9, 24, 64, 85, 95, 105, 109, 111, 123, 135, 140, 174, 186]
@[go_sem] def c65r0 : List GOp := [oS 1 (.al 41 [(I 0), (.string ⟨⟨[]⟩⟩), (I 0), (I 0)]), mS 2 (C 0)]
@[go_sem] def c65r1 : List GOp := [mT S0, oT (.v (.nc T0)), fT 1 T0, lT T0, oT (.v (.bld [(I 0), (.string ⟨⟨[]⟩⟩), (I 0), (I 0)] [(3, (1, T0))])), oS 3 (.al 41 [(I 0), (.string ⟨⟨[]⟩⟩), (I 0), (I 0)]), oN (.st 4 S3 T0)]
@[go_sem] def c65r2 : List GOp := [mT S0, oT (.v (.nc T0)), fT 1 T0, lT T0, mT S0, oT (.v (.nc T0)), fT 0 T0, lT T0, oT (.v (.slen T0)), oS 9 (.v (.bin .eql T5 T0))]
@[go_sem] def c65r3 : List GOp := [fT 0 S3, oN (.st 1 T0 (C 6))]
@[go_sem] def c65r4 : List GOp := [oT (.ld (some 4) S3), oN (.st 4 S1 T0), mS 2 (C 0)]
def c65s5 : SCode := (.seq (.ops c65r4) .ret)
@[go_sem] theorem c65s5eq : U c65s5 (.seq (.ops c65r4) .ret) := fun _ _ _ _ _ => rfl
def c65s6 : SCode := (.seq (.ops c65r3) c65s5)
@[go_sem] theorem c65s6eq : U c65s6 (.seq (.ops c65r3) c65s5) := fun _ _ _ _ _ => rfl
@[go_sem] def c65r7 : List GOp := [mT S0, oT (.v (.nc T0)), fT 0 T0, lT T0, mT S0, oT (.v (.nc T0)), fT 1 T0, lT T0, oT (.v (.six T4 T0)), mS 4 T0]
@[go_sem] def c65r8 : List GOp := [mT S4, oT (.call 75 [T0]), mS 12 T0]
@[go_sem] def c65r9 : List GOp := [mT S0, oT (.call 72 [T0, (.f 76)]), fT 1 S3, oN (.st 1 T0 T1)]
@[go_sem] def c65r10 : List GOp := [fT 0 S3, oN (.st 1 T0 (C 1))]
@[go_sem] def c65r11 : List GOp := [fT 1 S3, lT T0, oT (.v (.slen T0)), oS 13 (.v (.bin .gtr T0 (C 16)))]
@[go_sem] def c65r12 : List GOp := [oT (.ld (some 4) S3), oN (.st 4 S1 T0), mS 2 (C 3)]
def c65s13 : SCode := (.seq (.ops c65r12) .ret)
@[go_sem] theorem c65s13eq : U c65s13 (.seq (.ops c65r12) .ret) := fun _ _ _ _ _ => rfl
def c65s14 : SCode := (.cond S13 c65s13 .skip)
@[go_sem] theorem c65s14eq : U c65s14 (.cond S13 c65s13 .skip) := fun _ _ _ _ _ => rfl
@[go_sem] def c65r15 : List GOp := [fT 1 S3, lT T0, oS 14 (.call 77 [T0])]
@[go_sem] def c65r16 : List GOp := [fT 0 S3, oN (.st 1 T0 (C 2))]
def c65s17 : SCode := (.cond S14 (.ops c65r16) .skip)
@[go_sem] theorem c65s17eq : U c65s17 (.cond S14 (.ops c65r16) .skip) := fun _ _ _ _ _ => rfl
def c65s18 : SCode := (.seq (.ops c65r15) c65s17)
@[go_sem] theorem c65s18eq : U c65s18 (.seq (.ops c65r15) c65s17) := fun _ _ _ _ _ => rfl
def c65s19 : SCode := (.seq (.seq (.ops c65r11) c65s14) c65s18)
@[go_sem] theorem c65s19eq : U c65s19 (.seq (.seq (.ops c65r11) c65s14) c65s18) := fun _ _ _ _ _ => rfl
def c65s20 : SCode := (.seq (.ops c65r10) c65s19)
@[go_sem] theorem c65s20eq : U c65s20 (.seq (.ops c65r10) c65s19) := fun _ _ _ _ _ => rfl
def c65s21 : SCode := (.seq (.ops c65r9) c65s20)
@[go_sem] theorem c65s21eq : U c65s21 (.seq (.ops c65r9) c65s20) := fun _ _ _ _ _ => rfl
@[go_sem] def c65r22 : List GOp := [mT S4, oT (.call 78 [T0]), mS 15 T0]
@[go_sem] def c65r23 : List GOp := [mT S0, oT (.call 72 [T0, (.f 78)]), mS 5 T0]
@[go_sem] def c65r24 : List GOp := [mT S5, oT (.v (.slen T0)), oT (.v (.bin .gtr T0 (C 1))), mT T0, (.op (some (T0, (true, true))) .t (.v (.mv S5))), (.op (some (T1, (true, false))) .t (.v (.six T0 (C 0)))), (.op (some (T2, (true, false))) .t (.v (.bin .eql T0 (.c (.int .u8 48))))), oS 16 (.v (.pick T3 T0 (.c (.bool false))))]
@[go_sem] def c65r25 : List GOp := [oT (.ld (some 4) S3), oN (.st 4 S1 T0), mS 2 (C 2)]
def c65s26 : SCode := (.seq (.ops c65r25) .ret)
@[go_sem] theorem c65s26eq : U c65s26 (.seq (.ops c65r25) .ret) := fun _ _ _ _ _ => rfl
def c65s27 : SCode := (.cond S16 c65s26 .skip)
@[go_sem] theorem c65s27eq : U c65s27 (.cond S16 c65s26 .skip) := fun _ _ _ _ _ => rfl
@[go_sem] def c65r28 : List GOp := [mT S5, oT (.call 79 [T0, (C 10), (C 64)]), mT T0, oT (.v (.ext T0 0)), oT (.v (.ext T1 1)), mS 6 T1, mS 7 T0]
@[go_sem] def c65r29 : List GOp := [mT S7, oT (.v (.isnilf true T0)), mT T0, (.sel T0 false [(.op (.v (.mv S6))), (.op (.v (.bin .gtr T0 (C 1000000000000000))))] (.s 17) (.c (.bool true)) T0)]
@[go_sem] def c65r30 : List GOp := [oT (.ld (some 4) S3), oN (.st 4 S1 T0), mS 2 (C 5)]
def c65s31 : SCode := (.seq (.ops c65r30) .ret)
@[go_sem] theorem c65s31eq : U c65s31 (.seq (.ops c65r30) .ret) := fun _ _ _ _ _ => rfl
def c65s32 : SCode := (.cond S17 c65s31 .skip)
@[go_sem] theorem c65s32eq : U c65s32 (.cond S17 c65s31 .skip) := fun _ _ _ _ _ => rfl
@[go_sem] def c65r33 : List GOp := [mT S6, fT 0 S3, oN (.st 1 T0 (C 3)), fT 2 S3, oN (.st 1 T0 T2)]
def c65s34 : SCode := (.ops c65r33)
@[go_sem] theorem c65s34eq : U c65s34 (.ops c65r33) := fun _ _ _ _ _ => rfl
def c65s35 : SCode := (.seq (.seq (.ops c65r29) c65s32) c65s34)
@[go_sem] theorem c65s35eq : U c65s35 (.seq (.seq (.ops c65r29) c65s32) c65s34) := fun _ _ _ _ _ => rfl
def c65s36 : SCode := (.seq (.ops c65r28) c65s35)
@[go_sem] theorem c65s36eq : U c65s36 (.seq (.ops c65r28) c65s35) := fun _ _ _ _ _ => rfl
def c65s37 : SCode := (.seq (.seq (.ops c65r24) c65s27) c65s36)
@[go_sem] theorem c65s37eq : U c65s37 (.seq (.seq (.ops c65r24) c65s27) c65s36) := fun _ _ _ _ _ => rfl
def c65s38 : SCode := (.seq (.ops c65r23) c65s37)
@[go_sem] theorem c65s38eq : U c65s38 (.seq (.ops c65r23) c65s37) := fun _ _ _ _ _ => rfl
@[go_sem] def c65r39 : List GOp := [mT S4, oT (.v (.bin .eql T0 (.c (.int .u8 39)))), mS 18 T0]
@[go_sem] def c65r40 : List GOp := [mT S0, oT (.v (.nc T0)), fT 1 T0, lT T0, oT (.v (.bin .add T0 (C 1))), oT (.v (.nc T4)), fT 1 T0, oN (.st 1 T0 T2)]
@[go_sem] def c65r41 : List GOp := [mT S0, oT (.call 72 [T0, (.f 76)]), fT 1 S3, oN (.st 1 T0 T1)]
@[go_sem] def c65r42 : List GOp := [mT S0, oT (.v (.nc T0)), fT 1 T0, lT T0, mT S0, oT (.v (.nc T0)), fT 0 T0, lT T0, oT (.v (.slen T0)), oT (.v (.bin .eql T5 T0)), mT T0, (.op (some (T0, (false, true))) .t (.v (.mv S0))), (.op (some (T1, (false, false))) .t (.v (.nc T0))), (.op (some (T2, (false, false))) .t (.v (.fa 0 T0))), (.op (some (T3, (false, false))) .t (.ld none T0)), (.op (some (T4, (false, false))) .t (.v (.mv S0))), (.op (some (T5, (false, false))) .t (.v (.nc T0))), (.op (some (T6, (false, false))) .t (.v (.fa 1 T0))), (.op (some (T7, (false, false))) .t (.ld none T0)), (.op (some (T8, (false, false))) .t (.v (.six T4 T0))), (.op (some (T9, (false, false))) .t (.v (.bin .neq T0 (.c (.int .u8 39))))), oS 19 (.v (.pick T10 (.c (.bool true)) T0))]
@[go_sem] def c65r43 : List GOp := [oT (.ld (some 4) S3), oN (.st 4 S1 T0), mS 2 (C 2)]
def c65s44 : SCode := (.seq (.ops c65r43) .ret)
@[go_sem] theorem c65s44eq : U c65s44 (.seq (.ops c65r43) .ret) := fun _ _ _ _ _ => rfl
def c65s45 : SCode := (.cond S19 c65s44 .skip)
@[go_sem] theorem c65s45eq : U c65s45 (.cond S19 c65s44 .skip) := fun _ _ _ _ _ => rfl
@[go_sem] def c65r46 : List GOp := [mT S0, oT (.v (.nc T0)), fT 1 T0, lT T0, oT (.v (.bin .add T0 (C 1))), oT (.v (.nc T4)), fT 1 T0, oN (.st 1 T0 T2)]
@[go_sem] def c65r47 : List GOp := [fT 1 S3, lT T0, oT (.call 80 [T0]), oS 20 (.v (.un .not T0))]
@[go_sem] def c65r48 : List GOp := [oT (.ld (some 4) S3), oN (.st 4 S1 T0), mS 2 (C 3)]
def c65s49 : SCode := (.seq (.ops c65r48) .ret)
@[go_sem] theorem c65s49eq : U c65s49 (.seq (.ops c65r48) .ret) := fun _ _ _ _ _ => rfl
def c65s50 : SCode := (.cond S20 c65s49 .skip)
@[go_sem] theorem c65s50eq : U c65s50 (.cond S20 c65s49 .skip) := fun _ _ _ _ _ => rfl
@[go_sem] def c65r51 : List GOp := [fT 0 S3, oN (.st 1 T0 (C 4))]
def c65s52 : SCode := (.ops c65r51)
@[go_sem] theorem c65s52eq : U c65s52 (.ops c65r51) := fun _ _ _ _ _ => rfl
def c65s53 : SCode := (.seq (.seq (.ops c65r47) c65s50) c65s52)
@[go_sem] theorem c65s53eq : U c65s53 (.seq (.seq (.ops c65r47) c65s50) c65s52) := fun _ _ _ _ _ => rfl
def c65s54 : SCode := (.seq (.ops c65r46) c65s53)
@[go_sem] theorem c65s54eq : U c65s54 (.seq (.ops c65r46) c65s53) := fun _ _ _ _ _ => rfl
def c65s55 : SCode := (.seq (.seq (.dq c65r42) c65s45) c65s54)
@[go_sem] theorem c65s55eq : U c65s55 (.seq (.seq (.dq c65r42) c65s45) c65s54) := fun _ _ _ _ _ => rfl
def c65s56 : SCode := (.seq (.ops c65r41) c65s55)
@[go_sem] theorem c65s56eq : U c65s56 (.seq (.ops c65r41) c65s55) := fun _ _ _ _ _ => rfl
def c65s57 : SCode := (.seq (.ops c65r40) c65s56)
@[go_sem] theorem c65s57eq : U c65s57 (.seq (.ops c65r40) c65s56) := fun _ _ _ _ _ => rfl
@[go_sem] def c65r58 : List GOp := [mS 8 (C 2)]
@[go_sem] def c65d59 : DT := (rm S0 [26] (.rd none .t (.v (.nc T0)) [26] (rf 1 T0 [26] (rl T0 [26] (.rd none .t (.v (.bin .add T0 (C 2))) [26] (rm S0 [26] (.rd none .t (.v (.nc T0)) [26] (rf 0 T0 [26] (rl T0 [26] (.rd none .t (.v (.slen T0)) [26] (.rd none .t (.v (.bin .gtr T5 T0)) [26] (rm T0 [26] (.rd (some (T0, false)) .t (.v (.mv S0)) [26] (.rd (some (T1, false)) .t (.v (.nc T0)) [26] (.rd (some (T2, false)) .t (.v (.fa 0 T0)) [26] (.rd (some (T3, false)) .t (.ld none T0) [26] (.rd (some (T4, false)) .t (.v (.mv S0)) [26] (.rd (some (T5, false)) .t (.v (.nc T0)) [26] (.rd (some (T6, false)) .t (.v (.fa 1 T0)) [26] (.rd (some (T7, false)) .t (.ld none T0) [26] (.rd (some (T8, false)) .t (.v (.mv S0)) [26] (.rd (some (T9, false)) .t (.v (.nc T0)) [26] (.rd (some (T10, false)) .t (.v (.fa 1 T0)) [26] (.rd (some (T11, false)) .t (.ld none T0) [26] (.rd (some (T12, false)) .t (.v (.bin .add T0 (C 2))) [26] (.rd (some (T13, false)) .t (.v (.ssl T9 (some T5) (some T0))) [26] (.ef 26 (some (T14, false)) .t (.call 81 [T0]) (.rd (some (T15, false)) .t (.v (.un .not T0)) [] (.rd none (.s 10) (.v (.pick T16 (.c (.bool true)) T0)) [] .done)))))))))))))))))))))))))))))
@[go_sem] def c65r60 : List GOp := [mS 8 (C 1)]
def c65s61 : SCode := (.cond S10 (.ops c65r60) .skip)
@[go_sem] theorem c65s61eq : U c65s61 (.cond S10 (.ops c65r60) .skip) := fun _ _ _ _ _ => rfl
@[go_sem] def c65d62 : DT := (rm S0 [18] (.rd none .t (.v (.nc T0)) [18] (rf 0 T0 [18] (rl T0 [18] (rm S0 [18] (.rd none .t (.v (.nc T0)) [18] (rf 1 T0 [18] (rl T0 [18] (rm S0 [18] (.rd none .t (.v (.nc T0)) [18] (rf 1 T0 [18] (rl T0 [18] (rm S8 [18] (.rd none .t (.v (.bin .add T1 T0)) [18] (.rd none .t (.v (.ssl T10 (some T6) (some T0))) [18] (rf 0 S3 [16, 18] (.ef 16 none .no (.st 1 T0 (C 5)) (rf 1 S3 [18] (.ef 18 none .no (.st 1 T0 T2) .done)))))))))))))))))))
@[go_sem] def c65r63 : List GOp := [fT 1 S3, lT T0, oT (.call 81 [T0]), oS 11 (.v (.un .not T0))]
@[go_sem] def c65r64 : List GOp := [oT (.ld (some 4) S3), oN (.st 4 S1 T0), mS 2 (C 2)]
def c65s65 : SCode := (.seq (.ops c65r64) .ret)
@[go_sem] theorem c65s65eq : U c65s65 (.seq (.ops c65r64) .ret) := fun _ _ _ _ _ => rfl
def c65s66 : SCode := (.cond S11 c65s65 .skip)
@[go_sem] theorem c65s66eq : U c65s66 (.cond S11 c65s65 .skip) := fun _ _ _ _ _ => rfl
@[go_sem] def c65r67 : List GOp := [mT S0, oT (.v (.nc T0)), fT 1 T0, lT T0, mT S8, oT (.v (.bin .add T1 T0)), oT (.v (.nc T5)), fT 1 T0, oN (.st 1 T0 T2)]
def c65s68 : SCode := (.ops c65r67)
@[go_sem] theorem c65s68eq : U c65s68 (.ops c65r67) := fun _ _ _ _ _ => rfl
def c65s69 : SCode := (.seq (.seq (.ops c65r63) c65s66) c65s68)
@[go_sem] theorem c65s69eq : U c65s69 (.seq (.seq (.ops c65r63) c65s66) c65s68) := fun _ _ _ _ _ => rfl
def c65s70 : SCode := (.seq (.de c65d62) c65s69)
@[go_sem] theorem c65s70eq : U c65s70 (.seq (.de c65d62) c65s69) := fun _ _ _ _ _ => rfl
def c65s71 : SCode := (.seq (.seq (.de c65d59) c65s61) c65s70)
@[go_sem] theorem c65s71eq : U c65s71 (.seq (.seq (.de c65d59) c65s61) c65s70) := fun _ _ _ _ _ => rfl
def c65s72 : SCode := (.seq (.ops c65r58) c65s71)
@[go_sem] theorem c65s72eq : U c65s72 (.seq (.ops c65r58) c65s71) := fun _ _ _ _ _ => rfl
def c65s73 : SCode := (.cond S18 c65s57 c65s72)
@[go_sem] theorem c65s73eq : U c65s73 (.cond S18 c65s57 c65s72) := fun _ _ _ _ _ => rfl
def c65s74 : SCode := (.seq (.ops c65r39) c65s73)
@[go_sem] theorem c65s74eq : U c65s74 (.seq (.ops c65r39) c65s73) := fun _ _ _ _ _ => rfl
def c65s75 : SCode := (.cond S15 c65s38 c65s74)
@[go_sem] theorem c65s75eq : U c65s75 (.cond S15 c65s38 c65s74) := fun _ _ _ _ _ => rfl
def c65s76 : SCode := (.seq (.ops c65r22) c65s75)
@[go_sem] theorem c65s76eq : U c65s76 (.seq (.ops c65r22) c65s75) := fun _ _ _ _ _ => rfl
def c65s77 : SCode := (.cond S12 c65s21 c65s76)
@[go_sem] theorem c65s77eq : U c65s77 (.cond S12 c65s21 c65s76) := fun _ _ _ _ _ => rfl
@[go_sem] def c65r78 : List GOp := [oT (.ld (some 4) S3), oN (.st 4 S1 T0), mS 2 (C 0)]
def c65s79 : SCode := (.seq (.ops c65r78) .ret)
@[go_sem] theorem c65s79eq : U c65s79 (.seq (.ops c65r78) .ret) := fun _ _ _ _ _ => rfl
def c65s80 : SCode := (.seq (.block 0 (.seq (.ops c65r8) c65s77)) c65s79)
@[go_sem] theorem c65s80eq : U c65s80 (.seq (.block 0 (.seq (.ops c65r8) c65s77)) c65s79) := fun _ _ _ _ _ => rfl
def c65s81 : SCode := (.seq (.dq c65r7) c65s80)
@[go_sem] theorem c65s81eq : U c65s81 (.seq (.dq c65r7) c65s80) := fun _ _ _ _ _ => rfl
def c65s82 : SCode := (.seq (.seq (.dq c65r2) (.cond S9 c65s6 .skip)) c65s81)
@[go_sem] theorem c65s82eq : U c65s82 (.seq (.seq (.dq c65r2) (.cond S9 c65s6 .skip)) c65s81) := fun _ _ _ _ _ => rfl
def c65s83 : SCode := (.seq (.ops c65r1) c65s82)
@[go_sem] theorem c65s83eq : U c65s83 (.seq (.ops c65r1) c65s82) := fun _ _ _ _ _ => rfl
def c65 : Gx.Fn := ⟨190, c65k, (.seq (.ops c65r0) c65s83), [(.cell S1 (some 4)), (.tmp S2)]⟩
theorem c65ok : stripFn Tryz.prog c65k Tryz.f65 = some c65 := by kernel_rfl

/- plexusref15.fault -/
@[go_sem] def c67k : List Nat := [0, 1, 4, 5, 6]
@[go_sem] def c67r0 : List GOp := [oS 2 (.al 41 [(I 0), (.string ⟨⟨[]⟩⟩), (I 0), (I 0)]), mS 3 (C 0), oS 4 (.al 28 [(I 0), (I 0)])]
@[go_sem] def c67r1 : List GOp := [oT (.v (.bld [(I 0), (.string ⟨⟨[]⟩⟩), (I 0), (I 0)] [])), mT S0, mT S1, oT (.v (.bld [(I 0), (I 0)] [(0, (1, T1)), (1, (1, T0))])), oN (.st 4 S2 T3), mS 3 (C 0), oN (.st 2 S4 T0)]
def c67s2 : SCode := (.seq (.ops c67r1) .ret)
@[go_sem] theorem c67s2eq : U c67s2 (.seq (.ops c67r1) .ret) := fun _ _ _ _ _ => rfl
def c67 : Gx.Fn := ⟨11, c67k, (.seq (.ops c67r0) c67s2), [(.cell S2 (some 4)), (.tmp S3), (.cell S4 (some 2))]⟩
theorem c67ok : stripFn Tryz.prog c67k Tryz.f67 = some c67 := by kernel_rfl

/- plexusref15.skip -/
@[go_sem] def c68k : List Nat := [0, 1, 4, 20, 24, 36]
@[go_sem] def c68r0 : List GOp := [mS 2 (C 0)]
@[go_sem] def c68r1 : List GOp := [mT S1, mT S0, oT (.v (.slen T0)), oT (.v (.bin .lss T2 T0)), mT T0, (.op (some (T0, (true, true))) .t (.v (.mv S0))), (.op (some (T1, (true, false))) .t (.v (.mv S1))), (.op (some (T2, (true, false))) .t (.v (.six T1 T0))), (.op (some (T3, (true, false))) .t (.call 83 [T0])), (.op (some (T4, (true, false))) .t (.v (.mv T0))), (.op (some (T0, (false, true))) .t (.v (.mv S0))), (.op (some (T1, (false, false))) .t (.v (.mv S1))), (.op (some (T2, (false, false))) .t (.v (.six T1 T0))), (.op (some (T3, (false, false))) .t (.v (.bin .eql T0 (.c (.int .u8 35))))), (.op (some (T9, (true, true))) .t (.v (.pick T4 (.c (.bool true)) T0))), oS 3 (.v (.pick T10 T0 (.c (.bool false))))]
def c68s2 : SCode := (.cond S3 .skip (.exit 0))
@[go_sem] theorem c68s2eq : U c68s2 (.cond S3 .skip (.exit 0)) := fun _ _ _ _ _ => rfl
@[go_sem] def c68r3 : List GOp := [mT S0, mT S1, oT (.v (.six T1 T0)), oS 4 (.v (.bin .neq T0 (.c (.int .u8 35))))]
@[go_sem] def c68r4 : List GOp := [mT S1, oT (.v (.bin .add T0 (C 1))), mS 1 T0]
def c68s5 : SCode := (.seq (.ops c68r4) (.exit 1))
@[go_sem] theorem c68s5eq : U c68s5 (.seq (.ops c68r4) (.exit 1)) := fun _ _ _ _ _ => rfl
@[go_sem] def c68r6 : List GOp := [mT S1, mT S0, oT (.v (.slen T0)), oT (.v (.bin .lss T2 T0)), mT T0, (.op (some (T0, (true, true))) .t (.v (.mv S0))), (.op (some (T1, (true, false))) .t (.v (.mv S1))), (.op (some (T2, (true, false))) .t (.v (.six T1 T0))), (.op (some (T3, (true, false))) .t (.v (.bin .neq T0 (.c (.int .u8 10))))), oS 5 (.v (.pick T4 T0 (.c (.bool false))))]
def c68s7 : SCode := (.cond S5 .skip (.exit 2))
@[go_sem] theorem c68s7eq : U c68s7 (.cond S5 .skip (.exit 2)) := fun _ _ _ _ _ => rfl
@[go_sem] def c68r8 : List GOp := [mT S1, oT (.v (.bin .add T0 (C 1))), mS 1 T0]
def c68s9 : SCode := (.seq (.seq (.ops c68r6) c68s7) (.block 3 (.ops c68r8)))
@[go_sem] theorem c68s9eq : U c68s9 (.seq (.seq (.ops c68r6) c68s7) (.block 3 (.ops c68r8))) := fun _ _ _ _ _ => rfl
def c68s10 : SCode := (.block 2 (.loop c68k c68s9))
@[go_sem] theorem c68s10eq : U c68s10 (.block 2 (.loop c68k c68s9)) := fun _ _ _ _ _ => rfl
def c68s11 : SCode := (.block 1 (.seq (.seq (.ops c68r3) (.cond S4 c68s5 .skip)) c68s10))
@[go_sem] theorem c68s11eq : U c68s11 (.block 1 (.seq (.seq (.ops c68r3) (.cond S4 c68s5 .skip)) c68s10)) := fun _ _ _ _ _ => rfl
def c68s12 : SCode := (.seq (.seq (.ops c68r1) c68s2) c68s11)
@[go_sem] theorem c68s12eq : U c68s12 (.seq (.seq (.ops c68r1) c68s2) c68s11) := fun _ _ _ _ _ => rfl
@[go_sem] def c68r13 : List GOp := [mT S1, mS 2 T0]
def c68s14 : SCode := (.seq (.ops c68r13) .ret)
@[go_sem] theorem c68s14eq : U c68s14 (.seq (.ops c68r13) .ret) := fun _ _ _ _ _ => rfl
def c68s15 : SCode := (.seq (.block 0 (.loop c68k c68s12)) c68s14)
@[go_sem] theorem c68s15eq : U c68s15 (.seq (.block 0 (.loop c68k c68s12)) c68s14) := fun _ _ _ _ _ => rfl
def c68 : Gx.Fn := ⟨40, c68k, (.seq (.ops c68r0) c68s15), [(.tmp S2)]⟩
theorem c68ok : stripFn Tryz.prog c68k Tryz.f68 = some c68 := by kernel_rfl

/- plexusref15.token -/
@[go_sem] def c69k : List Nat := [0, 1, 4, 5, 6, 7, 8, 9, 10, 11, 12, 13, 18, 25, 35, 46, 54, 68, 80, 100, 126]
@[go_sem] def c69r0 : List GOp := [oS 2 (.al 41 [(I 0), (.string ⟨⟨[]⟩⟩), (I 0), (I 0)]), mS 3 (C 0), oS 4 (.al 28 [(I 0), (I 0)])]
@[go_sem] def c69r1 : List GOp := [mT S0, mT S1, oT (.v (.six T1 T0)), mS 5 T0]
@[go_sem] def c69r2 : List GOp := [mT S5, oS 12 (.call 84 [T0])]
@[go_sem] def c69r3 : List GOp := [mT S0, mT S1, oT (.call 85 [T1, T0]), mS 6 T0]
@[go_sem] def c69r4 : List GOp := [mT S6, mT S1, oT (.v (.bin .sub T1 T0)), oS 13 (.v (.bin .gtr T0 (C 16)))]
@[go_sem] def c69r5 : List GOp := [mT S1, oT (.call 67 [(C 3), T0]), oT (.v (.ext T0 0)), oT (.v (.ext T1 1)), oT (.v (.ext T2 2)), oN (.st 4 S2 T2), mS 3 T1, oN (.st 2 S4 T0)]
def c69s6 : SCode := (.seq (.ops c69r5) .ret)
@[go_sem] theorem c69s6eq : U c69s6 (.seq (.ops c69r5) .ret) := fun _ _ _ _ _ => rfl
@[go_sem] def c69r7 : List GOp := [mS 7 (C 1)]
@[go_sem] def c69r8 : List GOp := [mT S0, mT S1, mT S6, oT (.v (.ssl T2 (some T1) (some T0))), oS 14 (.call 86 [T0])]
@[go_sem] def c69r9 : List GOp := [mS 7 (C 2)]
def c69s10 : SCode := (.cond S14 (.ops c69r9) .skip)
@[go_sem] theorem c69s10eq : U c69s10 (.cond S14 (.ops c69r9) .skip) := fun _ _ _ _ _ => rfl
@[go_sem] def c69r11 : List GOp := [mT S7, mT S0, mT S1, mT S6, oT (.v (.ssl T2 (some T1) (some T0))), mT S1, oT (.v (.bld [(I 0), (.string ⟨⟨[]⟩⟩), (I 0), (I 0)] [(0, (1, T5)), (1, (1, T1)), (3, (1, T0))])), mT S6, oT (.v (.bld [(I 0), (I 0)] [])), oN (.st 4 S2 T2), mS 3 T1, oN (.st 2 S4 T0)]
def c69s12 : SCode := (.seq (.ops c69r11) .ret)
@[go_sem] theorem c69s12eq : U c69s12 (.seq (.ops c69r11) .ret) := fun _ _ _ _ _ => rfl
def c69s13 : SCode := (.seq (.seq (.ops c69r8) c69s10) c69s12)
@[go_sem] theorem c69s13eq : U c69s13 (.seq (.seq (.ops c69r8) c69s10) c69s12) := fun _ _ _ _ _ => rfl
def c69s14 : SCode := (.seq (.ops c69r7) c69s13)
@[go_sem] theorem c69s14eq : U c69s14 (.seq (.ops c69r7) c69s13) := fun _ _ _ _ _ => rfl
def c69s15 : SCode := (.seq (.seq (.ops c69r4) (.cond S13 c69s6 .skip)) c69s14)
@[go_sem] theorem c69s15eq : U c69s15 (.seq (.seq (.ops c69r4) (.cond S13 c69s6 .skip)) c69s14) := fun _ _ _ _ _ => rfl
def c69s16 : SCode := (.seq (.ops c69r3) c69s15)
@[go_sem] theorem c69s16eq : U c69s16 (.seq (.ops c69r3) c69s15) := fun _ _ _ _ _ => rfl
def c69s17 : SCode := (.cond S12 c69s16 .skip)
@[go_sem] theorem c69s17eq : U c69s17 (.cond S12 c69s16 .skip) := fun _ _ _ _ _ => rfl
@[go_sem] def c69r18 : List GOp := [mT S5, oS 15 (.call 87 [T0])]
@[go_sem] def c69r19 : List GOp := [mT S0, mT S1, oT (.call 88 [T1, T0]), oT (.v (.ext T0 0)), oT (.v (.ext T1 1)), oT (.v (.ext T2 2)), oN (.st 4 S2 T2), mS 3 T1, oN (.st 2 S4 T0)]
def c69s20 : SCode := (.seq (.ops c69r19) .ret)
@[go_sem] theorem c69s20eq : U c69s20 (.seq (.ops c69r19) .ret) := fun _ _ _ _ _ => rfl
def c69s21 : SCode := (.cond S15 c69s20 .skip)
@[go_sem] theorem c69s21eq : U c69s21 (.cond S15 c69s20 .skip) := fun _ _ _ _ _ => rfl
@[go_sem] def c69r22 : List GOp := [mT S5, oS 16 (.v (.bin .eql T0 (.c (.int .u8 39))))]
@[go_sem] def c69r23 : List GOp := [mT S0, mT S1, oT (.v (.bin .add T0 (C 1))), oT (.call 85 [T2, T0]), mS 8 T0]
@[go_sem] def c69r24 : List GOp := [mT S8, mT S0, oT (.v (.slen T0)), oT (.v (.bin .eql T2 T0)), mT T0, (.op (some (T0, (false, true))) .t (.v (.mv S0))), (.op (some (T1, (false, false))) .t (.v (.mv S8))), (.op (some (T2, (false, false))) .t (.v (.six T1 T0))), (.op (some (T3, (false, false))) .t (.v (.bin .neq T0 (.c (.int .u8 39))))), oS 17 (.v (.pick T4 (.c (.bool true)) T0))]
@[go_sem] def c69r25 : List GOp := [mT S1, oT (.call 67 [(C 2), T0]), oT (.v (.ext T0 0)), oT (.v (.ext T1 1)), oT (.v (.ext T2 2)), oN (.st 4 S2 T2), mS 3 T1, oN (.st 2 S4 T0)]
def c69s26 : SCode := (.seq (.ops c69r25) .ret)
@[go_sem] theorem c69s26eq : U c69s26 (.seq (.ops c69r25) .ret) := fun _ _ _ _ _ => rfl
def c69s27 : SCode := (.cond S17 c69s26 .skip)
@[go_sem] theorem c69s27eq : U c69s27 (.cond S17 c69s26 .skip) := fun _ _ _ _ _ => rfl
@[go_sem] def c69r28 : List GOp := [mT S0, mT S1, oT (.v (.bin .add T0 (C 1))), mT S8, oT (.v (.ssl T3 (some T1) (some T0))), oT (.call 89 [T0]), oS 18 (.v (.un .not T0))]
@[go_sem] def c69r29 : List GOp := [mT S1, oT (.call 67 [(C 3), T0]), oT (.v (.ext T0 0)), oT (.v (.ext T1 1)), oT (.v (.ext T2 2)), oN (.st 4 S2 T2), mS 3 T1, oN (.st 2 S4 T0)]
def c69s30 : SCode := (.seq (.ops c69r29) .ret)
@[go_sem] theorem c69s30eq : U c69s30 (.seq (.ops c69r29) .ret) := fun _ _ _ _ _ => rfl
def c69s31 : SCode := (.cond S18 c69s30 .skip)
@[go_sem] theorem c69s31eq : U c69s31 (.cond S18 c69s30 .skip) := fun _ _ _ _ _ => rfl
@[go_sem] def c69r32 : List GOp := [mT S0, mT S1, oT (.v (.bin .add T0 (C 1))), mT S8, oT (.v (.ssl T3 (some T1) (some T0))), mT S1, oT (.v (.bld [(I 0), (.string ⟨⟨[]⟩⟩), (I 0), (I 0)] [(0, (1, (C 4))), (1, (1, T1)), (3, (1, T0))])), mT S8, oT (.v (.bin .add T0 (C 1))), oT (.v (.bld [(I 0), (I 0)] [])), oN (.st 4 S2 T3), mS 3 T1, oN (.st 2 S4 T0)]
def c69s33 : SCode := (.seq (.ops c69r32) .ret)
@[go_sem] theorem c69s33eq : U c69s33 (.seq (.ops c69r32) .ret) := fun _ _ _ _ _ => rfl
def c69s34 : SCode := (.seq (.seq (.ops c69r28) c69s31) c69s33)
@[go_sem] theorem c69s34eq : U c69s34 (.seq (.seq (.ops c69r28) c69s31) c69s33) := fun _ _ _ _ _ => rfl
def c69s35 : SCode := (.seq (.seq (.ops c69r24) c69s27) c69s34)
@[go_sem] theorem c69s35eq : U c69s35 (.seq (.seq (.ops c69r24) c69s27) c69s34) := fun _ _ _ _ _ => rfl
def c69s36 : SCode := (.seq (.ops c69r23) c69s35)
@[go_sem] theorem c69s36eq : U c69s36 (.seq (.ops c69r23) c69s35) := fun _ _ _ _ _ => rfl
def c69s37 : SCode := (.cond S16 c69s36 .skip)
@[go_sem] theorem c69s37eq : U c69s37 (.cond S16 c69s36 .skip) := fun _ _ _ _ _ => rfl
@[go_sem] def c69r38 : List GOp := [oT (.call 90 []), mS 9 T0]
@[go_sem] def c69r39 : List GOp := [mS 10 (C 0)]
@[go_sem] def c69r40 : List GOp := [mT S10, mT S9, nT T0, oS 19 (.v (.bin .lss T2 T0))]
def c69s41 : SCode := (.cond S19 .skip (.exit 0))
@[go_sem] theorem c69s41eq : U c69s41 (.cond S19 .skip (.exit 0)) := fun _ _ _ _ _ => rfl
@[go_sem] def c69r42 : List GOp := [mT S9, mT S10, oT (.v (.ix 1 T1 T0)), lT T0, oT (.v (.slen T0)), mS 11 T0]
@[go_sem] def c69r43 : List GOp := [mT S0, oT (.v (.slen T0)), mT S1, oT (.v (.bin .sub T1 T0)), mT S11, oT (.v (.bin .geq T1 T0)), mT T0, (.op (some (T0, (true, true))) .t (.v (.mv S0))), (.op (some (T1, (true, false))) .t (.v (.mv S1))), (.op (some (T2, (true, false))) .t (.v (.mv S1))), (.op (some (T3, (true, false))) .t (.v (.mv S11))), (.op (some (T4, (true, false))) .t (.v (.bin .add T1 T0))), (.op (some (T5, (true, false))) .t (.v (.ssl T4 (some T3) (some T0)))), (.op (some (T6, (true, false))) .t (.v (.mv S9))), (.op (some (T7, (true, false))) .t (.v (.mv S10))), (.op (some (T8, (true, false))) .t (.v (.ix 1 T1 T0))), (.op (some (T9, (true, false))) .t (.ld none T0)), (.op (some (T10, (true, false))) .t (.v (.bin .eql T4 T0))), oS 20 (.v (.pick T11 T0 (.c (.bool false))))]
@[go_sem] def c69r44 : List GOp := [mT S9, mT S10, oT (.v (.ix 1 T1 T0)), lT T0, mT S1, oT (.v (.bld [(I 0), (.string ⟨⟨[]⟩⟩), (I 0), (I 0)] [(0, (1, (C 5))), (1, (1, T1)), (3, (1, T0))])), mT S1, mT S11, oT (.v (.bin .add T1 T0)), oT (.v (.bld [(I 0), (I 0)] [])), oN (.st 4 S2 T4), mS 3 T1, oN (.st 2 S4 T0)]
def c69s45 : SCode := (.seq (.ops c69r44) .ret)
@[go_sem] theorem c69s45eq : U c69s45 (.seq (.ops c69r44) .ret) := fun _ _ _ _ _ => rfl
def c69s46 : SCode := (.cond S20 c69s45 .skip)
@[go_sem] theorem c69s46eq : U c69s46 (.cond S20 c69s45 .skip) := fun _ _ _ _ _ => rfl
def c69s47 : SCode := (.seq (.dq c69r43) c69s46)
@[go_sem] theorem c69s47eq : U c69s47 (.seq (.dq c69r43) c69s46) := fun _ _ _ _ _ => rfl
@[go_sem] def c69r48 : List GOp := [mT S10, oT (.v (.bin .add T0 (C 1))), mS 10 T0]
def c69s49 : SCode := (.ops c69r48)
@[go_sem] theorem c69s49eq : U c69s49 (.ops c69r48) := fun _ _ _ _ _ => rfl
def c69s50 : SCode := (.seq (.block 1 (.seq (.ops c69r42) c69s47)) c69s49)
@[go_sem] theorem c69s50eq : U c69s50 (.seq (.block 1 (.seq (.ops c69r42) c69s47)) c69s49) := fun _ _ _ _ _ => rfl
def c69s51 : SCode := (.seq (.seq (.ops c69r40) c69s41) c69s50)
@[go_sem] theorem c69s51eq : U c69s51 (.seq (.seq (.ops c69r40) c69s41) c69s50) := fun _ _ _ _ _ => rfl
def c69s52 : SCode := (.block 0 (.loop c69k c69s51))
@[go_sem] theorem c69s52eq : U c69s52 (.block 0 (.loop c69k c69s51)) := fun _ _ _ _ _ => rfl
@[go_sem] def c69r53 : List GOp := [mT S1, oT (.call 67 [(C 2), T0]), oT (.v (.ext T0 0)), oT (.v (.ext T1 1)), oT (.v (.ext T2 2)), oN (.st 4 S2 T2), mS 3 T1, oN (.st 2 S4 T0)]
def c69s54 : SCode := (.seq (.ops c69r53) .ret)
@[go_sem] theorem c69s54eq : U c69s54 (.seq (.ops c69r53) .ret) := fun _ _ _ _ _ => rfl
def c69s55 : SCode := (.seq (.seq (.ops c69r39) c69s52) c69s54)
@[go_sem] theorem c69s55eq : U c69s55 (.seq (.seq (.ops c69r39) c69s52) c69s54) := fun _ _ _ _ _ => rfl
def c69s56 : SCode := (.seq (.ops c69r38) c69s55)
@[go_sem] theorem c69s56eq : U c69s56 (.seq (.ops c69r38) c69s55) := fun _ _ _ _ _ => rfl
def c69s57 : SCode := (.seq (.seq (.ops c69r22) c69s37) c69s56)
@[go_sem] theorem c69s57eq : U c69s57 (.seq (.seq (.ops c69r22) c69s37) c69s56) := fun _ _ _ _ _ => rfl
def c69s58 : SCode := (.seq (.seq (.ops c69r18) c69s21) c69s57)
@[go_sem] theorem c69s58eq : U c69s58 (.seq (.seq (.ops c69r18) c69s21) c69s57) := fun _ _ _ _ _ => rfl
def c69s59 : SCode := (.seq (.seq (.ops c69r2) c69s17) c69s58)
@[go_sem] theorem c69s59eq : U c69s59 (.seq (.seq (.ops c69r2) c69s17) c69s58) := fun _ _ _ _ _ => rfl
def c69s60 : SCode := (.seq (.ops c69r1) c69s59)
@[go_sem] theorem c69s60eq : U c69s60 (.seq (.ops c69r1) c69s59) := fun _ _ _ _ _ => rfl
def c69 : Gx.Fn := ⟨142, c69k, (.seq (.ops c69r0) c69s60), [(.cell S2 (some 4)), (.tmp S3), (.cell S4 (some 2))]⟩
theorem c69ok : stripFn Tryz.prog c69k Tryz.f69 = some c69 := by kernel_rfl

/- (*lexer.scanner).run -/
@[go_sem] def c72k : List Nat := [0, 1, 4, 5, 32]
@[go_sem] def c72r0 : List GOp := [mS 2 (.c (.string ⟨⟨[]⟩⟩))]
@[go_sem] def c72r1 : List GOp := [mT S0, oT (.v (.nc T0)), fT 1 T0, lT T0, mS 3 T0]
@[go_sem] def c72d2 : DT := (rm S0 [21] (.rd none .t (.v (.nc T0)) [21] (rf 1 T0 [21] (rl T0 [21] (rm S0 [21] (.rd none .t (.v (.nc T0)) [21] (rf 0 T0 [21] (rl T0 [21] (.rd none .t (.v (.slen T0)) [21] (.rd none .t (.v (.bin .lss T5 T0)) [21] (rm T0 [21] (.rd (some (T0, true)) .t (.v (.mv S1)) [21] (.rd (some (T1, true)) .t (.v (.mv S0)) [21] (.rd (some (T2, true)) .t (.v (.nc T0)) [21] (.rd (some (T3, true)) .t (.v (.fa 0 T0)) [21] (.rd (some (T4, true)) .t (.ld none T0) [21] (.rd (some (T5, true)) .t (.v (.mv S0)) [21] (.rd (some (T6, true)) .t (.v (.nc T0)) [21] (.rd (some (T7, true)) .t (.v (.fa 1 T0)) [21] (.rd (some (T8, true)) .t (.ld none T0) [21] (.rd (some (T9, true)) .t (.v (.six T4 T0)) [21] (.ef 21 (some (T10, true)) .t (.cv T9 [T0]) (.rd none (.s 4) (.v (.pick T11 T0 (.c (.bool false)))) [] .done)))))))))))))))))))))))
def c72s3 : SCode := (.cond S4 .skip (.exit 0))
@[go_sem] theorem c72s3eq : U c72s3 (.cond S4 .skip (.exit 0)) := fun _ _ _ _ _ => rfl
@[go_sem] def c72r4 : List GOp := [mT S0, oT (.v (.nc T0)), fT 1 T0, lT T0, oT (.v (.bin .add T0 (C 1))), oT (.v (.nc T4)), fT 1 T0, oN (.st 1 T0 T2)]
def c72s5 : SCode := (.seq (.seq (.de c72d2) c72s3) (.block 1 (.ops c72r4)))
@[go_sem] theorem c72s5eq : U c72s5 (.seq (.seq (.de c72d2) c72s3) (.block 1 (.ops c72r4))) := fun _ _ _ _ _ => rfl
@[go_sem] def c72r6 : List GOp := [mT S0, oT (.v (.nc T0)), fT 0 T0, lT T0, mT S3, mT S0, oT (.v (.nc T0)), fT 1 T0, lT T0, oT (.v (.ssl T5 (some T4) (some T0))), mS 2 T0]
def c72s7 : SCode := (.seq (.block 0 (.loop c72k c72s5)) (.seq (.dq c72r6) .ret))
@[go_sem] theorem c72s7eq : U c72s7 (.seq (.block 0 (.loop c72k c72s5)) (.seq (.dq c72r6) .ret)) := fun _ _ _ _ _ => rfl
def c72s8 : SCode := (.seq (.ops c72r1) c72s7)
@[go_sem] theorem c72s8eq : U c72s8 (.seq (.ops c72r1) c72s7) := fun _ _ _ _ _ => rfl
def c72 : Gx.Fn := ⟨50, c72k, (.seq (.ops c72r0) c72s8), [(.tmp S2)]⟩
theorem c72ok : stripFn Tryz.prog c72k Tryz.f72 = some c72 := by kernel_rfl

/- (*lexer.scanner).skip$1 -/
@[go_sem] def c73k : List Nat := [0, 2]
@[go_sem] def c73r0 : List GOp := [mS 1 (.c (.bool false))]
@[go_sem] def c73r1 : List GOp := [mT S0, oT (.v (.bin .eql T0 (.c (.int .u8 32)))), mT T0, (.sel T0 false [(.op (.v (.mv S0))), (.op (.v (.bin .eql T0 (.c (.int .u8 9)))))] .t (.c (.bool true)) T0), mT T0, (.sel T0 false [(.op (.v (.mv S0))), (.op (.v (.bin .eql T0 (.c (.int .u8 10)))))] .t (.c (.bool true)) T0), mT T0, (.sel T0 false [(.op (.v (.mv S0))), (.op (.v (.bin .eql T0 (.c (.int .u8 13)))))] .t (.c (.bool true)) T0), mS 1 T0]
def c73s2 : SCode := (.seq (.ops c73r1) .ret)
@[go_sem] theorem c73s2eq : U c73s2 (.seq (.ops c73r1) .ret) := fun _ _ _ _ _ => rfl
def c73 : Gx.Fn := ⟨17, c73k, (.seq (.ops c73r0) c73s2), [(.tmp S1)]⟩
theorem c73ok : stripFn Tryz.prog c73k Tryz.f73 = some c73 := by kernel_rfl

/- (*lexer.scanner).skip$2 -/
@[go_sem] def c74k : List Nat := [0, 2]
@[go_sem] def c74r0 : List GOp := [mS 1 (.c (.bool false))]
@[go_sem] def c74r1 : List GOp := [mT S0, oT (.v (.bin .neq T0 (.c (.int .u8 10)))), mS 1 T0]
def c74s2 : SCode := (.seq (.ops c74r1) .ret)
@[go_sem] theorem c74s2eq : U c74s2 (.seq (.ops c74r1) .ret) := fun _ _ _ _ _ => rfl
def c74 : Gx.Fn := ⟨5, c74k, (.seq (.ops c74r0) c74s2), [(.tmp S1)]⟩
theorem c74ok : stripFn Tryz.prog c74k Tryz.f74 = some c74 := by kernel_rfl

/- lexer.letter -/
@[go_sem] def c75k : List Nat := [0, 2]
@[go_sem] def c75r0 : List GOp := [mS 1 (.c (.bool false))]
@[go_sem] def c75r1 : List GOp := [mT S0, oT (.v (.bin .geq T0 (.c (.int .u8 97)))), mT T0, (.sel T0 true [(.op (.v (.mv S0))), (.op (.v (.bin .leq T0 (.c (.int .u8 122)))))] .t T0 (.c (.bool false))), mS 1 T0]
def c75s2 : SCode := (.seq (.ops c75r1) .ret)
@[go_sem] theorem c75s2eq : U c75s2 (.seq (.ops c75r1) .ret) := fun _ _ _ _ _ => rfl
def c75 : Gx.Fn := ⟨9, c75k, (.seq (.ops c75r0) c75s2), [(.tmp S1)]⟩
theorem c75ok : stripFn Tryz.prog c75k Tryz.f75 = some c75 := by kernel_rfl

/- lexer.part -/
@[go_sem] def c76k : List Nat := [0, 2]
@[go_sem] def c76r0 : List GOp := [mS 1 (.c (.bool false))]
@[go_sem] def c76r1 : List GOp := [mT S0, oT (.call 75 [T0]), mT T0, (.op (some (T0, (false, true))) .t (.v (.mv S0))), (.op (some (T1, (false, false))) .t (.call 78 [T0])), oT (.v (.pick T2 (.c (.bool true)) T0)), mT T0, (.sel T0 false [(.op (.v (.mv S0))), (.op (.v (.bin .eql T0 (.c (.int .u8 45)))))] .t (.c (.bool true)) T0), mS 1 T0]
def c76s2 : SCode := (.seq (.ops c76r1) .ret)
@[go_sem] theorem c76s2eq : U c76s2 (.seq (.ops c76r1) .ret) := fun _ _ _ _ _ => rfl
def c76 : Gx.Fn := ⟨13, c76k, (.seq (.ops c76r0) c76s2), [(.tmp S1)]⟩
theorem c76ok : stripFn Tryz.prog c76k Tryz.f76 = some c76 := by kernel_rfl

/- lexer.Keyword -/
@[go_sem] def c77k : List Nat := [0, 2, 3]
@[go_sem] def c77r0 : List GOp := [mS 1 (.c (.bool false))]
@[go_sem] def c77r1 : List GOp := [oT (.bs 9 44 [(.string ⟨⟨[]⟩⟩), (.string ⟨⟨[]⟩⟩), (.string ⟨⟨[]⟩⟩), (.string ⟨⟨[]⟩⟩), (.string ⟨⟨[]⟩⟩), (.string ⟨⟨[]⟩⟩), (.string ⟨⟨[]⟩⟩), (.string ⟨⟨[]⟩⟩), (.string ⟨⟨[]⟩⟩), (.string ⟨⟨[]⟩⟩), (.string ⟨⟨[]⟩⟩), (.string ⟨⟨[]⟩⟩), (.string ⟨⟨[]⟩⟩), (.string ⟨⟨[]⟩⟩), (.string ⟨⟨[]⟩⟩), (.string ⟨⟨[]⟩⟩), (.string ⟨⟨[]⟩⟩), (.string ⟨⟨[]⟩⟩), (.string ⟨⟨[]⟩⟩), (.string ⟨⟨[]⟩⟩), (.string ⟨⟨[]⟩⟩), (.string ⟨⟨[]⟩⟩), (.string ⟨⟨[]⟩⟩), (.string ⟨⟨[]⟩⟩), (.string ⟨⟨[]⟩⟩), (.string ⟨⟨[]⟩⟩), (.string ⟨⟨[]⟩⟩), (.string ⟨⟨[]⟩⟩), (.string ⟨⟨[]⟩⟩), (.string ⟨⟨[]⟩⟩), (.string ⟨⟨[]⟩⟩), (.string ⟨⟨[]⟩⟩), (.string ⟨⟨[]⟩⟩), (.string ⟨⟨[]⟩⟩), (.string ⟨⟨[]⟩⟩), (.string ⟨⟨[]⟩⟩), (.string ⟨⟨[]⟩⟩), (.string ⟨⟨[]⟩⟩), (.string ⟨⟨[]⟩⟩), (.string ⟨⟨[]⟩⟩), (.string ⟨⟨[]⟩⟩), (.string ⟨⟨[]⟩⟩), (.string ⟨⟨[]⟩⟩), (.string ⟨⟨[]⟩⟩)] [(0, (1, (.c (.string ⟨⟨[97, 110, 100]⟩⟩)))), (1, (1, (.c (.string ⟨⟨[98, 111, 111, 108]⟩⟩)))), (2, (1, (.c (.string ⟨⟨[98, 111, 116, 116, 111, 109]⟩⟩)))), (3, (1, (.c (.string ⟨⟨[99, 108, 111, 115, 101, 100]⟩⟩)))), (4, (1, (.c (.string ⟨⟨[99, 111, 110, 102, 108, 105, 99, 116]⟩⟩)))), (5, (1, (.c (.string ⟨⟨[101, 108, 115, 101]⟩⟩)))), (6, (1, (.c (.string ⟨⟨[102, 97, 108, 115, 101]⟩⟩)))), (7, (1, (.c (.string ⟨⟨[102, 105, 114, 115, 116]⟩⟩)))), (8, (1, (.c (.string ⟨⟨[102, 108, 97, 103]⟩⟩)))), (9, (1, (.c (.string ⟨⟨[102, 108, 97, 116]⟩⟩)))), (10, (1, (.c (.string ⟨⟨[105, 102]⟩⟩)))), (11, (1, (.c (.string ⟨⟨[105, 110]⟩⟩)))), (12, (1, (.c (.string ⟨⟨[105, 110, 116]⟩⟩)))), (13, (1, (.c (.string ⟨⟨[106, 111, 105, 110]⟩⟩)))), (14, (1, (.c (.string ⟨⟨[107, 101, 121, 115]⟩⟩)))), (15, (1, (.c (.string ⟨⟨[108, 97, 116, 116, 105, 99, 101]⟩⟩)))), (16, (1, (.c (.string ⟨⟨[108, 101, 113]⟩⟩)))), (17, (1, (.c (.string ⟨⟨[108, 101, 120]⟩⟩)))), (18, (1, (.c (.string ⟨⟨[109, 97, 112]⟩⟩)))), (19, (1, (.c (.string ⟨⟨[109, 97, 120]⟩⟩)))), (20, (1, (.c (.string ⟨⟨[109, 105, 110]⟩⟩)))), (21, (1, (.c (.string ⟨⟨[110, 97, 109, 101]⟩⟩)))), (22, (1, (.c (.string ⟨⟨[110, 97, 109, 101, 115]⟩⟩)))), (23, (1, (.c (.string ⟨⟨[110, 111, 116]⟩⟩)))), (24, (1, (.c (.string ⟨⟨[110, 117, 109]⟩⟩)))), (25, (1, (.c (.string ⟨⟨[110, 117, 109, 98, 101, 114]⟩⟩)))), (26, (1, (.c (.string ⟨⟨[111, 98, 106, 101, 99, 116]⟩⟩)))), (27, (1, (.c (.string ⟨⟨[111, 110]⟩⟩)))), (28, (1, (.c (.string ⟨⟨[111, 110, 101]⟩⟩)))), (29, (1, (.c (.string ⟨⟨[111, 114]⟩⟩)))), (30, (1, (.c (.string ⟨⟨[112, 97, 105, 114]⟩⟩)))), (31, (1, (.c (.string ⟨⟨[113, 117, 101, 114, 121]⟩⟩)))), (32, (1, (.c (.string ⟨⟨[114, 101, 99]⟩⟩)))), (33, (1, (.c (.string ⟨⟨[114, 101, 103, 105, 115, 116, 101, 114]⟩⟩)))), (34, (1, (.c (.string ⟨⟨[115]⟩⟩)))), (35, (1, (.c (.string ⟨⟨[115, 101, 99, 111, 110, 100]⟩⟩)))), (36, (1, (.c (.string ⟨⟨[115, 101, 116]⟩⟩)))), (37, (1, (.c (.string ⟨⟨[115, 105, 122, 101]⟩⟩)))), (38, (1, (.c (.string ⟨⟨[115, 117, 109]⟩⟩)))), (39, (1, (.c (.string ⟨⟨[116, 104, 101, 110]⟩⟩)))), (40, (1, (.c (.string ⟨⟨[116, 114, 117, 101]⟩⟩)))), (41, (1, (.c (.string ⟨⟨[117, 112, 100, 97, 116, 101]⟩⟩)))), (42, (1, (.c (.string ⟨⟨[118, 97, 108, 117, 101, 115]⟩⟩)))), (43, (1, (.c (.string ⟨⟨[119, 114, 105, 116, 101]⟩⟩))))]), mS 2 T0]
@[go_sem] def c77r2 : List GOp := [mT S2, mT S0, oT (.call 92 [T1, T0]), mS 1 T0]
def c77s3 : SCode := (.seq (.ops c77r2) .ret)
@[go_sem] theorem c77s3eq : U c77s3 (.seq (.ops c77r2) .ret) := fun _ _ _ _ _ => rfl
def c77s4 : SCode := (.seq (.ops c77r1) c77s3)
@[go_sem] theorem c77s4eq : U c77s4 (.seq (.ops c77r1) c77s3) := fun _ _ _ _ _ => rfl
def c77 : Gx.Fn := ⟨8, c77k, (.seq (.ops c77r0) c77s4), [(.tmp S1)]⟩
theorem c77ok : stripFn Tryz.prog c77k Tryz.f77 = some c77 := by kernel_rfl

/- lexer.digit -/
@[go_sem] def c78k : List Nat := [0, 2]
@[go_sem] def c78r0 : List GOp := [mS 1 (.c (.bool false))]
@[go_sem] def c78r1 : List GOp := [mT S0, oT (.v (.bin .geq T0 (.c (.int .u8 48)))), mT T0, (.sel T0 true [(.op (.v (.mv S0))), (.op (.v (.bin .leq T0 (.c (.int .u8 57)))))] .t T0 (.c (.bool false))), mS 1 T0]
def c78s2 : SCode := (.seq (.ops c78r1) .ret)
@[go_sem] theorem c78s2eq : U c78s2 (.seq (.ops c78r1) .ret) := fun _ _ _ _ _ => rfl
def c78 : Gx.Fn := ⟨9, c78k, (.seq (.ops c78r0) c78s2), [(.tmp S1)]⟩
theorem c78ok : stripFn Tryz.prog c78k Tryz.f78 = some c78 := by kernel_rfl

/- names.Valid -/
@[go_sem] def c80k : List Nat := [0, 2, 3, 21, 23, 24, 25, 31]
@[go_sem] def c80r0 : List GOp := [mS 1 (.c (.bool false))]
@[go_sem] def c80r1 : List GOp := [mT S0, oT (.v (.slen T0)), oT (.v (.bin .eql T0 (C 0))), mT T0, (.sel T0 false [(.op (.v (.mv S0))), (.op (.v (.slen T0))), (.op (.v (.bin .gtr T0 (C 16))))] .t (.c (.bool true)) T0), mT T0, (.op (some (T0, (false, true))) .t (.v (.mv S0))), (.op (some (T1, (false, false))) .t (.v (.six T0 (C 0)))), (.op (some (T2, (false, false))) .t (.v (.bin .lss T0 (.c (.int .u8 97))))), oT (.v (.pick T3 (.c (.bool true)) T0)), mT T0, (.op (some (T0, (false, true))) .t (.v (.mv S0))), (.op (some (T1, (false, false))) .t (.v (.six T0 (C 0)))), (.op (some (T2, (false, false))) .t (.v (.bin .gtr T0 (.c (.int .u8 122))))), oS 3 (.v (.pick T3 (.c (.bool true)) T0))]
@[go_sem] def c80r2 : List GOp := [mS 1 (.c (.bool false))]
def c80s3 : SCode := (.seq (.ops c80r2) .ret)
@[go_sem] theorem c80s3eq : U c80s3 (.seq (.ops c80r2) .ret) := fun _ _ _ _ _ => rfl
@[go_sem] def c80r4 : List GOp := [mT S0, oS 4 (.v (.slen T0)), mS 5 (C 0)]
@[go_sem] def c80r5 : List GOp := [oS 6 (.v (.bin .lss S5 S4))]
@[go_sem] def c80r6 : List GOp := [mT S5, mS 2 T0]
@[go_sem] def c80r7 : List GOp := [mT S0, mT S2, oT (.v (.six T1 T0)), oT (.call 95 [T0]), oS 7 (.v (.un .not T0))]
@[go_sem] def c80r8 : List GOp := [mS 1 (.c (.bool false))]
def c80s9 : SCode := (.seq (.ops c80r8) .ret)
@[go_sem] theorem c80s9eq : U c80s9 (.seq (.ops c80r8) .ret) := fun _ _ _ _ _ => rfl
def c80s10 : SCode := (.seq (.ops c80r7) (.cond S7 c80s9 .skip))
@[go_sem] theorem c80s10eq : U c80s10 (.seq (.ops c80r7) (.cond S7 c80s9 .skip)) := fun _ _ _ _ _ => rfl
@[go_sem] def c80r11 : List GOp := [oT (.v (.bin .add S5 (C 1))), mS 5 T0]
def c80s12 : SCode := (.ops c80r11)
@[go_sem] theorem c80s12eq : U c80s12 (.ops c80r11) := fun _ _ _ _ _ => rfl
def c80s13 : SCode := (.seq (.block 1 (.seq (.ops c80r6) c80s10)) c80s12)
@[go_sem] theorem c80s13eq : U c80s13 (.seq (.block 1 (.seq (.ops c80r6) c80s10)) c80s12) := fun _ _ _ _ _ => rfl
def c80s14 : SCode := (.seq (.cond S6 .skip (.exit 0)) c80s13)
@[go_sem] theorem c80s14eq : U c80s14 (.seq (.cond S6 .skip (.exit 0)) c80s13) := fun _ _ _ _ _ => rfl
def c80s15 : SCode := (.seq (.ops c80r5) c80s14)
@[go_sem] theorem c80s15eq : U c80s15 (.seq (.ops c80r5) c80s14) := fun _ _ _ _ _ => rfl
def c80s16 : SCode := (.block 0 (.loop c80k c80s15))
@[go_sem] theorem c80s16eq : U c80s16 (.block 0 (.loop c80k c80s15)) := fun _ _ _ _ _ => rfl
@[go_sem] def c80r17 : List GOp := [mS 1 (.c (.bool true))]
def c80s18 : SCode := (.seq (.ops c80r17) .ret)
@[go_sem] theorem c80s18eq : U c80s18 (.seq (.ops c80r17) .ret) := fun _ _ _ _ _ => rfl
def c80s19 : SCode := (.seq (.seq (.ops c80r4) c80s16) c80s18)
@[go_sem] theorem c80s19eq : U c80s19 (.seq (.seq (.ops c80r4) c80s16) c80s18) := fun _ _ _ _ _ => rfl
def c80s20 : SCode := (.seq (.seq (.ops c80r1) (.cond S3 c80s3 .skip)) c80s19)
@[go_sem] theorem c80s20eq : U c80s20 (.seq (.seq (.ops c80r1) (.cond S3 c80s3 .skip)) c80s19) := fun _ _ _ _ _ => rfl
def c80 : Gx.Fn := ⟨33, c80k, (.seq (.ops c80r0) c80s20), [(.tmp S1)]⟩
theorem c80ok : stripFn Tryz.prog c80k Tryz.f80 = some c80 := by kernel_rfl

/- lexer.Sign -/
@[go_sem] def c81k : List Nat := [0, 2, 3]
@[go_sem] def c81r0 : List GOp := [mS 1 (.c (.bool false))]
@[go_sem] def c81r1 : List GOp := [oT (.bs 9 17 [(.string ⟨⟨[]⟩⟩), (.string ⟨⟨[]⟩⟩), (.string ⟨⟨[]⟩⟩), (.string ⟨⟨[]⟩⟩), (.string ⟨⟨[]⟩⟩), (.string ⟨⟨[]⟩⟩), (.string ⟨⟨[]⟩⟩), (.string ⟨⟨[]⟩⟩), (.string ⟨⟨[]⟩⟩), (.string ⟨⟨[]⟩⟩), (.string ⟨⟨[]⟩⟩), (.string ⟨⟨[]⟩⟩), (.string ⟨⟨[]⟩⟩), (.string ⟨⟨[]⟩⟩), (.string ⟨⟨[]⟩⟩), (.string ⟨⟨[]⟩⟩), (.string ⟨⟨[]⟩⟩)] [(0, (1, (.c (.string ⟨⟨[61]⟩⟩)))), (1, (1, (.c (.string ⟨⟨[58]⟩⟩)))), (2, (1, (.c (.string ⟨⟨[59]⟩⟩)))), (3, (1, (.c (.string ⟨⟨[44]⟩⟩)))), (4, (1, (.c (.string ⟨⟨[40]⟩⟩)))), (5, (1, (.c (.string ⟨⟨[41]⟩⟩)))), (6, (1, (.c (.string ⟨⟨[123]⟩⟩)))), (7, (1, (.c (.string ⟨⟨[125]⟩⟩)))), (8, (1, (.c (.string ⟨⟨[91]⟩⟩)))), (9, (1, (.c (.string ⟨⟨[93]⟩⟩)))), (10, (1, (.c (.string ⟨⟨[46]⟩⟩)))), (11, (1, (.c (.string ⟨⟨[43]⟩⟩)))), (12, (1, (.c (.string ⟨⟨[45]⟩⟩)))), (13, (1, (.c (.string ⟨⟨[60]⟩⟩)))), (14, (1, (.c (.string ⟨⟨[60, 61]⟩⟩)))), (15, (1, (.c (.string ⟨⟨[61, 61]⟩⟩)))), (16, (1, (.c (.string ⟨⟨[61, 62]⟩⟩))))]), mS 2 T0]
@[go_sem] def c81r2 : List GOp := [mT S2, mT S0, oT (.call 92 [T1, T0]), mS 1 T0]
def c81s3 : SCode := (.seq (.ops c81r2) .ret)
@[go_sem] theorem c81s3eq : U c81s3 (.seq (.ops c81r2) .ret) := fun _ _ _ _ _ => rfl
def c81s4 : SCode := (.seq (.ops c81r1) c81s3)
@[go_sem] theorem c81s4eq : U c81s4 (.seq (.ops c81r1) c81s3) := fun _ _ _ _ _ => rfl
def c81 : Gx.Fn := ⟨8, c81k, (.seq (.ops c81r0) c81s4), [(.tmp S1)]⟩
theorem c81ok : stripFn Tryz.prog c81k Tryz.f81 = some c81 := by kernel_rfl

/- plexusref15.blank -/
@[go_sem] def c83k : List Nat := [0, 2]
@[go_sem] def c83r0 : List GOp := [mS 1 (.c (.bool false))]
@[go_sem] def c83r1 : List GOp := [mT S0, oT (.v (.bin .eql T0 (.c (.int .u8 32)))), mT T0, (.sel T0 false [(.op (.v (.mv S0))), (.op (.v (.bin .eql T0 (.c (.int .u8 9)))))] .t (.c (.bool true)) T0), mT T0, (.sel T0 false [(.op (.v (.mv S0))), (.op (.v (.bin .eql T0 (.c (.int .u8 10)))))] .t (.c (.bool true)) T0), mT T0, (.sel T0 false [(.op (.v (.mv S0))), (.op (.v (.bin .eql T0 (.c (.int .u8 13)))))] .t (.c (.bool true)) T0), mS 1 T0]
def c83s2 : SCode := (.seq (.ops c83r1) .ret)
@[go_sem] theorem c83s2eq : U c83s2 (.seq (.ops c83r1) .ret) := fun _ _ _ _ _ => rfl
def c83 : Gx.Fn := ⟨17, c83k, (.seq (.ops c83r0) c83s2), [(.tmp S1)]⟩
theorem c83ok : stripFn Tryz.prog c83k Tryz.f83 = some c83 := by kernel_rfl

/- plexusref15.letter -/
@[go_sem] def c84k : List Nat := [0, 2]
@[go_sem] def c84r0 : List GOp := [mS 1 (.c (.bool false))]
@[go_sem] def c84r1 : List GOp := [mT S0, oT (.v (.bin .geq T0 (.c (.int .u8 97)))), mT T0, (.sel T0 true [(.op (.v (.mv S0))), (.op (.v (.bin .leq T0 (.c (.int .u8 122)))))] .t T0 (.c (.bool false))), mS 1 T0]
def c84s2 : SCode := (.seq (.ops c84r1) .ret)
@[go_sem] theorem c84s2eq : U c84s2 (.seq (.ops c84r1) .ret) := fun _ _ _ _ _ => rfl
def c84 : Gx.Fn := ⟨9, c84k, (.seq (.ops c84r0) c84s2), [(.tmp S1)]⟩
theorem c84ok : stripFn Tryz.prog c84k Tryz.f84 = some c84 := by kernel_rfl

/- plexusref15.word -/
@[go_sem] def c85k : List Nat := [0, 1, 4, 14]
@[go_sem] def c85r0 : List GOp := [mS 2 (C 0)]
@[go_sem] def c85r1 : List GOp := [mT S1, mT S0, oT (.v (.slen T0)), oT (.v (.bin .lss T2 T0)), mT T0, (.op (some (T0, (true, true))) .t (.v (.mv S0))), (.op (some (T1, (true, false))) .t (.v (.mv S1))), (.op (some (T2, (true, false))) .t (.v (.six T1 T0))), (.op (some (T3, (true, false))) .t (.call 97 [T0])), oS 3 (.v (.pick T4 T0 (.c (.bool false))))]
def c85s2 : SCode := (.cond S3 .skip (.exit 0))
@[go_sem] theorem c85s2eq : U c85s2 (.cond S3 .skip (.exit 0)) := fun _ _ _ _ _ => rfl
@[go_sem] def c85r3 : List GOp := [mT S1, oT (.v (.bin .add T0 (C 1))), mS 1 T0]
def c85s4 : SCode := (.seq (.seq (.ops c85r1) c85s2) (.block 1 (.ops c85r3)))
@[go_sem] theorem c85s4eq : U c85s4 (.seq (.seq (.ops c85r1) c85s2) (.block 1 (.ops c85r3))) := fun _ _ _ _ _ => rfl
@[go_sem] def c85r5 : List GOp := [mT S1, mS 2 T0]
def c85s6 : SCode := (.seq (.ops c85r5) .ret)
@[go_sem] theorem c85s6eq : U c85s6 (.seq (.ops c85r5) .ret) := fun _ _ _ _ _ => rfl
def c85s7 : SCode := (.seq (.block 0 (.loop c85k c85s4)) c85s6)
@[go_sem] theorem c85s7eq : U c85s7 (.seq (.block 0 (.loop c85k c85s4)) c85s6) := fun _ _ _ _ _ => rfl
def c85 : Gx.Fn := ⟨18, c85k, (.seq (.ops c85r0) c85s7), [(.tmp S2)]⟩
theorem c85ok : stripFn Tryz.prog c85k Tryz.f85 = some c85 := by kernel_rfl

/- plexusref15.Keyword -/
@[go_sem] def c86k : List Nat := [0, 2]
@[go_sem] def c86r0 : List GOp := [mS 1 (.c (.bool false))]
@[go_sem] def c86r1 : List GOp := [oT (.call 99 []), mT S0, oT (.call 98 [T1, T0]), mS 1 T0]
def c86s2 : SCode := (.seq (.ops c86r1) .ret)
@[go_sem] theorem c86s2eq : U c86s2 (.seq (.ops c86r1) .ret) := fun _ _ _ _ _ => rfl
def c86 : Gx.Fn := ⟨6, c86k, (.seq (.ops c86r0) c86s2), [(.tmp S1)]⟩
theorem c86ok : stripFn Tryz.prog c86k Tryz.f86 = some c86 := by kernel_rfl

/- plexusref15.digit -/
@[go_sem] def c87k : List Nat := [0, 2]
@[go_sem] def c87r0 : List GOp := [mS 1 (.c (.bool false))]
@[go_sem] def c87r1 : List GOp := [mT S0, oT (.v (.bin .geq T0 (.c (.int .u8 48)))), mT T0, (.sel T0 true [(.op (.v (.mv S0))), (.op (.v (.bin .leq T0 (.c (.int .u8 57)))))] .t T0 (.c (.bool false))), mS 1 T0]
def c87s2 : SCode := (.seq (.ops c87r1) .ret)
@[go_sem] theorem c87s2eq : U c87s2 (.seq (.ops c87r1) .ret) := fun _ _ _ _ _ => rfl
def c87 : Gx.Fn := ⟨9, c87k, (.seq (.ops c87r0) c87s2), [(.tmp S1)]⟩
theorem c87ok : stripFn Tryz.prog c87k Tryz.f87 = some c87 := by kernel_rfl

/- plexusref15.integer -/
@[go_sem] def c88k : List Nat := [0, 1, 4, 5, 6, 7, 8, 19, 21, 41, 48]
@[go_sem] def c88r0 : List GOp := [oS 2 (.al 41 [(I 0), (.string ⟨⟨[]⟩⟩), (I 0), (I 0)]), mS 3 (C 0), oS 4 (.al 28 [(I 0), (I 0)])]
@[go_sem] def c88r1 : List GOp := [mT S1, mS 5 T0]
@[go_sem] def c88r2 : List GOp := [mS 6 (C 0)]
@[go_sem] def c88r3 : List GOp := [mT S5, mT S0, oT (.v (.slen T0)), oT (.v (.bin .lss T2 T0)), mT T0, (.op (some (T0, (true, true))) .t (.v (.mv S0))), (.op (some (T1, (true, false))) .t (.v (.mv S5))), (.op (some (T2, (true, false))) .t (.v (.six T1 T0))), (.op (some (T3, (true, false))) .t (.call 87 [T0])), oS 7 (.v (.pick T4 T0 (.c (.bool false))))]
def c88s4 : SCode := (.cond S7 .skip (.exit 0))
@[go_sem] theorem c88s4eq : U c88s4 (.cond S7 .skip (.exit 0)) := fun _ _ _ _ _ => rfl
@[go_sem] def c88r5 : List GOp := [mT S6, oS 8 (.v (.bin .leq T0 (C 1000000000000000)))]
@[go_sem] def c88r6 : List GOp := [mT S6, oT (.v (.bin .mul (C 10) T0)), mT S0, mT S5, oT (.v (.six T1 T0)), oT (.v (.bin .sub T0 (.c (.int .u8 48)))), oT (.v (.cvi .i64 T0)), oT (.v (.bin .add T5 T0)), mS 6 T0]
def c88s7 : SCode := (.cond S8 (.ops c88r6) .skip)
@[go_sem] theorem c88s7eq : U c88s7 (.cond S8 (.ops c88r6) .skip) := fun _ _ _ _ _ => rfl
@[go_sem] def c88r8 : List GOp := [mT S5, oT (.v (.bin .add T0 (C 1))), mS 5 T0]
def c88s9 : SCode := (.ops c88r8)
@[go_sem] theorem c88s9eq : U c88s9 (.ops c88r8) := fun _ _ _ _ _ => rfl
def c88s10 : SCode := (.block 1 (.seq (.seq (.ops c88r5) c88s7) c88s9))
@[go_sem] theorem c88s10eq : U c88s10 (.block 1 (.seq (.seq (.ops c88r5) c88s7) c88s9)) := fun _ _ _ _ _ => rfl
def c88s11 : SCode := (.seq (.seq (.ops c88r3) c88s4) c88s10)
@[go_sem] theorem c88s11eq : U c88s11 (.seq (.seq (.ops c88r3) c88s4) c88s10) := fun _ _ _ _ _ => rfl
@[go_sem] def c88r12 : List GOp := [mT S0, mT S1, oT (.v (.six T1 T0)), oT (.v (.bin .eql T0 (.c (.int .u8 48)))), mT T0, (.sel T0 true [(.op (.v (.mv S5))), (.op (.v (.mv S1))), (.op (.v (.bin .sub T1 T0))), (.op (.v (.bin .gtr T0 (C 1))))] (.s 9) T0 (.c (.bool false)))]
@[go_sem] def c88r13 : List GOp := [mT S1, oT (.call 67 [(C 2), T0]), oT (.v (.ext T0 0)), oT (.v (.ext T1 1)), oT (.v (.ext T2 2)), oN (.st 4 S2 T2), mS 3 T1, oN (.st 2 S4 T0)]
def c88s14 : SCode := (.seq (.ops c88r13) .ret)
@[go_sem] theorem c88s14eq : U c88s14 (.seq (.ops c88r13) .ret) := fun _ _ _ _ _ => rfl
@[go_sem] def c88r15 : List GOp := [mT S6, oS 10 (.v (.bin .gtr T0 (C 1000000000000000)))]
@[go_sem] def c88r16 : List GOp := [mT S1, oT (.call 67 [(C 5), T0]), oT (.v (.ext T0 0)), oT (.v (.ext T1 1)), oT (.v (.ext T2 2)), oN (.st 4 S2 T2), mS 3 T1, oN (.st 2 S4 T0)]
def c88s17 : SCode := (.seq (.ops c88r16) .ret)
@[go_sem] theorem c88s17eq : U c88s17 (.seq (.ops c88r16) .ret) := fun _ _ _ _ _ => rfl
def c88s18 : SCode := (.cond S10 c88s17 .skip)
@[go_sem] theorem c88s18eq : U c88s18 (.cond S10 c88s17 .skip) := fun _ _ _ _ _ => rfl
@[go_sem] def c88r19 : List GOp := [mT S6, mT S1, oT (.v (.bld [(I 0), (.string ⟨⟨[]⟩⟩), (I 0), (I 0)] [(0, (1, (C 3))), (2, (1, T1)), (3, (1, T0))])), mT S5, oT (.v (.bld [(I 0), (I 0)] [])), oN (.st 4 S2 T2), mS 3 T1, oN (.st 2 S4 T0)]
def c88s20 : SCode := (.seq (.ops c88r19) .ret)
@[go_sem] theorem c88s20eq : U c88s20 (.seq (.ops c88r19) .ret) := fun _ _ _ _ _ => rfl
def c88s21 : SCode := (.seq (.seq (.ops c88r15) c88s18) c88s20)
@[go_sem] theorem c88s21eq : U c88s21 (.seq (.seq (.ops c88r15) c88s18) c88s20) := fun _ _ _ _ _ => rfl
def c88s22 : SCode := (.seq (.seq (.ops c88r12) (.cond S9 c88s14 .skip)) c88s21)
@[go_sem] theorem c88s22eq : U c88s22 (.seq (.seq (.ops c88r12) (.cond S9 c88s14 .skip)) c88s21) := fun _ _ _ _ _ => rfl
def c88s23 : SCode := (.seq (.block 0 (.loop c88k c88s11)) c88s22)
@[go_sem] theorem c88s23eq : U c88s23 (.seq (.block 0 (.loop c88k c88s11)) c88s22) := fun _ _ _ _ _ => rfl
def c88s24 : SCode := (.seq (.ops c88r2) c88s23)
@[go_sem] theorem c88s24eq : U c88s24 (.seq (.ops c88r2) c88s23) := fun _ _ _ _ _ => rfl
def c88s25 : SCode := (.seq (.ops c88r1) c88s24)
@[go_sem] theorem c88s25eq : U c88s25 (.seq (.ops c88r1) c88s24) := fun _ _ _ _ _ => rfl
def c88 : Gx.Fn := ⟨59, c88k, (.seq (.ops c88r0) c88s25), [(.cell S2 (some 4)), (.tmp S3), (.cell S4 (some 2))]⟩
theorem c88ok : stripFn Tryz.prog c88k Tryz.f88 = some c88 := by kernel_rfl

/- plexusref02.Valid -/
@[go_sem] def c89k : List Nat := [0, 2, 3, 21, 25, 32]
@[go_sem] def c89r0 : List GOp := [mS 1 (.c (.bool false))]
@[go_sem] def c89r1 : List GOp := [mT S0, oT (.v (.slen T0)), oT (.v (.bin .lss T0 (C 1))), mT T0, (.sel T0 false [(.op (.v (.mv S0))), (.op (.v (.slen T0))), (.op (.v (.bin .gtr T0 (C 16))))] .t (.c (.bool true)) T0), mT T0, (.op (some (T0, (false, true))) .t (.v (.mv S0))), (.op (some (T1, (false, false))) .t (.v (.six T0 (C 0)))), (.op (some (T2, (false, false))) .t (.v (.bin .lss T0 (.c (.int .u8 97))))), oT (.v (.pick T3 (.c (.bool true)) T0)), mT T0, (.op (some (T0, (false, true))) .t (.v (.mv S0))), (.op (some (T1, (false, false))) .t (.v (.six T0 (C 0)))), (.op (some (T2, (false, false))) .t (.v (.bin .gtr T0 (.c (.int .u8 122))))), oS 3 (.v (.pick T3 (.c (.bool true)) T0))]
@[go_sem] def c89r2 : List GOp := [mS 1 (.c (.bool false))]
def c89s3 : SCode := (.seq (.ops c89r2) .ret)
@[go_sem] theorem c89s3eq : U c89s3 (.seq (.ops c89r2) .ret) := fun _ _ _ _ _ => rfl
@[go_sem] def c89r4 : List GOp := [mS 2 (C 0)]
@[go_sem] def c89r5 : List GOp := [mT S2, mT S0, oT (.v (.slen T0)), oS 4 (.v (.bin .lss T2 T0))]
def c89s6 : SCode := (.cond S4 .skip (.exit 0))
@[go_sem] theorem c89s6eq : U c89s6 (.cond S4 .skip (.exit 0)) := fun _ _ _ _ _ => rfl
@[go_sem] def c89r7 : List GOp := [mT S0, mT S2, oT (.v (.six T1 T0)), oT (.call 100 [T0]), oS 5 (.v (.un .not T0))]
@[go_sem] def c89r8 : List GOp := [mS 1 (.c (.bool false))]
def c89s9 : SCode := (.seq (.ops c89r8) .ret)
@[go_sem] theorem c89s9eq : U c89s9 (.seq (.ops c89r8) .ret) := fun _ _ _ _ _ => rfl
@[go_sem] def c89r10 : List GOp := [mT S2, oT (.v (.bin .add T0 (C 1))), mS 2 T0]
def c89s11 : SCode := (.ops c89r10)
@[go_sem] theorem c89s11eq : U c89s11 (.ops c89r10) := fun _ _ _ _ _ => rfl
def c89s12 : SCode := (.seq (.block 1 (.seq (.ops c89r7) (.cond S5 c89s9 .skip))) c89s11)
@[go_sem] theorem c89s12eq : U c89s12 (.seq (.block 1 (.seq (.ops c89r7) (.cond S5 c89s9 .skip))) c89s11) := fun _ _ _ _ _ => rfl
def c89s13 : SCode := (.seq (.seq (.ops c89r5) c89s6) c89s12)
@[go_sem] theorem c89s13eq : U c89s13 (.seq (.seq (.ops c89r5) c89s6) c89s12) := fun _ _ _ _ _ => rfl
def c89s14 : SCode := (.block 0 (.loop c89k c89s13))
@[go_sem] theorem c89s14eq : U c89s14 (.block 0 (.loop c89k c89s13)) := fun _ _ _ _ _ => rfl
@[go_sem] def c89r15 : List GOp := [mS 1 (.c (.bool true))]
def c89s16 : SCode := (.seq (.ops c89r15) .ret)
@[go_sem] theorem c89s16eq : U c89s16 (.seq (.ops c89r15) .ret) := fun _ _ _ _ _ => rfl
def c89s17 : SCode := (.seq (.seq (.ops c89r4) c89s14) c89s16)
@[go_sem] theorem c89s17eq : U c89s17 (.seq (.seq (.ops c89r4) c89s14) c89s16) := fun _ _ _ _ _ => rfl
def c89s18 : SCode := (.seq (.seq (.ops c89r1) (.cond S3 c89s3 .skip)) c89s17)
@[go_sem] theorem c89s18eq : U c89s18 (.seq (.seq (.ops c89r1) (.cond S3 c89s3 .skip)) c89s17) := fun _ _ _ _ _ => rfl
def c89 : Gx.Fn := ⟨33, c89k, (.seq (.ops c89r0) c89s18), [(.tmp S1)]⟩
theorem c89ok : stripFn Tryz.prog c89k Tryz.f89 = some c89 := by kernel_rfl

/- plexusref15.signs -/
@[go_sem] def c90k : List Nat := [0]
@[go_sem] def c90r0 : List GOp := [mS 0 (.c Z)]
@[go_sem] def c90r1 : List GOp := [oT (.bs 9 17 [(.string ⟨⟨[]⟩⟩), (.string ⟨⟨[]⟩⟩), (.string ⟨⟨[]⟩⟩), (.string ⟨⟨[]⟩⟩), (.string ⟨⟨[]⟩⟩), (.string ⟨⟨[]⟩⟩), (.string ⟨⟨[]⟩⟩), (.string ⟨⟨[]⟩⟩), (.string ⟨⟨[]⟩⟩), (.string ⟨⟨[]⟩⟩), (.string ⟨⟨[]⟩⟩), (.string ⟨⟨[]⟩⟩), (.string ⟨⟨[]⟩⟩), (.string ⟨⟨[]⟩⟩), (.string ⟨⟨[]⟩⟩), (.string ⟨⟨[]⟩⟩), (.string ⟨⟨[]⟩⟩)] [(0, (1, (.c (.string ⟨⟨[60, 61]⟩⟩)))), (1, (1, (.c (.string ⟨⟨[61, 61]⟩⟩)))), (2, (1, (.c (.string ⟨⟨[61, 62]⟩⟩)))), (3, (1, (.c (.string ⟨⟨[61]⟩⟩)))), (4, (1, (.c (.string ⟨⟨[58]⟩⟩)))), (5, (1, (.c (.string ⟨⟨[59]⟩⟩)))), (6, (1, (.c (.string ⟨⟨[44]⟩⟩)))), (7, (1, (.c (.string ⟨⟨[40]⟩⟩)))), (8, (1, (.c (.string ⟨⟨[41]⟩⟩)))), (9, (1, (.c (.string ⟨⟨[123]⟩⟩)))), (10, (1, (.c (.string ⟨⟨[125]⟩⟩)))), (11, (1, (.c (.string ⟨⟨[91]⟩⟩)))), (12, (1, (.c (.string ⟨⟨[93]⟩⟩)))), (13, (1, (.c (.string ⟨⟨[46]⟩⟩)))), (14, (1, (.c (.string ⟨⟨[43]⟩⟩)))), (15, (1, (.c (.string ⟨⟨[45]⟩⟩)))), (16, (1, (.c (.string ⟨⟨[60]⟩⟩))))]), mS 0 T0]
def c90s2 : SCode := (.seq (.ops c90r1) .ret)
@[go_sem] theorem c90s2eq : U c90s2 (.seq (.ops c90r1) .ret) := fun _ _ _ _ _ => rfl
def c90 : Gx.Fn := ⟨2, c90k, (.seq (.ops c90r0) c90s2), [(.tmp S0)]⟩
theorem c90ok : stripFn Tryz.prog c90k Tryz.f90 = some c90 := by kernel_rfl

/- slices.Contains[[]string,string] -/
@[go_sem] def c92k : List Nat := [0, 1, 4]
@[go_sem] def c92r0 : List GOp := [mS 2 (.c (.bool false))]
@[go_sem] def c92r1 : List GOp := [mT S0, mT S1, oT (.call 103 [T1, T0]), oT (.v (.bin .geq T0 (C 0))), mS 2 T0]
def c92s2 : SCode := (.seq (.ops c92r1) .ret)
@[go_sem] theorem c92s2eq : U c92s2 (.seq (.ops c92r1) .ret) := fun _ _ _ _ _ => rfl
def c92 : Gx.Fn := ⟨9, c92k, (.seq (.ops c92r0) c92s2), [(.tmp S2)]⟩
theorem c92ok : stripFn Tryz.prog c92k Tryz.f92 = some c92 := by kernel_rfl

/- names.wordByte -/
@[go_sem] def c95k : List Nat := [0, 2]
@[go_sem] def c95r0 : List GOp := [mS 1 (.c (.bool false))]
@[go_sem] def c95r1 : List GOp := [mT S0, oT (.v (.bin .leq (.c (.int .u8 97)) T0)), mT T0, (.sel T0 true [(.op (.v (.mv S0))), (.op (.v (.bin .leq T0 (.c (.int .u8 122)))))] .t T0 (.c (.bool false))), mT T0, (.sel T0 false [(.op (.v (.mv S0))), (.op (.v (.bin .leq (.c (.int .u8 48)) T0))), (.op (.v (.mv T0))), (.nst T0 true [(.op (.v (.mv S0))), (.op (.v (.bin .leq T0 (.c (.int .u8 57)))))] T0 (.c (.bool false)))] .t (.c (.bool true)) T0), mT T0, (.sel T0 false [(.op (.v (.mv S0))), (.op (.v (.bin .eql T0 (.c (.int .u8 45)))))] .t (.c (.bool true)) T0), mS 1 T0]
def c95s2 : SCode := (.seq (.ops c95r1) .ret)
@[go_sem] theorem c95s2eq : U c95s2 (.seq (.ops c95r1) .ret) := fun _ _ _ _ _ => rfl
def c95 : Gx.Fn := ⟨21, c95k, (.seq (.ops c95r0) c95s2), [(.tmp S1)]⟩
theorem c95ok : stripFn Tryz.prog c95k Tryz.f95 = some c95 := by kernel_rfl

/- plexusref15.part -/
@[go_sem] def c97k : List Nat := [0, 2]
@[go_sem] def c97r0 : List GOp := [mS 1 (.c (.bool false))]
@[go_sem] def c97r1 : List GOp := [mT S0, oT (.call 84 [T0]), mT T0, (.op (some (T0, (false, true))) .t (.v (.mv S0))), (.op (some (T1, (false, false))) .t (.call 87 [T0])), oT (.v (.pick T2 (.c (.bool true)) T0)), mT T0, (.sel T0 false [(.op (.v (.mv S0))), (.op (.v (.bin .eql T0 (.c (.int .u8 45)))))] .t (.c (.bool true)) T0), mS 1 T0]
def c97s2 : SCode := (.seq (.ops c97r1) .ret)
@[go_sem] theorem c97s2eq : U c97s2 (.seq (.ops c97r1) .ret) := fun _ _ _ _ _ => rfl
def c97 : Gx.Fn := ⟨13, c97k, (.seq (.ops c97r0) c97s2), [(.tmp S1)]⟩
theorem c97ok : stripFn Tryz.prog c97k Tryz.f97 = some c97 := by kernel_rfl

/- plexusref15.in -/
@[go_sem] def c98k : List Nat := [0, 1, 4, 5, 9, 17]
@[go_sem] def c98r0 : List GOp := [mS 2 (.c (.bool false))]
@[go_sem] def c98r1 : List GOp := [mS 3 (C 0)]
@[go_sem] def c98r2 : List GOp := [mT S3, mT S0, nT T0, oS 4 (.v (.bin .lss T2 T0))]
def c98s3 : SCode := (.cond S4 .skip (.exit 0))
@[go_sem] theorem c98s3eq : U c98s3 (.cond S4 .skip (.exit 0)) := fun _ _ _ _ _ => rfl
@[go_sem] def c98r4 : List GOp := [mT S0, mT S3, oT (.v (.ix 1 T1 T0)), lT T0, mT S1, oS 5 (.v (.bin .eql T1 T0))]
@[go_sem] def c98r5 : List GOp := [mS 2 (.c (.bool true))]
def c98s6 : SCode := (.seq (.ops c98r5) .ret)
@[go_sem] theorem c98s6eq : U c98s6 (.seq (.ops c98r5) .ret) := fun _ _ _ _ _ => rfl
@[go_sem] def c98r7 : List GOp := [mT S3, oT (.v (.bin .add T0 (C 1))), mS 3 T0]
def c98s8 : SCode := (.ops c98r7)
@[go_sem] theorem c98s8eq : U c98s8 (.ops c98r7) := fun _ _ _ _ _ => rfl
def c98s9 : SCode := (.seq (.block 1 (.seq (.ops c98r4) (.cond S5 c98s6 .skip))) c98s8)
@[go_sem] theorem c98s9eq : U c98s9 (.seq (.block 1 (.seq (.ops c98r4) (.cond S5 c98s6 .skip))) c98s8) := fun _ _ _ _ _ => rfl
def c98s10 : SCode := (.seq (.seq (.ops c98r2) c98s3) c98s9)
@[go_sem] theorem c98s10eq : U c98s10 (.seq (.seq (.ops c98r2) c98s3) c98s9) := fun _ _ _ _ _ => rfl
def c98s11 : SCode := (.block 0 (.loop c98k c98s10))
@[go_sem] theorem c98s11eq : U c98s11 (.block 0 (.loop c98k c98s10)) := fun _ _ _ _ _ => rfl
@[go_sem] def c98r12 : List GOp := [mS 2 (.c (.bool false))]
def c98s13 : SCode := (.seq (.ops c98r12) .ret)
@[go_sem] theorem c98s13eq : U c98s13 (.seq (.ops c98r12) .ret) := fun _ _ _ _ _ => rfl
def c98s14 : SCode := (.seq (.seq (.ops c98r1) c98s11) c98s13)
@[go_sem] theorem c98s14eq : U c98s14 (.seq (.seq (.ops c98r1) c98s11) c98s13) := fun _ _ _ _ _ => rfl
def c98 : Gx.Fn := ⟨18, c98k, (.seq (.ops c98r0) c98s14), [(.tmp S2)]⟩
theorem c98ok : stripFn Tryz.prog c98k Tryz.f98 = some c98 := by kernel_rfl

/- plexusref15.keywords -/
@[go_sem] def c99k : List Nat := [0]
@[go_sem] def c99r0 : List GOp := [mS 0 (.c Z)]
@[go_sem] def c99r1 : List GOp := [oT (.bs 9 44 [(.string ⟨⟨[]⟩⟩), (.string ⟨⟨[]⟩⟩), (.string ⟨⟨[]⟩⟩), (.string ⟨⟨[]⟩⟩), (.string ⟨⟨[]⟩⟩), (.string ⟨⟨[]⟩⟩), (.string ⟨⟨[]⟩⟩), (.string ⟨⟨[]⟩⟩), (.string ⟨⟨[]⟩⟩), (.string ⟨⟨[]⟩⟩), (.string ⟨⟨[]⟩⟩), (.string ⟨⟨[]⟩⟩), (.string ⟨⟨[]⟩⟩), (.string ⟨⟨[]⟩⟩), (.string ⟨⟨[]⟩⟩), (.string ⟨⟨[]⟩⟩), (.string ⟨⟨[]⟩⟩), (.string ⟨⟨[]⟩⟩), (.string ⟨⟨[]⟩⟩), (.string ⟨⟨[]⟩⟩), (.string ⟨⟨[]⟩⟩), (.string ⟨⟨[]⟩⟩), (.string ⟨⟨[]⟩⟩), (.string ⟨⟨[]⟩⟩), (.string ⟨⟨[]⟩⟩), (.string ⟨⟨[]⟩⟩), (.string ⟨⟨[]⟩⟩), (.string ⟨⟨[]⟩⟩), (.string ⟨⟨[]⟩⟩), (.string ⟨⟨[]⟩⟩), (.string ⟨⟨[]⟩⟩), (.string ⟨⟨[]⟩⟩), (.string ⟨⟨[]⟩⟩), (.string ⟨⟨[]⟩⟩), (.string ⟨⟨[]⟩⟩), (.string ⟨⟨[]⟩⟩), (.string ⟨⟨[]⟩⟩), (.string ⟨⟨[]⟩⟩), (.string ⟨⟨[]⟩⟩), (.string ⟨⟨[]⟩⟩), (.string ⟨⟨[]⟩⟩), (.string ⟨⟨[]⟩⟩), (.string ⟨⟨[]⟩⟩), (.string ⟨⟨[]⟩⟩)] [(0, (1, (.c (.string ⟨⟨[97, 110, 100]⟩⟩)))), (1, (1, (.c (.string ⟨⟨[98, 111, 111, 108]⟩⟩)))), (2, (1, (.c (.string ⟨⟨[98, 111, 116, 116, 111, 109]⟩⟩)))), (3, (1, (.c (.string ⟨⟨[99, 108, 111, 115, 101, 100]⟩⟩)))), (4, (1, (.c (.string ⟨⟨[99, 111, 110, 102, 108, 105, 99, 116]⟩⟩)))), (5, (1, (.c (.string ⟨⟨[101, 108, 115, 101]⟩⟩)))), (6, (1, (.c (.string ⟨⟨[102, 97, 108, 115, 101]⟩⟩)))), (7, (1, (.c (.string ⟨⟨[102, 105, 114, 115, 116]⟩⟩)))), (8, (1, (.c (.string ⟨⟨[102, 108, 97, 103]⟩⟩)))), (9, (1, (.c (.string ⟨⟨[102, 108, 97, 116]⟩⟩)))), (10, (1, (.c (.string ⟨⟨[105, 102]⟩⟩)))), (11, (1, (.c (.string ⟨⟨[105, 110]⟩⟩)))), (12, (1, (.c (.string ⟨⟨[105, 110, 116]⟩⟩)))), (13, (1, (.c (.string ⟨⟨[106, 111, 105, 110]⟩⟩)))), (14, (1, (.c (.string ⟨⟨[107, 101, 121, 115]⟩⟩)))), (15, (1, (.c (.string ⟨⟨[108, 97, 116, 116, 105, 99, 101]⟩⟩)))), (16, (1, (.c (.string ⟨⟨[108, 101, 113]⟩⟩)))), (17, (1, (.c (.string ⟨⟨[108, 101, 120]⟩⟩)))), (18, (1, (.c (.string ⟨⟨[109, 97, 112]⟩⟩)))), (19, (1, (.c (.string ⟨⟨[109, 97, 120]⟩⟩)))), (20, (1, (.c (.string ⟨⟨[109, 105, 110]⟩⟩)))), (21, (1, (.c (.string ⟨⟨[110, 97, 109, 101]⟩⟩)))), (22, (1, (.c (.string ⟨⟨[110, 97, 109, 101, 115]⟩⟩)))), (23, (1, (.c (.string ⟨⟨[110, 111, 116]⟩⟩)))), (24, (1, (.c (.string ⟨⟨[110, 117, 109]⟩⟩)))), (25, (1, (.c (.string ⟨⟨[110, 117, 109, 98, 101, 114]⟩⟩)))), (26, (1, (.c (.string ⟨⟨[111, 98, 106, 101, 99, 116]⟩⟩)))), (27, (1, (.c (.string ⟨⟨[111, 110]⟩⟩)))), (28, (1, (.c (.string ⟨⟨[111, 110, 101]⟩⟩)))), (29, (1, (.c (.string ⟨⟨[111, 114]⟩⟩)))), (30, (1, (.c (.string ⟨⟨[112, 97, 105, 114]⟩⟩)))), (31, (1, (.c (.string ⟨⟨[113, 117, 101, 114, 121]⟩⟩)))), (32, (1, (.c (.string ⟨⟨[114, 101, 99]⟩⟩)))), (33, (1, (.c (.string ⟨⟨[114, 101, 103, 105, 115, 116, 101, 114]⟩⟩)))), (34, (1, (.c (.string ⟨⟨[115]⟩⟩)))), (35, (1, (.c (.string ⟨⟨[115, 101, 99, 111, 110, 100]⟩⟩)))), (36, (1, (.c (.string ⟨⟨[115, 101, 116]⟩⟩)))), (37, (1, (.c (.string ⟨⟨[115, 105, 122, 101]⟩⟩)))), (38, (1, (.c (.string ⟨⟨[115, 117, 109]⟩⟩)))), (39, (1, (.c (.string ⟨⟨[116, 104, 101, 110]⟩⟩)))), (40, (1, (.c (.string ⟨⟨[116, 114, 117, 101]⟩⟩)))), (41, (1, (.c (.string ⟨⟨[117, 112, 100, 97, 116, 101]⟩⟩)))), (42, (1, (.c (.string ⟨⟨[118, 97, 108, 117, 101, 115]⟩⟩)))), (43, (1, (.c (.string ⟨⟨[119, 114, 105, 116, 101]⟩⟩))))]), mS 0 T0]
def c99s2 : SCode := (.seq (.ops c99r1) .ret)
@[go_sem] theorem c99s2eq : U c99s2 (.seq (.ops c99r1) .ret) := fun _ _ _ _ _ => rfl
def c99 : Gx.Fn := ⟨2, c99k, (.seq (.ops c99r0) c99s2), [(.tmp S0)]⟩
theorem c99ok : stripFn Tryz.prog c99k Tryz.f99 = some c99 := by kernel_rfl

/- plexusref02.letter -/
@[go_sem] def c100k : List Nat := [0, 2]
@[go_sem] def c100r0 : List GOp := [mS 1 (.c (.bool false))]
@[go_sem] def c100r1 : List GOp := [mT S0, oT (.v (.bin .geq T0 (.c (.int .u8 97)))), mT T0, (.sel T0 true [(.op (.v (.mv S0))), (.op (.v (.bin .leq T0 (.c (.int .u8 122)))))] .t T0 (.c (.bool false))), mT T0, (.sel T0 false [(.op (.v (.mv S0))), (.op (.v (.bin .geq T0 (.c (.int .u8 48))))), (.op (.v (.mv T0))), (.nst T0 true [(.op (.v (.mv S0))), (.op (.v (.bin .leq T0 (.c (.int .u8 57)))))] T0 (.c (.bool false)))] .t (.c (.bool true)) T0), mT T0, (.sel T0 false [(.op (.v (.mv S0))), (.op (.v (.bin .eql T0 (.c (.int .u8 45)))))] .t (.c (.bool true)) T0), mS 1 T0]
def c100s2 : SCode := (.seq (.ops c100r1) .ret)
@[go_sem] theorem c100s2eq : U c100s2 (.seq (.ops c100r1) .ret) := fun _ _ _ _ _ => rfl
def c100 : Gx.Fn := ⟨21, c100k, (.seq (.ops c100r0) c100s2), [(.tmp S1)]⟩
theorem c100ok : stripFn Tryz.prog c100k Tryz.f100 = some c100 := by kernel_rfl

/- slices.Index[[]string,string] -/
@[go_sem] def c103k : List Nat := [0, 1, 4, 5, 7, 8, 9, 16]
@[go_sem] def c103r0 : List GOp := [mS 2 (C 0)]
@[go_sem] def c103r1 : List GOp := [mT S0, oS 4 (.v (.len T0)), mS 5 (C 0)]
@[go_sem] def c103r2 : List GOp := [oS 6 (.v (.bin .lss S5 S4))]
@[go_sem] def c103r3 : List GOp := [mT S5, mS 3 T0]
@[go_sem] def c103r4 : List GOp := [mT S1, mT S0, mT S3, oT (.v (.ix 1 T1 T0)), lT T0, oS 7 (.v (.bin .eql T4 T0))]
@[go_sem] def c103r5 : List GOp := [mT S3, mS 2 T0]
def c103s6 : SCode := (.seq (.ops c103r5) .ret)
@[go_sem] theorem c103s6eq : U c103s6 (.seq (.ops c103r5) .ret) := fun _ _ _ _ _ => rfl
def c103s7 : SCode := (.seq (.ops c103r4) (.cond S7 c103s6 .skip))
@[go_sem] theorem c103s7eq : U c103s7 (.seq (.ops c103r4) (.cond S7 c103s6 .skip)) := fun _ _ _ _ _ => rfl
@[go_sem] def c103r8 : List GOp := [oT (.v (.bin .add S5 (C 1))), mS 5 T0]
def c103s9 : SCode := (.ops c103r8)
@[go_sem] theorem c103s9eq : U c103s9 (.ops c103r8) := fun _ _ _ _ _ => rfl
def c103s10 : SCode := (.seq (.block 1 (.seq (.ops c103r3) c103s7)) c103s9)
@[go_sem] theorem c103s10eq : U c103s10 (.seq (.block 1 (.seq (.ops c103r3) c103s7)) c103s9) := fun _ _ _ _ _ => rfl
def c103s11 : SCode := (.seq (.cond S6 .skip (.exit 0)) c103s10)
@[go_sem] theorem c103s11eq : U c103s11 (.seq (.cond S6 .skip (.exit 0)) c103s10) := fun _ _ _ _ _ => rfl
def c103s12 : SCode := (.seq (.ops c103r2) c103s11)
@[go_sem] theorem c103s12eq : U c103s12 (.seq (.ops c103r2) c103s11) := fun _ _ _ _ _ => rfl
def c103s13 : SCode := (.block 0 (.loop c103k c103s12))
@[go_sem] theorem c103s13eq : U c103s13 (.block 0 (.loop c103k c103s12)) := fun _ _ _ _ _ => rfl
@[go_sem] def c103r14 : List GOp := [mS 2 (C (-1))]
def c103s15 : SCode := (.seq (.ops c103r14) .ret)
@[go_sem] theorem c103s15eq : U c103s15 (.seq (.ops c103r14) .ret) := fun _ _ _ _ _ => rfl
def c103s16 : SCode := (.seq (.seq (.ops c103r1) c103s13) c103s15)
@[go_sem] theorem c103s16eq : U c103s16 (.seq (.seq (.ops c103r1) c103s13) c103s15) := fun _ _ _ _ _ => rfl
def c103 : Gx.Fn := ⟨19, c103k, (.seq (.ops c103r0) c103s16), [(.tmp S2)]⟩
theorem c103ok : stripFn Tryz.prog c103k Tryz.f103 = some c103 := by kernel_rfl

end Go.Proofs.YtbgjgaaobnbijaaGreatDoor
end
section
/- From a call on heaps to a row; and what a reading says of the cells. -/
namespace Gx
open Go Go.ChangeShapes Go.WideShapes Go.RowKit

theorem below_of {w w' : World} (hs : Same w w') (hf : Fr [] w.heap w'.heap) : Below w.heap.size w w' :=
  ⟨hs.os, hs.tape, hs.output, hf.size, fun k hk => hf.same k hk (by simp)⟩

section
variable {H : Type} {enc : TypeId × Value → H} {P : Program}

theorem trodAll_stays (hl : laidOutB P = true) {W W' : World} (hb : Below W.heap.size W W') {sp : Nat → Bool} : ∀ {ts : List TypeId} {vs : List Value} {ds : List (DataW H)} {ps : List MemPlace},
    ts.all (fun t => P.readableRec t && decide (t < P.types.size)) = true → DataW.TrodAll enc P W 0 (fun _ => true) true ts vs ds ps → (∀ x ∈ ps, x.block < W.heap.size) → (∀ x ∈ ps, sp x.block = true) →
    DataW.TrodAll enc P W' 0 sp true ts vs ds ps
  | [], [], [], _, _, h, _, _ => h
  | t :: ts, v :: vs, d :: ds, ps, ht, ⟨p, q, h, hs, e⟩, hlt, hsp => by
    simp only [List.all_cons, Bool.and_eq_true, decide_eq_true_eq] at ht
    subst e
    exact ⟨p, q, WideElems.Trod_stays hl ht.1.1 ht.1.2 h (fun x hx => hb.same (hlt x (by simp [hx]))) (fun x hx => hsp x (by simp [hx])),
      trodAll_stays hl hb ht.2 hs (fun x hx => hlt x (by simp [hx])) (fun x hx => hsp x (by simp [hx])), rfl⟩

theorem trodAll_len {w : World} {base : Nat} {spare : Nat → Bool} {held : Bool} : ∀ {ts : List TypeId} {vs : List Value} {ds : List (DataW H)} {ps : List MemPlace}, DataW.TrodAll enc P w base spare held ts vs ds ps → ds.length = ts.length
  | [], [], [], _, _ => rfl
  | _ :: _, _ :: _, _ :: _, _, ⟨_, _, _, hs, _⟩ => congrArg (· + 1) (trodAll_len hs)

/-- A law's 'post': it said true, and nothing old has turned. -/
theorem law_post {f : Func} {s : ChangeSpec} {tb : TypeId} {W W' : World} {args : Array Value} {ds gs : List (DataW H)} {before : List MemPlace}
    (hl : laidOutB P = true) (hpar : f.params.toList.all (fun t => P.readableRec t && decide (t < P.types.size)) = true) (hres : f.resultTypes = #[tb]) (htb : P.underlying tb = some .bool) (hv : s.vars = [])
    (hfn : s.fn H (ds ++ gs) = { results := [.lit (.bool true)], args := ds })
    (hW : DataW.Whole enc P f.params.toList s.vars false W args.toList ds gs before) (hb : Below W.heap.size W W') :
    s.post enc P f false true false false W args (.bool true) W' := by
  have hW' := hW
  obtain ⟨p, q, hA, hV, rfl, hz, hn⟩ := hW
  rw [hv] at hV
  obtain ⟨rfl, rfl⟩ := trodVars_none hV
  rw [List.append_nil] at hW'
  refine ⟨ds, [], p, [], p, [], hW', ?_, ?_, ?_, hb.frame _, fun h => by cases h⟩
  · rw [hfn, hres]
    exact trodAll_cons_mk (shut_bool htb _) trodAll_mk0
  · rw [hfn]
    exact trodAll_stays hl hb hpar hA (fun x hx => hW'.lt x hx) (fun x hx => by simpa using hW'.lt x hx)
  · rw [hfn, hv]; rfl

/-- The row's step, of a law: what is left is the call on heaps. -/
theorem law_row {C : Checked} {os : Os} {f : FuncId} {fn : Func} {s : ChangeSpec} {tb : TypeId} (own : ownKnob C.prog.godebug = none) (started : os.Started) (noInit : C.prog.inits.idxOf? f = none) (hf : C.prog.funcs[f]? = some fn)
    (hl : laidOutB C.prog = true) (hpar : fn.params.toList.all (fun t => C.prog.readableRec t && decide (t < C.prog.types.size)) = true) (hres : fn.resultTypes = #[tb]) (htb : C.prog.underlying tb = some .bool) (hv : s.vars = [])
    (hfn : ∀ (K : Type) (ds : List (DataW K)), ds.length = fn.params.size → s.fn K ds = { results := [.lit (.bool true)], args := ds })
    (witness : ∃ (w : World) (tape : Tape) (i : Input), w.os = os ∧ (w.forCall tape i).Shaped C.prog ∧ i.vars = [] ∧ Input.okWide C.prog (w.forCall tape i) .any w.heap.size f i ∧
      s.pre6 enc C.prog fn [] false (w.forCall tape i).memory i.args ∧ Assume.holds {} C.prog (lone (Frame.enter C.prog f i.args .normal) [] (w.forCall tape i)))
    (contract : ∀ (W : World) (base : Nat) (args : Array Value) (ds : List (DataW H)) (ps : List MemPlace),
      (∀ (j : Nat) t v, fn.params[j]? = some t → args[j]? = some v → Value.okWide C.prog W .any base t v) →
      DataW.TrodAll enc C.prog W 0 (fun _ => true) true fn.params.toList args.toList ds ps → HCalls C.prog f args W.heap fun v H' => v = .bool true ∧ Fr [] W.heap H') :
    ReturnsInHanded {} C os f .any (s.pre6 enc C.prog fn [] false) (s.post enc C.prog fn false true false false) := by
  refine returnsInHanded_of_change own started noInit hf witness ?_
  intro W base args ds gs before hval hW _ _
  have hW' := hW
  obtain ⟨p, q, hA, hV, rfl, hz, hn⟩ := hW
  have hV' := hV
  rw [hv] at hV'
  obtain ⟨rfl, rfl⟩ := trodVars_none hV'
  refine ((contract W base args ds p hval hA).out W rfl).mono fun e W' ⟨v, he, ⟨hvt, hfr⟩, hs⟩ => ?_
  subst hvt
  refine ⟨_, he, law_post hl hpar hres htb hv ?_ hW' (below_of hs hfr)⟩
  rw [List.append_nil]
  exact hfn H ds (by have := trodAll_len hA; simpa using this)

/-! ### what a reading says -/
variable {W : World} {base : Nat} {sp : Nat → Bool} {held : Bool}

/-- A type whose readings say R of the cells. -/
def Opens (P : Program) (t : TypeId) {α : Type} (R : α → List Value → Heap → Prop) : Prop :=
  ∀ {H : Type} {enc : TypeId × Value → H} {W : World} {base : Nat} {sp : Nat → Bool} {held : Bool} {fuel : Nat} {cs : List Value} {x : DataW H × List MemPlace},
    DataW.trod enc P W base sp held fuel t cs = some x → ∃ a, R a cs W.heap

def IntR (k : IntKind) (n : Int) (cs : List Value) (_ : Heap) : Prop := cs = [.int k n] ∧ (Lit.int k n).wf = true
def StrR (l : List UInt8) (cs : List Value) (_ : Heap) : Prop := cs = [.string ⟨⟨l⟩⟩] ∧ l.length ≤ maxLen
def BoolR (b : Bool) (cs : List Value) (_ : Heap) : Prop := cs = [.bool b]

theorem opens_int {t : TypeId} {k : IntKind} (ht : P.underlying t = some (.int k)) : Opens P t (IntR k) := by
  intro H enc W base sp held fuel cs x h
  obtain ⟨n, h1, _, h3⟩ := DataW.trod_int ht h
  exact ⟨n, h1, h3⟩
theorem opens_bool {t : TypeId} (ht : P.underlying t = some .bool) : Opens P t BoolR := by
  intro H enc W base sp held fuel cs x h
  cases fuel with
  | zero => simp [DataW.trod] at h
  | succ n =>
    unfold DataW.trod at h
    rw [ht] at h
    split at h <;> simp_all [BoolR]
theorem opens_str {t : TypeId} (ht : P.underlying t = some .string) : Opens P t StrR := by
  intro H enc W base sp held fuel cs x h
  cases fuel with
  | zero => simp [DataW.trod] at h
  | succ n =>
    unfold DataW.trod at h
    rw [ht] at h
    split at h <;> simp only [reduceCtorEq, Option.some.injEq, TypeDesc.int.injEq] at *
    rename_i s _
    split at h
    · rename_i hs
      exact ⟨s.data.toList, rfl, by simpa using hs⟩
    · cases h

/-- Elements behind an address, each of m cells. -/
def ElR {α : Type} (R : α → List Value → Heap → Prop) (m : Nat) (H : Heap) (a : Option Addr) (l : List α) : Prop :=
  l = [] ∨ ∃ b o, a = some ⟨b, o, none⟩ ∧ ∀ j (h : j < l.length), ∃ vs, vs.length = m ∧ (∀ i, i < m → cellB H b (o + j * m + i) = vs[i]?) ∧ R l[j] vs H
def SlR {α : Type} (R : α → List Value → Heap → Prop) (m : Nat) (l : List α) (cs : List Value) (H : Heap) : Prop :=
  ∃ a c, cs = [.slice a l.length c] ∧ l.length ≤ c ∧ c ≤ maxLen ∧ ElR R m H a l

theorem list_of {α β : Type} {n : Nat} {Q : Nat → α → Prop} (h : ∀ i, i < n → ∃ a, Q i a) : ∃ l : List α, l.length = n ∧ ∀ i (hi : i < l.length), Q i l[i] := by
  induction n with
  | zero => exact ⟨[], rfl, fun i hi => by simp at hi⟩
  | succ n ih =>
    obtain ⟨l, h1, h2⟩ := ih (fun i hi => h i (by omega))
    obtain ⟨a, ha⟩ := h n (by omega)
    refine ⟨l ++ [a], by simp [h1], fun i hi => ?_⟩
    rcases Nat.lt_or_ge i l.length with h' | h'
    · rw [List.getElem_append_left h']; exact h2 i h'
    · have : i = l.length := by simp at hi; omega
      subst this
      simp; rw [h1]; exact ha

theorem opens_slice {t e m : Nat} {α : Type} {R : α → List Value → Heap → Prop} (ht : P.underlying t = some (.slice e)) (hc : P.cellsOf e = m) (hm : 0 < m) (he : Opens P e R) : Opens P t (SlR R m) := by
  intro H enc W base sp held fuel cs x h
  rcases DataW.trod_slice ht h with ⟨h0, _⟩ | ⟨a, len, cap, elems, rest, n, _, rfl, rfl, hb, hl, hmx, hlen, hel, _, _⟩
  · exact ⟨[], none, 0, h0, by simp, by simp [maxLen], .inl rfl⟩
  · have hi : ∀ i, i < len → ∃ y : α, ∃ vs, vs.length = m ∧ (∀ j, j < m → cellAt W.heap (a.add (i * m + j)) = vs[j]?) ∧ R y vs W.heap := by
      intro i hi
      have h1 := hel i hi
      have h2 : elems[i]? = some elems[i] := List.getElem?_eq_getElem (by omega)
      rw [h2, Option.bind_eq_some_iff] at h1
      obtain ⟨vs, hv, hr⟩ := h1
      obtain ⟨h3, h4, h5⟩ := World.cells?_some hv
      obtain ⟨y, hy⟩ := he hr
      rw [hc] at h4 h5 hv
      refine ⟨y, vs, h4, fun j hj => ?_, hy⟩
      have := h5 j hj
      rw [← this]
      show _ = cellAt W.heap _
      congr 1
      simp only [Addr.add]
      repeat' split
      all_goals first | rfl | omega | simp_all [Nat.add_assoc]
    obtain ⟨l, hl1, hl2⟩ := list_of (β := Unit) hi
    refine ⟨l, some a, cap, by rw [hl1], by omega, hmx, ?_⟩
    rcases Nat.eq_zero_or_pos l.length with h0 | h0
    · exact .inl (List.eq_nil_of_length_eq_zero h0)
    · have hspot : a.spot = none := by
        obtain ⟨vs, h1, h2, _⟩ := hl2 0 h0
        have h3 := h2 0 hm
        rw [List.getElem?_eq_getElem (by omega)] at h3
        unfold cellAt at h3
        split at h3
        · split at h3
          · cases h3
          · rename_i hs; simpa [Addr.add] using hs
        · cases h3
      obtain ⟨b, o, s⟩ := a
      simp only at hspot
      subst hspot
      refine .inr ⟨b, o, rfl, fun j hj => ?_⟩
      obtain ⟨vs, h1, h2, h3⟩ := hl2 j hj
      refine ⟨vs, h1, fun i hi => ?_, h3⟩
      rw [← h2 i hi, add_mk, cellAt_mk, Nat.add_assoc]

/-- A byte slice. -/
def BytesR (l : List UInt8) (cs : List Value) (H : Heap) : Prop := ∃ a c, cs = [.slice a l.length c] ∧ l.length ≤ c ∧ c ≤ maxLen ∧ BsR H a l

theorem opens_bytes {t e : Nat} (ht : P.underlying t = some (.slice e)) (hc : P.cellsOf e = 1) (he : P.underlying e = some (.int .u8)) : Opens P t BytesR := by
  intro H enc W base sp held fuel cs x h
  obtain ⟨l, a, c, h1, h2, h3, h4⟩ := opens_slice ht hc (by decide) (opens_int he) h
  refine ⟨l.map fun n => UInt8.ofNat n.toNat, a, c, by simpa using h1, by simpa using h2, h3, ?_⟩
  rcases h4 with h4 | ⟨b, o, h5, h6⟩
  · subst h4; exact .inl rfl
  · refine .inr ⟨b, o, h5, fun j hj => ?_⟩
    simp only [List.length_map] at hj
    obtain ⟨vs, h7, h8, h9, h10⟩ := h6 j hj
    have := h8 0 (by decide)
    rw [h9] at this
    simp only [Nat.mul_one, Nat.add_zero, List.getElem?_cons_zero] at this
    rw [this]
    simp only [Lit.wf, IntKind.min, IntKind.max, IntKind.signed, IntKind.bits, Bool.and_eq_true, decide_eq_true_eq] at h10
    simp only [List.getElem_map, bv]
    rw [u8_of _ (by simp at h10; omega)]
    simp at h10 ⊢; omega

/-- A struct's fields, each by its own type. -/
theorem struct_fields {H : Type} {enc : TypeId × Value → H} {W : World} {base : Nat} {sp : Nat → Bool} {held : Bool} {fuel : Nat} {t : TypeId} {cs : List Value} {x : DataW H × List MemPlace} {fs : Array Field} (ht : P.underlying t = some (.struct fs))
    (h : DataW.trod enc P W base sp held fuel t cs = some x) : cs.length = P.cellsOf t ∧
      ∀ (i : Nat) (f : Field), fs[i]? = some f → ∀ {α : Type} {R : α → List Value → Heap → Prop} {m : Nat}, P.cellsOf f.type = m → Opens P f.type R → ∃ a, R a ((cs.drop f.offset).take m) W.heap := by
  obtain ⟨xs, n, _, _, hl, hx, hf⟩ := DataW.trod_struct ht h
  refine ⟨hl, fun i f hi α R m hm ho => ?_⟩
  have h1 := hf i f hi
  have hlt : i < xs.length := by
    rw [hx]; exact (Array.getElem?_eq_some_iff.1 hi).1
  rw [List.getElem?_eq_getElem hlt, hm] at h1
  exact ho h1

/-- A type of one cell that no struct shares. -/
def plainB (P : Program) (t : TypeId) : Bool :=
  match P.underlying t with
  | some (.int _) | some .bool | some .string | some (.slice _) => true
  | _ => false

theorem arg_one {t : TypeId} {α : Type} {R : α → List Value → Heap → Prop} (ho : Opens P t R) (hp : plainB P t = true) {b0 : Nat} {v : Value} {d : DataW H} {ps : List MemPlace}
    (hval : Value.okWide P W .any b0 t v) (h : DataW.Trod enc P W base sp held t v d ps) : ∃ a, R a [v] W.heap := by
  obtain ⟨fuel, hf⟩ := h
  have hc : v.cells.toList = [v] := by
    cases v with
    | agg vs =>
      exfalso
      unfold plainB at hp
      unfold Value.okWide at hval
      split at hp
      all_goals first | (cases hp; done) | (rename_i e; rw [e] at hval; simp [Cell.okWide, e, Cell.ok] at hval)
    | _ => rfl
  rw [hc] at hf
  exact ho hf

theorem arg_agg {t : TypeId} {fs : Array Field} {α : Type} {R : α → List Value → Heap → Prop} (ho : Opens P t R) (ht : P.underlying t = some (.struct fs)) {b0 : Nat} {v : Value} {d : DataW H} {ps : List MemPlace}
    (hval : Value.okWide P W .any b0 t v) (h : DataW.Trod enc P W base sp held t v d ps) : ∃ a cs, v = .agg cs ∧ R a cs.toList W.heap := by
  obtain ⟨fuel, hf⟩ := h
  obtain ⟨cs, rfl, _⟩ := okWide_struct ht hval
  obtain ⟨a, ha⟩ := ho hf
  exact ⟨a, cs, rfl, ha⟩

/-- What is known of an argument. -/
def ArgOk (enc : TypeId × Value → H) (P : Program) (W : World) (b0 : Nat) (t : TypeId) (v : Value) : Prop := Value.okWide P W .any b0 t v ∧ ∃ d ps, DataW.Trod enc P W 0 (fun _ => true) true t v d ps

theorem args1 {fn : Func} {b0 : Nat} {args : Array Value} {ds : List (DataW H)} {ps : List MemPlace} {t0 : TypeId} (hp : fn.params = #[t0])
    (hval : ∀ (j : Nat) t v, fn.params[j]? = some t → args[j]? = some v → Value.okWide P W .any b0 t v) (h : DataW.TrodAll enc P W 0 (fun _ => true) true fn.params.toList args.toList ds ps) :
    ∃ v0, args = #[v0] ∧ ArgOk enc P W b0 t0 v0 := by
  rw [hp] at h hval
  obtain ⟨v0, vs0, d0, ds0, p0, q0, hargs, rfl, rfl, h0, r0⟩ := trodAll_cons h
  obtain ⟨rfl, rfl, rfl⟩ := trodAll_nil r0
  obtain rfl : args = #[v0] := by cases args; simp_all
  exact ⟨v0, rfl, hval 0 t0 v0 rfl rfl, d0, p0, h0⟩
theorem args2 {fn : Func} {b0 : Nat} {args : Array Value} {ds : List (DataW H)} {ps : List MemPlace} {t0 t1 : TypeId} (hp : fn.params = #[t0, t1])
    (hval : ∀ (j : Nat) t v, fn.params[j]? = some t → args[j]? = some v → Value.okWide P W .any b0 t v) (h : DataW.TrodAll enc P W 0 (fun _ => true) true fn.params.toList args.toList ds ps) :
    ∃ v0 v1, args = #[v0, v1] ∧ ArgOk enc P W b0 t0 v0 ∧ ArgOk enc P W b0 t1 v1 := by
  rw [hp] at h hval
  obtain ⟨v0, vs0, d0, ds0, p0, q0, hargs, rfl, rfl, h0, r0⟩ := trodAll_cons h
  obtain ⟨v1, vs1, d1, ds1, p1, q1, rfl, rfl, rfl, h1, r1⟩ := trodAll_cons r0
  obtain ⟨rfl, rfl, rfl⟩ := trodAll_nil r1
  obtain rfl : args = #[v0, v1] := by cases args; simp_all
  exact ⟨v0, v1, rfl, ⟨hval 0 t0 v0 rfl rfl, d0, p0, h0⟩, hval 1 t1 v1 rfl rfl, d1, p1, h1⟩
theorem args3 {fn : Func} {b0 : Nat} {args : Array Value} {ds : List (DataW H)} {ps : List MemPlace} {t0 t1 t2 : TypeId} (hp : fn.params = #[t0, t1, t2])
    (hval : ∀ (j : Nat) t v, fn.params[j]? = some t → args[j]? = some v → Value.okWide P W .any b0 t v) (h : DataW.TrodAll enc P W 0 (fun _ => true) true fn.params.toList args.toList ds ps) :
    ∃ v0 v1 v2, args = #[v0, v1, v2] ∧ ArgOk enc P W b0 t0 v0 ∧ ArgOk enc P W b0 t1 v1 ∧ ArgOk enc P W b0 t2 v2 := by
  rw [hp] at h hval
  obtain ⟨v0, vs0, d0, ds0, p0, q0, hargs, rfl, rfl, h0, r0⟩ := trodAll_cons h
  obtain ⟨v1, vs1, d1, ds1, p1, q1, rfl, rfl, rfl, h1, r1⟩ := trodAll_cons r0
  obtain ⟨v2, vs2, d2, ds2, p2, q2, rfl, rfl, rfl, h2, r2⟩ := trodAll_cons r1
  obtain ⟨rfl, rfl, rfl⟩ := trodAll_nil r2
  obtain rfl : args = #[v0, v1, v2] := by cases args; simp_all
  exact ⟨v0, v1, v2, rfl, ⟨hval 0 t0 v0 rfl rfl, d0, p0, h0⟩, ⟨hval 1 t1 v1 rfl rfl, d1, p1, h1⟩, hval 2 t2 v2 rfl rfl, d2, p2, h2⟩

theorem ArgOk.one {b0 : Nat} {t : TypeId} {v : Value} {α : Type} {R : α → List Value → Heap → Prop} (h : ArgOk enc P W b0 t v) (ho : Opens P t R) (hp : plainB P t = true) : ∃ a, R a [v] W.heap := by
  obtain ⟨h1, d, ps, h2⟩ := h
  exact arg_one ho hp h1 h2
theorem ArgOk.agg {b0 : Nat} {t : TypeId} {v : Value} {fs : Array Field} {α : Type} {R : α → List Value → Heap → Prop} (h : ArgOk enc P W b0 t v) (ho : Opens P t R) (ht : P.underlying t = some (.struct fs)) : ∃ a cs, v = .agg cs ∧ R a cs.toList W.heap := by
  obtain ⟨h1, d, ps, h2⟩ := h
  exact arg_agg ho ht h1 h2

end
end Gx
end
section
/- Rows of elements of several cells each. -/
namespace Gx
open Go

/-- Cells behind a slice's address. -/
def CsR (H : Heap) (a : Option Addr) (l : List Value) : Prop :=
  l = [] ∨ ∃ b o, a = some ⟨b, o, none⟩ ∧ ∀ j (h : j < l.length), cellB H b (o + j) = some l[j]

theorem CsR.nil (H : Heap) (a : Option Addr) : CsR H a [] := .inl rfl
theorem CsR.fr {M : List Nat} {H H' : Heap} {a : Option Addr} {l : List Value} (h : CsR H a l) (hf : Fr M H H') (hm : ∀ b o, a = some ⟨b, o, none⟩ → b ∉ M) : CsR H' a l := by
  rcases h with h | ⟨b, o, h1, h2⟩
  · exact .inl h
  · exact .inr ⟨b, o, h1, fun j hj => cellB_fr (h2 j hj) hf (hm b o h1)⟩
theorem CsR.ext {H H' : Heap} {a : Option Addr} {l : List Value} (h : CsR H a l) (hf : Fr [] H H') : CsR H' a l := h.fr hf (by simp)
theorem CsR.lt {H : Heap} {b o : Nat} {l : List Value} (h : CsR H (some ⟨b, o, none⟩) l) (h0 : l ≠ []) : b < H.size := by
  rcases h with h | ⟨b', o', h1, h2⟩
  · exact absurd h h0
  · simp at h1; obtain ⟨rfl, rfl⟩ := h1
    exact cellB_lt (h2 0 (List.length_pos_iff.2 h0))
theorem CsR.get {H : Heap} {a : Option Addr} {l : List Value} (h : CsR H a l) (j : Nat) (hj : j < l.length) : ∃ b o, a = some ⟨b, o, none⟩ ∧ cellB H b (o + j) = some l[j] := by
  rcases h with h | ⟨b, o, h1, h2⟩
  · subst h; simp at hj
  · exact ⟨b, o, h1, h2 j hj⟩
theorem CsR.take {H : Heap} {a : Option Addr} {l : List Value} (h : CsR H a l) (n : Nat) : CsR H a (l.take n) := by
  rcases h with h | ⟨b, o, h1, h2⟩
  · subst h; simp [CsR]
  · refine .inr ⟨b, o, h1, fun j hj => ?_⟩
    simp only [List.length_take] at hj
    rw [h2 j (by omega)]; simp
theorem CsR.drop {H : Heap} {a : Option Addr} {l : List Value} (h : CsR H a l) (n : Nat) : CsR H (a.map (·.add n)) (l.drop n) := by
  rcases h with h | ⟨b, o, h1, h2⟩
  · subst h; simp [CsR]
  · refine .inr ⟨b, o + n, by simp [h1, add_mk], fun j hj => ?_⟩
    simp only [List.length_drop] at hj
    rw [show o + n + j = o + (n + j) by omega, h2 (n + j) (by omega)]; simp

section
variable {α : Type} {f : α → List Value} {m : Nat}

/-- Elements behind a slice's address; f says the cells of an element. -/
def RowR (f : α → List Value) (H : Heap) (a : Option Addr) (l : List α) : Prop := CsR H a (l.flatMap f)

theorem RowR.nil (H : Heap) (a : Option Addr) : RowR f H a [] := CsR.nil _ _
theorem RowR.fr {M : List Nat} {H H' : Heap} {a : Option Addr} {l : List α} (h : RowR f H a l) (hf : Fr M H H') (hm : ∀ b o, a = some ⟨b, o, none⟩ → b ∉ M) : RowR f H' a l := CsR.fr h hf hm
theorem RowR.ext {H H' : Heap} {a : Option Addr} {l : List α} (h : RowR f H a l) (hf : Fr [] H H') : RowR f H' a l := CsR.ext h hf

theorem length_cells (hm : ∀ x, (f x).length = m) : ∀ l : List α, (l.flatMap f).length = l.length * m
  | [] => by simp
  | x :: l => by simp [length_cells hm l, hm, Nat.add_mul, Nat.add_comm]
theorem drop_cells (hm : ∀ x, (f x).length = m) : ∀ (l : List α) (n : Nat), (l.flatMap f).drop (n * m) = (l.drop n).flatMap f
  | [], n => by simp
  | x :: l, 0 => by simp
  | x :: l, n + 1 => by
    rw [List.flatMap_cons, List.drop_succ_cons, ← drop_cells hm l n, List.drop_append, List.drop_eq_nil_of_le (by rw [hm, Nat.add_mul]; omega), hm]
    simp [Nat.add_mul]
theorem take_cells (hm : ∀ x, (f x).length = m) : ∀ (l : List α) (n : Nat), (l.flatMap f).take (n * m) = (l.take n).flatMap f
  | [], n => by simp
  | x :: l, 0 => by simp
  | x :: l, n + 1 => by
    rw [List.flatMap_cons, List.take_succ_cons, List.flatMap_cons, ← take_cells hm l n, List.take_append, List.take_of_length_le (by rw [hm, Nat.add_mul]; omega), hm]
    simp [Nat.add_mul]
theorem get_cells (hm : ∀ x, (f x).length = m) (l : List α) (j i : Nat) (hj : j < l.length) (hi : i < m) : (l.flatMap f)[j * m + i]? = (f l[j])[i]? := by
  have h1 := drop_cells hm l j
  have h2 : (l.flatMap f)[j * m + i]? = ((l.flatMap f).drop (j * m))[i]? := by simp
  rw [h2, h1, List.drop_eq_getElem_cons hj, List.flatMap_cons, List.getElem?_append_left (by rw [hm]; exact hi)]

/-- The cells of one element. -/
theorem RowR.get {H : Heap} {a : Option Addr} {l : List α} (h : RowR f H a l) (hm : ∀ x, (f x).length = m) (j : Nat) (hj : j < l.length) (h0 : 0 < m) : ∃ b o, a = some ⟨b, o, none⟩ ∧ ∀ i, i < m → cellB H b (o + j * m + i) = (f l[j])[i]? := by
  have hlen := length_cells hm l
  have hle : (j + 1) * m ≤ l.length * m := Nat.mul_le_mul_right _ hj
  rcases h with h | ⟨b, o, h1, h2⟩
  · rw [h] at hlen; simp at hlen; rw [Nat.add_mul] at hle; omega
  · refine ⟨b, o, h1, fun i hi => ?_⟩
    have hlt : j * m + i < (l.flatMap f).length := by rw [hlen]; rw [Nat.add_mul] at hle; omega
    rw [Nat.add_assoc, h2 _ hlt, ← get_cells hm l j i hj hi, List.getElem?_eq_getElem hlt]

theorem RowR.take {H : Heap} {a : Option Addr} {l : List α} (h : RowR f H a l) (hm : ∀ x, (f x).length = m) (n : Nat) : RowR f H a (l.take n) := by
  unfold RowR; rw [← take_cells hm]; exact CsR.take h _
theorem RowR.drop {H : Heap} {a : Option Addr} {l : List α} (h : RowR f H a l) (hm : ∀ x, (f x).length = m) (n : Nat) : RowR f H (a.map (·.add (n * m))) (l.drop n) := by
  unfold RowR; rw [← drop_cells hm]; exact CsR.drop h _
/-- A slice cut, as the machine makes it. -/
theorem RowR.cut {H : Heap} {a : Option Addr} {l : List α} (h : RowR f H a l) (hm : ∀ x, (f x).length = m) {c : Nat} (hc : l.length ≤ c) (n : Nat) : RowR f H (if c = n then a else a.map (·.add (n * m))) (l.drop n) := by
  by_cases e : c = n
  · rw [List.drop_eq_nil_of_le (by omega)]; exact RowR.nil _ _
  · rw [if_neg e]; exact h.drop hm n

theorem RowR.src {P : Program} {H : Heap} {a : Option Addr} {l : List α} {tx e c : Nat} (hk : P.underlying tx = some (.slice e)) (h : RowR f H a l) (hm : ∀ x, (f x).length = m) (h0 : 0 < m) (h1 : ∀ x, ∀ u ∈ f x, u.oneCell' = true) : SrcH P H m tx (.slice a l.length c) l.length (l.flatMap f) := by
  rcases h with h | ⟨b, o, h2, h3⟩
  · have : l = [] := by
      have := length_cells hm l
      rw [h] at this
      rcases Nat.eq_zero_or_pos l.length with h' | h'
      · exact List.eq_nil_of_length_eq_zero h'
      · have : 1 * m ≤ l.length * m := Nat.mul_le_mul_right _ h'
        simp at *; omega
    subst this; exact SrcH.empty hk a c
  · subst h2
    refine SrcH.cells hk (length_cells hm l) (fun j u hj => ?_) (by intro u hu; obtain ⟨x, _, hx⟩ := List.mem_flatMap.1 hu; exact h1 x u hx)
    have hlt : j < (l.flatMap f).length := by
      rcases Nat.lt_or_ge j (l.flatMap f).length with h | h
      · exact h
      · rw [List.getElem?_eq_none h] at hj; cases hj
    rw [add_mk, cellAt_mk, h3 j hlt, ← List.getElem?_eq_getElem hlt]; exact hj

theorem Own.csR {H : Heap} {a : Option Addr} {n c e : Nat} {xs : List Value} {g : Option Nat} (h : Own H e m (.slice a n c) n xs g) : CsR H a xs := by
  rcases h.2 with ⟨h1, h2, h3⟩ | ⟨b, cap, cur, h1, h2, h3, h4, h5, h6, h7⟩
  · subst h3; refine .inl (List.eq_nil_of_length_eq_zero ?_); have := h.1; omega
  · refine .inr ⟨b, 0, by simp at h2; exact h2.1, fun j hj => ?_⟩
    subst h1
    rw [Nat.zero_add, h.cell j (by have := h.1; omega)]
    simp [hj]
theorem Own.rowR {H : Heap} {a : Option Addr} {n c e : Nat} {l : List α} {g : Option Nat} (h : Own H e m (.slice a n c) n (l.flatMap f) g) : RowR f H a l := Own.csR h

/-- A slice of the heap that a reading says. -/
theorem RowR.of_ElR {H : Heap} {a : Option Addr} {l : List α} {R : α → List Value → Heap → Prop} (hm : ∀ x, (f x).length = m) (hR : ∀ x vs, R x vs H → vs = f x) (h : ElR R m H a l) : RowR f H a l := by
  rcases h with h | ⟨b, o, h1, h2⟩
  · subst h; exact RowR.nil _ _
  · refine .inr ⟨b, o, h1, fun k hk => ?_⟩
    have hlen := length_cells hm l
    have hm0 : 0 < m := by
      rcases Nat.eq_zero_or_pos m with h' | h'
      · subst h'; rw [hlen] at hk; simp at hk
      · exact h'
    have hj : k / m < l.length := by rw [hlen] at hk; exact (Nat.div_lt_iff_lt_mul hm0).2 hk
    have hi : k % m < m := Nat.mod_lt _ hm0
    obtain ⟨vs, h3, h4, h5⟩ := h2 (k / m) hj
    have e : o + k = o + k / m * m + k % m := by rw [Nat.add_assoc, Nat.mul_comm, Nat.div_add_mod]
    rw [e, h4 _ hi, hR _ _ h5, ← get_cells hm l _ _ hj hi]
    have e2 : k / m * m + k % m = k := by rw [Nat.mul_comm, Nat.div_add_mod]
    rw [e2, List.getElem?_eq_getElem hk]
end

/-- A store into a row of one's own. -/
theorem Sto_own {e m n b j : Nat} {v : Value} {xs : List Value} {H : Heap} {u : Value} {R : Heap → Prop} (h : Own H e m v n xs (some b)) (hj : j < xs.length) (h1 : u.oneCell' = true)
    (hR : ∀ H', Own H' e m v n (xs.set j u) (some b) → Fr [b] H H' → H'.size = H.size → R H') : Sto H ⟨b, j, none⟩ [u] 0 R := by
  rcases h.2 with ⟨h2, _⟩ | ⟨b', cap, cur, h2, h3, h4, h5, h6, h7, h8⟩
  · cases h2
  · cases h2
    have hb : Blk H b e cur.toList := by simpa [Blk] using h4
    have hlt : j < cur.toList.length := by
      have := congrArg List.length h8
      simp only [List.length_take, Array.length_toList] at this
      simp; omega
    refine Sto_one hb hlt h1 fun H' hb' hf hs => hR H' ⟨by simpa using h.1, .inr ⟨b, cap, _, rfl, h3, hb', h5, h6, by simpa using h7, ?_⟩⟩ hf hs
    rw [← h8, List.take_set]

/-- A block that is written whole. -/
theorem Sto_all {b t : Nat} {l vs : List Value} {H : Heap} {R : Heap → Prop} (h : Blk H b t l) (hl : vs.length = l.length) (h1 : ∀ v ∈ vs, v.oneCell' = true)
    (hR : ∀ H', Blk H' b t vs → Fr [b] H H' → H'.size = H.size → R H') : Sto H ⟨b, 0, none⟩ vs 0 R :=
  Sto_blk vs H l 0 0 h (by omega) h1 fun H' hb hf hs => hR H' (by
    rw [setL_eq _ _ _ (by omega)] at hb
    rw [List.drop_eq_nil_of_le (by omega)] at hb
    simpa using hb) hf hs

end Gx
end
section
/- Data that lie in memory: trees of cells and of slices. -/
namespace Gx
open Go

/-- Cells behind an address whose block is none of `M`. -/
def CsA (H : Heap) (M : List Nat) (a : Option Addr) (l : List Value) : Prop :=
  l = [] ∨ ∃ b o, a = some ⟨b, o, none⟩ ∧ b ∉ M ∧ ∀ j (h : j < l.length), cellB H b (o + j) = some l[j]

theorem CsA.csR {H : Heap} {M : List Nat} {a : Option Addr} {l : List Value} (h : CsA H M a l) : CsR H a l := by
  rcases h with h | ⟨b, o, h1, _, h2⟩
  · exact .inl h
  · exact .inr ⟨b, o, h1, h2⟩
theorem CsA.of_csR {H : Heap} {a : Option Addr} {l : List Value} (h : CsR H a l) : CsA H [] a l := by
  rcases h with h | ⟨b, o, h1, h2⟩
  · exact .inl h
  · exact .inr ⟨b, o, h1, by simp, h2⟩

/-- The step from one memory to another: what was readable and none of `M` is as it was, and none of `M'`. -/
def Stays (H : Heap) (M : List Nat) (H' : Heap) (M' : List Nat) : Prop := ∀ b, b < H.size → b ∉ M → b ∉ M' ∧ H'[b]? = H[b]?

theorem Stays.refl (H : Heap) (M : List Nat) : Stays H M H M := fun _ _ h => ⟨h, rfl⟩
/-- Behind writes to blocks of `M`, or new ones. -/
theorem Stays.fr {H H' : Heap} {M M' : List Nat} (hf : Fr M' H H') (hm : ∀ x, x ∈ M' → x ∈ M ∨ H.size ≤ x) : Stays H M H' M := fun b hb hn =>
  ⟨hn, hf.same b hb fun h => by rcases hm b h with q | q; exact hn q; omega⟩
theorem Stays.more {H : Heap} {M M' : List Nat} (hm : ∀ x, x ∈ M' → x ∈ M ∨ H.size ≤ x) : Stays H M H M' := fun b hb hn =>
  ⟨fun h => by rcases hm b h with q | q; exact hn q; omega, rfl⟩
theorem Stays.ext {H H' : Heap} {M : List Nat} (hf : Fr [] H H') : Stays H M H' M := Stays.fr hf (by simp)
theorem Stays.trans {H H' H'' : Heap} {M M' M'' : List Nat} (h : Stays H M H' M') (k : Stays H' M' H'' M'') (hs : H.size ≤ H'.size) : Stays H M H'' M'' := fun b hb hn => by
  obtain ⟨h1, h2⟩ := h b hb hn
  obtain ⟨h3, h4⟩ := k b (by omega) h1
  exact ⟨h3, h4.trans h2⟩

theorem CsA.to {H H' : Heap} {M M' : List Nat} {a : Option Addr} {l : List Value} (h : CsA H M a l) (hs : Stays H M H' M') : CsA H' M' a l := by
  rcases h with h | ⟨b, o, h1, h2, h3⟩
  · exact .inl h
  · rcases Nat.eq_zero_or_pos l.length with h0 | h0
    · exact .inl (List.eq_nil_of_length_eq_zero h0)
    · have hlt := cellB_lt (h3 0 h0)
      obtain ⟨q1, q2⟩ := hs b hlt h2
      refine .inr ⟨b, o, h1, q1, fun j hj => ?_⟩
      have := h3 j hj
      unfold cellB at *
      rw [q2]; exact this

/-- What is read: a cell; a slice of elements of m cells each; fields one behind the other. -/
inductive Dat where
  | v (x : Value)
  | list (m : Nat) (l : List Dat)
  | agg (l : List Dat)

mutual
def Rep (H : Heap) (M : List Nat) : Dat → List Value → Prop
  | .v x, cs => cs = [x]
  | .list m l, cs => ∃ a c css, cs = [.slice a l.length c] ∧ l.length ≤ c ∧ c ≤ maxLen ∧ Reps H M l css ∧ (∀ x ∈ css, x.length = m) ∧ CsA H M a css.flatten
  | .agg l, cs => ∃ css, cs = css.flatten ∧ Reps H M l css
def Reps (H : Heap) (M : List Nat) : List Dat → List (List Value) → Prop
  | [], css => css = []
  | d :: ds, css => ∃ x xs, css = x :: xs ∧ Rep H M d x ∧ Reps H M ds xs
end

section
variable {H H' : Heap} {M M' : List Nat} {α : Type}

mutual
theorem Rep.to (hs : Stays H M H' M') : ∀ (d : Dat) (cs : List Value), Rep H M d cs → Rep H' M' d cs
  | .v x, cs, h => by simpa [Rep] using h
  | .list m l, cs, h => by
    simp only [Rep] at h ⊢
    obtain ⟨a, c, css, h1, h2, h3, h4, h5, h6⟩ := h
    exact ⟨a, c, css, h1, h2, h3, Reps.to hs l css h4, h5, h6.to hs⟩
  | .agg l, cs, h => by
    simp only [Rep] at h ⊢
    obtain ⟨css, h1, h2⟩ := h
    exact ⟨css, h1, Reps.to hs l css h2⟩
theorem Reps.to (hs : Stays H M H' M') : ∀ (l : List Dat) (css : List (List Value)), Reps H M l css → Reps H' M' l css
  | [], css, h => by simpa [Reps] using h
  | d :: ds, css, h => by
    simp only [Reps] at h ⊢
    obtain ⟨x, xs, h1, h2, h3⟩ := h
    exact ⟨x, xs, h1, Rep.to hs d x h2, Reps.to hs ds xs h3⟩
end

theorem Rep.ext {d : Dat} {cs : List Value} (h : Rep H M d cs) (hf : Fr [] H H') : Rep H' M d cs := Rep.to (Stays.ext hf) d cs h
theorem Rep.stay {d : Dat} {cs : List Value} (h : Rep H M d cs) (hs : Stays H M H' M') : Rep H' M' d cs := Rep.to hs d cs h

theorem Reps.length : ∀ {l : List Dat} {css : List (List Value)}, Reps H M l css → css.length = l.length
  | [], css, h => by simp only [Reps] at h; subst h; rfl
  | d :: ds, css, h => by
    simp only [Reps] at h
    obtain ⟨x, xs, rfl, _, h3⟩ := h
    simp [Reps.length h3]
theorem Reps.get : ∀ {l : List Dat} {css : List (List Value)}, Reps H M l css → ∀ (j : Nat) (hj : j < l.length), ∃ x, css[j]? = some x ∧ Rep H M l[j] x
  | [], css, h, j, hj => by simp at hj
  | d :: ds, css, h, j, hj => by
    simp only [Reps] at h
    obtain ⟨x, xs, rfl, h2, h3⟩ := h
    cases j with
    | zero => exact ⟨x, rfl, h2⟩
    | succ j => simpa using Reps.get h3 j (by simpa using hj)
theorem Reps.append : ∀ {l l' : List Dat} {css css' : List (List Value)}, Reps H M l css → Reps H M l' css' → Reps H M (l ++ l') (css ++ css')
  | [], l', css, css', h, h' => by simp only [Reps] at h; subst h; exact h'
  | d :: ds, l', css, css', h, h' => by
    simp only [Reps] at h
    obtain ⟨x, xs, rfl, h2, h3⟩ := h
    exact ⟨x, xs ++ css', rfl, h2, Reps.append h3 h'⟩
theorem Reps.one {d : Dat} {x : List Value} (h : Rep H M d x) : Reps H M [d] [x] := ⟨x, [], rfl, h, rfl⟩
theorem Reps.take : ∀ {l : List Dat} {css : List (List Value)} (n : Nat), Reps H M l css → Reps H M (l.take n) (css.take n)
  | [], css, n, h => by simp only [Reps] at h; subst h; simp [Reps]
  | d :: ds, css, 0, h => by simp [Reps]
  | d :: ds, css, n + 1, h => by
    simp only [Reps] at h
    obtain ⟨x, xs, rfl, h2, h3⟩ := h
    exact ⟨x, xs.take n, rfl, h2, Reps.take n h3⟩
theorem Reps.drop : ∀ {l : List Dat} {css : List (List Value)} (n : Nat), Reps H M l css → Reps H M (l.drop n) (css.drop n)
  | [], css, n, h => by simp only [Reps] at h; subst h; simp [Reps]
  | d :: ds, css, 0, h => h
  | d :: ds, css, n + 1, h => by
    simp only [Reps] at h
    obtain ⟨x, xs, rfl, h2, h3⟩ := h
    exact Reps.drop n h3

theorem flatten_len {m : Nat} : ∀ {css : List (List Value)}, (∀ x ∈ css, x.length = m) → css.flatten.length = css.length * m
  | [], _ => by simp
  | x :: css, h => by
    have := flatten_len (css := css) fun y hy => h y (by simp [hy])
    simp [this, h x (by simp), Nat.add_mul, Nat.add_comm]
theorem flatten_take {m : Nat} : ∀ {css : List (List Value)} (n : Nat), (∀ x ∈ css, x.length = m) → css.flatten.take (n * m) = (css.take n).flatten
  | [], n, _ => by simp
  | x :: css, 0, h => by simp
  | x :: css, n + 1, h => by
    rw [List.flatten_cons, List.take_succ_cons, List.flatten_cons, ← flatten_take n (fun y hy => h y (by simp [hy])), List.take_append, List.take_of_length_le (by rw [h x (by simp), Nat.add_mul]; omega), h x (by simp)]
    simp [Nat.add_mul]
theorem flatten_drop {m : Nat} : ∀ {css : List (List Value)} (n : Nat), (∀ x ∈ css, x.length = m) → css.flatten.drop (n * m) = (css.drop n).flatten
  | [], n, _ => by simp
  | x :: css, 0, h => by simp
  | x :: css, n + 1, h => by
    rw [List.flatten_cons, List.drop_succ_cons, ← flatten_drop n (fun y hy => h y (by simp [hy])), List.drop_append, List.drop_eq_nil_of_le (by rw [h x (by simp), Nat.add_mul]; omega), h x (by simp)]
    simp [Nat.add_mul]

/-- An element of a slice. -/
theorem Rep.at {m : Nat} {l : List Dat} {v : Value} (h : Rep H M (.list m l) [v]) (j : Nat) (hj : j < l.length) (h0 : 0 < m) :
    ∃ b o c x, v = .slice (some ⟨b, o, none⟩) l.length c ∧ b ∉ M ∧ x.length = m ∧ (∀ i, i < m → cellB H b (o + j * m + i) = x[i]?) ∧ Rep H M l[j] x := by
  simp only [Rep] at h
  obtain ⟨a, c, css, h1, h2, h3, h4, h5, h6⟩ := h
  simp only [List.cons.injEq, and_true] at h1
  have hlen := Reps.length h4
  obtain ⟨x, hx, hr⟩ := Reps.get h4 j hj
  have hxm : x ∈ css := List.mem_of_getElem? hx
  have hxl := h5 x hxm
  have hfl := flatten_len h5
  have hle : (j + 1) * m ≤ l.length * m := Nat.mul_le_mul_right _ hj
  rw [Nat.add_mul, Nat.one_mul] at hle
  rcases h6 with h6 | ⟨b, o, h7, h8, h9⟩
  · rw [h6, hlen] at hfl
    simp only [List.length_nil] at hfl
    omega
  · refine ⟨b, o, c, x, by rw [h1, h7], h8, hxl, fun i hi => ?_, hr⟩
    have hlt : j * m + i < css.flatten.length := by rw [hfl, hlen]; omega
    rw [Nat.add_assoc, h9 _ hlt, ← List.getElem?_eq_getElem hlt]
    have e1 : css.flatten[j * m + i]? = (css.flatten.drop (j * m))[i]? := by simp
    have hj' : j < css.length := by omega
    rw [e1, flatten_drop j h5, List.drop_eq_getElem_cons hj', List.flatten_cons, List.getElem?_append_left (by
      rw [List.getElem?_eq_getElem hj'] at hx; cases hx; omega)]
    rw [List.getElem?_eq_getElem hj'] at hx; cases hx; rfl

theorem Rep.slice {m : Nat} {l : List Dat} {v : Value} (h : Rep H M (.list m l) [v]) : ∃ a c, v = .slice a l.length c ∧ l.length ≤ c ∧ c ≤ maxLen := by
  simp only [Rep] at h
  obtain ⟨a, c, css, h1, h2, h3, _⟩ := h
  simp only [List.cons.injEq, and_true] at h1
  exact ⟨a, c, h1, h2, h3⟩
theorem Rep.nil (m : Nat) : Rep H M (.list m []) [.slice none 0 0] := by
  simp only [Rep]
  exact ⟨none, 0, [], rfl, Nat.le_refl _, by decide, rfl, by simp, .inl rfl⟩
/-- A slice cut off behind. -/
theorem Rep.takeL {m : Nat} {l : List Dat} {a : Option Addr} {n c : Nat} (h : Rep H M (.list m l) [.slice a n c]) {k : Nat} (hk : k ≤ l.length) : Rep H M (.list m (l.take k)) [.slice a k c] := by
  simp only [Rep] at h ⊢
  obtain ⟨a', c', css, h1, h2, h3, h4, h5, h6⟩ := h
  simp only [List.cons.injEq, and_true, Value.slice.injEq] at h1
  obtain ⟨rfl, rfl, rfl⟩ := h1
  refine ⟨a, c, css.take k, by rw [List.length_take, Nat.min_eq_left hk], by rw [List.length_take]; omega, h3, Reps.take k h4, fun x hx => h5 x (List.mem_of_mem_take hx), ?_⟩
  rw [← flatten_take k h5]
  rcases h6 with h6 | ⟨b, o, h7, h8, h9⟩
  · exact .inl (by rw [h6]; simp)
  · refine .inr ⟨b, o, h7, h8, fun j hj => ?_⟩
    simp only [List.length_take] at hj
    rw [h9 j (by omega)]; simp

/-- Rows of one cell or several that hold no slices. -/
def leaf (f : α → List Value) (x : α) : Dat := .agg ((f x).map .v)
theorem reps_leaf : ∀ (l : List Value) (css : List (List Value)), Reps H M (l.map .v) css → css.flatten = l
  | [], css, h => by simp only [List.map_nil, Reps] at h; subst h; rfl
  | x :: l, css, h => by
    simp only [List.map_cons, Reps, Rep] at h
    obtain ⟨y, ys, rfl, rfl, h3⟩ := h
    simp [reps_leaf l ys h3]
theorem rep_leaf {f : α → List Value} {x : α} {cs : List Value} (h : Rep H M (leaf f x) cs) : cs = f x := by
  simp only [leaf, Rep] at h
  obtain ⟨css, h1, h2⟩ := h
  rw [h1, reps_leaf _ _ h2]

theorem reps_flat {f : α → Dat} {g : α → List Value} (hfg : ∀ x cs, Rep H M (f x) cs → cs = g x) : ∀ {l : List α} {css : List (List Value)}, Reps H M (l.map f) css → css.flatten = l.flatMap g
  | [], css, h => by simp only [List.map_nil, Reps] at h; subst h; rfl
  | x :: l, css, h => by
    simp only [List.map_cons, Reps] at h
    obtain ⟨y, ys, rfl, h2, h3⟩ := h
    simp [reps_flat hfg h3, hfg x y h2]
/-- A slice of such elements, as a row. -/
theorem Rep.row {f : α → Dat} {g : α → List Value} {m : Nat} (hfg : ∀ x cs, Rep H M (f x) cs → cs = g x) {l : List α} {v : Value} (h : Rep H M (.list m (l.map f)) [v]) :
    ∃ a c, v = .slice a l.length c ∧ l.length ≤ c ∧ c ≤ maxLen ∧ RowR g H a l := by
  simp only [Rep] at h
  obtain ⟨a, c, css, h1, h2, h3, h4, h5, h6⟩ := h
  simp only [List.cons.injEq, and_true, List.length_map] at h1 h2
  refine ⟨a, c, h1, h2, h3, ?_⟩
  unfold RowR
  rw [← reps_flat hfg h4]
  exact h6.csR
end
end Gx
end
section
/-
  DERIVED: THE SHELF's CONTRACTS AT THIS DUMP, IN PLAIN WORDS (tools/lay-plain.mjs out of 'TryzShelf.lean', which tools/lay-shelf.mjs wrote): THE SAME DECLARATIONS UNDER THE SAME NAMES: 'import', 'namespace', 'open', 'def', 'theorem' AND NOTHING ELSE: no command of the shelf's: FOR A HAND-IN. Each laying: the table of numbers ('.._ren') and one theorem, a field a fact of the dump's own or the kernel's comparison; each contract: ONE APPLICATION.
-/
namespace Go.Proofs
def Tryz.laysC174_ren : Go.Shelf.Ren := ⟨fun | 174 => 79 | 247 => 93 | 245 => 94 | 287 => 104 | 279 => 105 | 280 => 106 | 281 => 107 | 282 => 108 | 321 => 111 | 322 => 112 | 316 => 113 | 171 => 115 | 205 => 114 | 243 => 117 | 246 => 119 | 283 => 122 | 284 => 123 | 285 => 124 | 286 => 125 | 129 => 127 | 317 => 126 | 318 => 128 | 319 => 129 | 320 => 130 | 337 => 131 | 338 => 132 | n => n, fun | 9 => 9 | 3 => 3 | 2 => 2 | 75 => 77 | 85 => 78 | 4 => 4 | 167 => 85 | 5 => 5 | 53 => 86 | 175 => 87 | 46 => 89 | 168 => 90 | 37 => 94 | 0 => 0 | 210 => 97 | 21 => 21 | 127 => 99 | 145 => 102 | 143 => 100 | 171 => 104 | 173 => 107 | 212 => 110 | 51 => 111 | 20 => 20 | 213 => 112 | 232 => 116 | 233 => 117 | 80 => 118 | n => n, fun | 15 => 0 | 16 => 1 | 17 => 2 | 18 => 3 | 19 => 4 | n => n⟩
theorem Tryz.laysC174 : Go.Proofs.LaysC.n174 Tryz.prog Tryz.laysC174_ren := {
  mixed := by kernel_rfl
  f129 := Tryz.func127.trans (congrArg some (by kernel_rfl))
  f171 := Tryz.func115.trans (congrArg some (by kernel_rfl))
  f174 := Tryz.func79.trans (congrArg some (by kernel_rfl))
  f205 := Tryz.func114.trans (congrArg some (by kernel_rfl))
  f243 := Tryz.func117.trans (congrArg some (by kernel_rfl))
  f245 := Tryz.func94.trans (congrArg some (by kernel_rfl))
  f246 := Tryz.func119.trans (congrArg some (by kernel_rfl))
  f247 := Tryz.func93.trans (congrArg some (by kernel_rfl))
  f279 := Tryz.func105.trans (congrArg some (by kernel_rfl))
  f280 := Tryz.func106.trans (congrArg some (by kernel_rfl))
  f281 := Tryz.func107.trans (congrArg some (by kernel_rfl))
  f282 := Tryz.func108.trans (congrArg some (by kernel_rfl))
  f283 := Tryz.func122.trans (congrArg some (by kernel_rfl))
  f284 := Tryz.func123.trans (congrArg some (by kernel_rfl))
  f285 := Tryz.func124.trans (congrArg some (by kernel_rfl))
  f286 := Tryz.func125.trans (congrArg some (by kernel_rfl))
  f287 := Tryz.func104.trans (congrArg some (by kernel_rfl))
  f316 := Tryz.func113.trans (congrArg some (by kernel_rfl))
  f317 := Tryz.func126.trans (congrArg some (by kernel_rfl))
  f318 := Tryz.func128.trans (congrArg some (by kernel_rfl))
  f319 := Tryz.func129.trans (congrArg some (by kernel_rfl))
  f320 := Tryz.func130.trans (congrArg some (by kernel_rfl))
  f321 := Tryz.func111.trans (congrArg some (by kernel_rfl))
  f322 := Tryz.func112.trans (congrArg some (by kernel_rfl))
  f337 := Tryz.func131.trans (congrArg some (by kernel_rfl))
  f338 := Tryz.func132.trans (congrArg some (by kernel_rfl))
  t0 := Tryz.underlying0
  a0 := Tryz.isAgg0
  z0 := Tryz.sizeOf0
  v0 := Tryz.zeroValue0
  t2 := Tryz.underlying2
  a2 := Tryz.isAgg2
  z2 := Tryz.sizeOf2
  v2 := Tryz.zeroValue2
  t3 := Tryz.underlying3
  a3 := Tryz.isAgg3
  z3 := Tryz.sizeOf3
  v3 := Tryz.zeroValue3
  t4 := Tryz.underlying4
  a4 := Tryz.isAgg4
  z4 := Tryz.sizeOf4
  v4 := Tryz.zeroValue4
  t5 := Tryz.underlying5
  a5 := Tryz.isAgg5
  z5 := Tryz.sizeOf5
  v5 := Tryz.zeroValue5
  t9 := Tryz.underlying9
  a9 := Tryz.isAgg9
  z9 := Tryz.sizeOf9
  v9 := Tryz.zeroValue9
  t20 := Tryz.underlying20
  a20 := Tryz.isAgg20
  z20 := Tryz.sizeOf20
  v20 := Tryz.zeroValue20
  t21 := Tryz.underlying21
  a21 := Tryz.isAgg21
  z21 := Tryz.sizeOf21
  v21 := Tryz.zeroValue21
  t37 := Tryz.underlying94
  a37 := Tryz.isAgg94
  z37 := Tryz.sizeOf94
  v37 := Tryz.zeroValue94
  t46 := Tryz.underlying89
  a46 := Tryz.isAgg89
  z46 := Tryz.sizeOf89
  v46 := Tryz.zeroValue89
  t51 := Tryz.underlying111
  a51 := Tryz.isAgg111
  z51 := Tryz.sizeOf111
  v51 := Tryz.zeroValue111
  t53 := Tryz.underlying86
  a53 := Tryz.isAgg86
  z53 := Tryz.sizeOf86
  v53 := Tryz.zeroValue86
  t75 := Tryz.underlying77
  a75 := Tryz.isAgg77
  z75 := Tryz.sizeOf77
  v75 := Tryz.zeroValue77
  t85 := Tryz.underlying78
  a85 := Tryz.isAgg78
  z85 := Tryz.sizeOf78
  v85 := Tryz.zeroValue78
  t127 := Tryz.underlying99
  a127 := Tryz.isAgg99
  z127 := Tryz.sizeOf99
  v127 := Tryz.zeroValue99
  t143 := Tryz.underlying100
  a143 := Tryz.isAgg100
  z143 := Tryz.sizeOf100
  v143 := Tryz.zeroValue100
  t145 := Tryz.underlying102
  a145 := Tryz.isAgg102
  z145 := Tryz.sizeOf102
  v145 := Tryz.zeroValue102
  t167 := Tryz.underlying85
  a167 := Tryz.isAgg85
  z167 := Tryz.sizeOf85
  v167 := Tryz.zeroValue85
  t168 := Tryz.underlying90
  a168 := Tryz.isAgg90
  z168 := Tryz.sizeOf90
  v168 := Tryz.zeroValue90
  t171 := Tryz.underlying104
  a171 := Tryz.isAgg104
  z171 := Tryz.sizeOf104
  v171 := Tryz.zeroValue104
  t173 := Tryz.underlying107
  a173 := Tryz.isAgg107
  z173 := Tryz.sizeOf107
  v173 := Tryz.zeroValue107
  t175 := Tryz.underlying87
  a175 := Tryz.isAgg87
  z175 := Tryz.sizeOf87
  v175 := Tryz.zeroValue87
  t210 := Tryz.underlying97
  a210 := Tryz.isAgg97
  z210 := Tryz.sizeOf97
  v210 := Tryz.zeroValue97
  t212 := Tryz.underlying110
  a212 := Tryz.isAgg110
  z212 := Tryz.sizeOf110
  v212 := Tryz.zeroValue110
  t213 := Tryz.underlying112
  a213 := Tryz.isAgg112
  z213 := Tryz.sizeOf112
  t232 := Tryz.underlying116
  a232 := Tryz.isAgg116
  z232 := Tryz.sizeOf116
  v232 := Tryz.zeroValue116
  t233 := Tryz.underlying117
  a233 := Tryz.isAgg117
  z233 := Tryz.sizeOf117
  v233 := Tryz.zeroValue117
  g15 := by kernel_rfl
  g16 := by kernel_rfl
  g17 := by kernel_rfl
  g18 := by kernel_rfl
  g19 := by kernel_rfl
  t80 := Tryz.underlying118
  a80 := Tryz.isAgg118
  z80 := Tryz.sizeOf118
  v80 := Tryz.zeroValue118
  i0 := by kernel_rfl
  i2 := by kernel_rfl
  i3 := by kernel_rfl
  i4 := by kernel_rfl
  i5 := by kernel_rfl
  i9 := by kernel_rfl
  i20 := by kernel_rfl
  i21 := by kernel_rfl
  i37 := by kernel_rfl
  i46 := by kernel_rfl
  i51 := by kernel_rfl
  i53 := by kernel_rfl
  i75 := by kernel_rfl
  i80 := by kernel_rfl
  i85 := by kernel_rfl
  i127 := by kernel_rfl
  i143 := by kernel_rfl
  i145 := by kernel_rfl
  i167 := by kernel_rfl
  i168 := by kernel_rfl
  i171 := by kernel_rfl
  i173 := by kernel_rfl
  i175 := by kernel_rfl
  i210 := by kernel_rfl
  i212 := by kernel_rfl
  i232 := by kernel_rfl
  i233 := by kernel_rfl
  m15 := by kernel_rfl
  m16 := by kernel_rfl
  m17 := by kernel_rfl
  m18 := by kernel_rfl
  m19 := by kernel_rfl
  c0 := by kernel_rfl
  c2 := by kernel_rfl
  c3 := by kernel_rfl
  c4 := by kernel_rfl
  c5 := by kernel_rfl
  c9 := by kernel_rfl
  c20 := by kernel_rfl
  c21 := by kernel_rfl
  c37 := by kernel_rfl
  c46 := by kernel_rfl
  c51 := by kernel_rfl
  c53 := by kernel_rfl
  c75 := by kernel_rfl
  c80 := by kernel_rfl
  c85 := by kernel_rfl
  c127 := by kernel_rfl
  c143 := by kernel_rfl
  c145 := by kernel_rfl
  c167 := by kernel_rfl
  c168 := by kernel_rfl
  c171 := by kernel_rfl
  c173 := by kernel_rfl
  c175 := by kernel_rfl
  c210 := by kernel_rfl
  c212 := by kernel_rfl
  c213 := by kernel_rfl
  c232 := by kernel_rfl
  c233 := by kernel_rfl }
open Go.RowKit in
/-- strconv.ParseInt(s, 10, 64), AT EVERY STRING THAT SPELLS AN int64 ('Lib.parseIntB 64 s.data.toList = .ok v'): v, AND NO ERROR. (LAID: no walk: one application.) -/
theorem Tryz.strconv_ParseInt_10_at64_ok (s : ByteArray) (hmax : s.size ≤ 9223372036854775806) (v : Int) (h : Lib.parseIntB 64 s.data.toList = .ok v) (w : World) :
    Calls Tryz.prog 79 #[.string s, .int .i64 10, .int .i64 64] w fun e w' => e = .returned (.tuple #[.int .i64 v, .nilIface]) ∧ (w' = w ∨ ∃ t, w' = Lib.bytesWorld w 5 t) := Any.strconv_ParseInt_10_at64_ok Tryz.laysC174 s hmax v h w
open Go.RowKit in
/-- strconv.ParseInt(s, 10, 64), AT EVERY NUMERAL THAT NO int64 HOLDS: THE GREATEST OR THE LEAST int64, BY THE SIGN ('Lib.intSat 64'), AND AN ERROR THAT IS NOT nil: a *NumError in a new block N: {Func: "ParseInt", Num: s's bytes, Err: what the variable ErrRange holds}. Of what was there nothing has turned. (LAID: no walk: one application.) -/
theorem Tryz.strconv_ParseInt_10_at64_range (s : ByteArray) (hlim : s.size ≤ 281474976710656) (h : Lib.parseIntB 64 s.data.toList = .range) (ev : Value) (w : World) (hv : w.cell? ⟨1, 0, none⟩ = some ev) (hev : ev = .nilIface ∨ ∃ te pe, ev = .iface te pe) :
    Calls Tryz.prog 79 #[.string s, .int .i64 10, .int .i64 64] w fun e w' => ∃ N, e = .returned (.tuple #[.int .i64 (Lib.intSat 64 s.data.toList), .iface 90 (.pointer (some ⟨N, 0, none⟩))]) ∧ w.heap.size ≤ N ∧ w'.heap[N]? = some (.cells #[.string ⟨#[80, 97, 114, 115, 101, 73, 110, 116]⟩, .string s, ev] 97 (0, 0)) ∧ Below w.heap.size w w' := Any.strconv_ParseInt_10_at64_range Tryz.laysC174 s hlim h ev w hv hev
end Go.Proofs
end
