import Derived.Test.YtcilkhjadljaaaaB1
import Derived.Deep.AppendSrc
import Derived.Carry
import Derived.OpenShut
import Derived.Handed
section
/- The rules by which simp goes through stripped code. -/
namespace Gx
open Go

def vcK (P : Program) (E : Chain → Heap → Prop) (b : SCode) (Q : Post) : Slots → Heap → Prop := fun σ H => vc P E b σ H Q

def retK (P : Program) (E : Chain → Heap → Prop) (d : Dst) (r : List GOp) (σ : Slots) (τ : List Value) (K : Slots → Heap → Prop) : Value → Heap → Prop :=
  fun v H' => vcOps P E r (putS d v σ) (putT d v τ) H' K

def gdN (P : Program) (E : Chain → Heap → Prop) (t : Opd) (b fr : Bool) (d : Dst) (s : SOp Opd) (r : List GOp) (σ : Slots) (τ : List Value) (H : Heap) (K : Slots → Heap → Prop) : Option (Option Bool) → Prop
  | some (some c) => (c = b → s.vc P E (evO (gS fr t (.bool b) σ) (gT fr t (.bool b) τ)) H (retK P E d r (gS fr t (.bool b) σ) (gT fr t (.bool b) τ) K)) ∧
      (c = (!b) → vcOps P E r (putS d undef (gS fr t (.bool (!b)) σ)) (putT d undef (gT fr t (.bool (!b)) τ)) H K)
  | some none => vcOps P E r (putS d undef σ) (putT d undef τ) H K
  | none => False

def rdD (P : Program) (E : Chain → Heap → Prop) (next : DT) (d : Dst) (s : SOp Opd) (D : List Nat) (pend : Pend) (σ : Slots) (τ : List Value) (H : Heap) (K : Slots → Heap → Prop) : Option (Prop × Value) → Prop
  | some (p, v) => p ∧ vcD P E next (s.held (evO σ τ) D v pend) (putS d v σ) (putT d v τ) H K
  | none => False

def efK (P : Program) (E : Chain → Heap → Prop) (next : DT) (d : Dst) (pend : Pend) (σ : Slots) (τ : List Value) (K : Slots → Heap → Prop) : Value → Heap → Prop :=
  fun v H' => pendOk H' pend ∧ vcD P E next pend (putS d v σ) (putT d v τ) H' K

def gdRd (P : Program) (E : Chain → Heap → Prop) (t : Opd) (b : Bool) (next : DT) (d : Dst) (s : SOp Opd) (D : List Nat) (pend : Pend) (σ : Slots) (τ : List Value) (H : Heap) (K : Slots → Heap → Prop) : Option (Option Bool) → Prop
  | some (some c) => (c = b → rdD P E next d s D pend (setS t (.bool b) σ) (setT t (.bool b) τ) H K (s.rd (evO (setS t (.bool b) σ) (setT t (.bool b) τ)) H)) ∧
      (c = (!b) → vcD P E next pend (putS d undef (setS t (.bool (!b)) σ)) (putT d undef (setT t (.bool (!b)) τ)) H K)
  | some none => vcD P E next pend (putS d undef σ) (putT d undef τ) H K
  | none => False

def gdEf (P : Program) (E : Chain → Heap → Prop) (t : Opd) (b : Bool) (next : DT) (d : Dst) (s : SOp Opd) (pend : Pend) (σ : Slots) (τ : List Value) (H : Heap) (K : Slots → Heap → Prop) : Option (Option Bool) → Prop
  | some (some c) => (c = b → s.vc P E (evO (setS t (.bool b) σ) (setT t (.bool b) τ)) H (efK P E next d pend (setS t (.bool b) σ) (setT t (.bool b) τ) K)) ∧
      (c = (!b) → vcD P E next pend (putS d undef (setS t (.bool (!b)) σ)) (putT d undef (setT t (.bool (!b)) τ)) H K)
  | some none => vcD P E next pend (putS d undef σ) (putT d undef τ) H K
  | none => False

section
variable {P : Program} {E : Chain → Heap → Prop} {σ : Slots} {τ : List Value} {H : Heap} {Q : Post} {K : Slots → Heap → Prop}

@[go_sem] theorem vc_de (t : DT) : vc P E (.de t) σ H Q = vcD P E t [] σ [] H (nrmK Q) := rfl
@[go_sem] theorem vcD_done (pend : Pend) : vcD P E .done pend σ τ H K = K σ H := rfl
@[go_sem] theorem vcD_rd (d : Dst) (s : SOp Opd) (D : List Nat) (next : DT) (pend : Pend) : vcD P E (.rd none d s D next) pend σ τ H K = rdD P E next d s D pend σ τ H K (s.rd (evO σ τ) H) := by
  simp only [vcD, rdD, rdK]; cases s.rd (evO σ τ) H <;> rfl
@[go_sem] theorem vcD_rdg (t : Opd) (b : Bool) (d : Dst) (s : SOp Opd) (D : List Nat) (next : DT) (pend : Pend) : vcD P E (.rd (some (t, b)) d s D next) pend σ τ H K = gdRd P E t b next d s D pend σ τ H K (guardOf (evO σ τ t)) := by
  simp only [vcD, gdRd, rdD, rdK]
  cases guardOf (evO σ τ t) with
  | none => rfl
  | some x =>
    cases x with
    | none => rfl
    | some c =>
      simp only
      congr 1
      cases s.rd (evO (setS t (.bool b) σ) (setT t (.bool b) τ)) H <;> rfl
@[go_sem] theorem vcD_ef (i : Nat) (d : Dst) (s : SOp Opd) (next : DT) (pend : Pend) : vcD P E (.ef i none d s next) pend σ τ H K = s.vc P E (evO σ τ) H (efK P E next d (pendDrop i pend) σ τ K) := rfl
@[go_sem] theorem vcD_efg (i : Nat) (t : Opd) (b : Bool) (d : Dst) (s : SOp Opd) (next : DT) (pend : Pend) : vcD P E (.ef i (some (t, b)) d s next) pend σ τ H K = gdEf P E t b next d s (pendDrop i pend) σ τ H K (guardOf (evO σ τ t)) := by
  simp only [vcD, gdEf]
  cases guardOf (evO σ τ t) with
  | none => rfl
  | some x => cases x <;> rfl
@[go_sem] theorem vcD_br (a b : DT) (pend : Pend) : vcD P E (.br a b) pend σ τ H K = (vcD P E a pend σ τ H K ∧ vcD P E b pend σ τ H K) := rfl
@[go_sem] theorem rdD_some (next : DT) (d : Dst) (s : SOp Opd) (D : List Nat) (pend : Pend) (p : Prop) (v : Value) : rdD P E next d s D pend σ τ H K (some (p, v)) = (p ∧ vcD P E next (s.held (evO σ τ) D v pend) (putS d v σ) (putT d v τ) H K) := rfl
@[go_sem] theorem efK_app (next : DT) (d : Dst) (pend : Pend) (v : Value) (H' : Heap) : efK P E next d pend σ τ K v H' = (pendOk H' pend ∧ vcD P E next pend (putS d v σ) (putT d v τ) H' K) := rfl
@[go_sem] theorem gdRd_bool (t : Opd) (b : Bool) (next : DT) (d : Dst) (s : SOp Opd) (D : List Nat) (pend : Pend) (c : Bool) : gdRd P E t b next d s D pend σ τ H K (some (some c)) =
    ((c = b → rdD P E next d s D pend (setS t (.bool b) σ) (setT t (.bool b) τ) H K (s.rd (evO (setS t (.bool b) σ) (setT t (.bool b) τ)) H)) ∧ (c = (!b) → vcD P E next pend (putS d undef (setS t (.bool (!b)) σ)) (putT d undef (setT t (.bool (!b)) τ)) H K)) := rfl
@[go_sem 2000] theorem gdRd_hit_true (t : Opd) (next : DT) (d : Dst) (s : SOp Opd) (D : List Nat) (pend : Pend) : gdRd P E t true next d s D pend σ τ H K (some (some true)) = rdD P E next d s D pend (setS t (.bool true) σ) (setT t (.bool true) τ) H K (s.rd (evO (setS t (.bool true) σ) (setT t (.bool true) τ)) H) := by simp [gdRd]
@[go_sem 2000] theorem gdRd_miss_true (t : Opd) (next : DT) (d : Dst) (s : SOp Opd) (D : List Nat) (pend : Pend) : gdRd P E t true next d s D pend σ τ H K (some (some false)) = vcD P E next pend (putS d undef (setS t (.bool false) σ)) (putT d undef (setT t (.bool false) τ)) H K := by simp [gdRd]
@[go_sem 2000] theorem gdEf_hit_true (t : Opd) (next : DT) (d : Dst) (s : SOp Opd) (pend : Pend) : gdEf P E t true next d s pend σ τ H K (some (some true)) = s.vc P E (evO (setS t (.bool true) σ) (setT t (.bool true) τ)) H (efK P E next d pend (setS t (.bool true) σ) (setT t (.bool true) τ) K) := by simp [gdEf]
@[go_sem 2000] theorem gdEf_miss_true (t : Opd) (next : DT) (d : Dst) (s : SOp Opd) (pend : Pend) : gdEf P E t true next d s pend σ τ H K (some (some false)) = vcD P E next pend (putS d undef (setS t (.bool false) σ)) (putT d undef (setT t (.bool false) τ)) H K := by simp [gdEf]
@[go_sem 2000] theorem gdRd_hit_false (t : Opd) (next : DT) (d : Dst) (s : SOp Opd) (D : List Nat) (pend : Pend) : gdRd P E t false next d s D pend σ τ H K (some (some false)) = rdD P E next d s D pend (setS t (.bool false) σ) (setT t (.bool false) τ) H K (s.rd (evO (setS t (.bool false) σ) (setT t (.bool false) τ)) H) := by simp [gdRd]
@[go_sem 2000] theorem gdRd_miss_false (t : Opd) (next : DT) (d : Dst) (s : SOp Opd) (D : List Nat) (pend : Pend) : gdRd P E t false next d s D pend σ τ H K (some (some true)) = vcD P E next pend (putS d undef (setS t (.bool true) σ)) (putT d undef (setT t (.bool true) τ)) H K := by simp [gdRd]
@[go_sem 2000] theorem gdEf_hit_false (t : Opd) (next : DT) (d : Dst) (s : SOp Opd) (pend : Pend) : gdEf P E t false next d s pend σ τ H K (some (some false)) = s.vc P E (evO (setS t (.bool false) σ) (setT t (.bool false) τ)) H (efK P E next d pend (setS t (.bool false) σ) (setT t (.bool false) τ) K) := by simp [gdEf]
@[go_sem 2000] theorem gdEf_miss_false (t : Opd) (next : DT) (d : Dst) (s : SOp Opd) (pend : Pend) : gdEf P E t false next d s pend σ τ H K (some (some true)) = vcD P E next pend (putS d undef (setS t (.bool true) σ)) (putT d undef (setT t (.bool true) τ)) H K := by simp [gdEf]
@[go_sem] theorem gdRd_undef (t : Opd) (b : Bool) (next : DT) (d : Dst) (s : SOp Opd) (D : List Nat) (pend : Pend) : gdRd P E t b next d s D pend σ τ H K (some none) = vcD P E next pend (putS d undef σ) (putT d undef τ) H K := rfl
@[go_sem] theorem gdEf_bool (t : Opd) (b : Bool) (next : DT) (d : Dst) (s : SOp Opd) (pend : Pend) (c : Bool) : gdEf P E t b next d s pend σ τ H K (some (some c)) =
    ((c = b → s.vc P E (evO (setS t (.bool b) σ) (setT t (.bool b) τ)) H (efK P E next d pend (setS t (.bool b) σ) (setT t (.bool b) τ) K)) ∧ (c = (!b) → vcD P E next pend (putS d undef (setS t (.bool (!b)) σ)) (putT d undef (setT t (.bool (!b)) τ)) H K)) := rfl
@[go_sem] theorem gdEf_undef (t : Opd) (b : Bool) (next : DT) (d : Dst) (s : SOp Opd) (pend : Pend) : gdEf P E t b next d s pend σ τ H K (some none) = vcD P E next pend (putS d undef σ) (putT d undef τ) H K := rfl
@[go_sem] theorem pendOk_nil : pendOk H [] = True := rfl
@[go_sem] theorem pendOk_cons (D : List Nat) (h : Held) (r : Pend) : pendOk H ((D, h) :: r) = (h.ok H ∧ pendOk H r) := rfl
@[go_sem] theorem pendDrop_nil (i : Nat) : pendDrop i [] = [] := rfl
@[go_sem] theorem pendDrop_cons (i : Nat) (D : List Nat) (h : Held) (r : Pend) : pendDrop i ((D, h) :: r) = if D.elem i then pendDrop i r else (D, h) :: pendDrop i r := rfl
@[go_sem] theorem held_ok_ld (sz : Option Nat) (a : Addr) (v : Value) : (Held.ld sz a v).ok H = (ldV H sz a = some v) := rfl
@[go_sem] theorem held_ok_b2s (x v : Value) : (Held.b2s x v).ok H = (b2sN H (some x) = some v) := rfl
attribute [go_sem] SOp.held

@[go_sem] theorem vc_skip : vc P E .skip σ H Q = Q .nrm σ H := rfl
@[go_sem] theorem vc_ops (l : List GOp) : vc P E (.ops l) σ H Q = vcOps P E l σ [] H (nrmK Q) := rfl
@[go_sem] theorem vc_dq (l : List GOp) : vc P E (.dq l) σ H Q = vcOps P E l σ [] H (nrmK Q) := rfl
@[go_sem] theorem vc_seq (a b : SCode) : vc P E (.seq a b) σ H Q = vc P E a σ H (seqK (vcK P E b Q) Q) := rfl
@[go_sem] theorem vc_cond (c : Opd) (a b : SCode) : vc P E (.cond c a b) σ H Q = condN (vc P E a σ H Q) (vc P E b σ H Q) (evO σ [] c) := rfl
@[go_sem] theorem vc_block (id : Nat) (c : SCode) : vc P E (.block id c) σ H Q = vc P E c σ H (blockK id Q) := rfl
@[go_sem] theorem vc_exit (i : Nat) : vc P E (.exit i) σ H Q = Q (.ext i) σ H := rfl
@[go_sem] theorem vc_ret : vc P E .ret σ H Q = Q .ret σ H := rfl
@[go_sem] theorem vcK_app (b : SCode) : vcK P E b Q σ H = vc P E b σ H Q := rfl
@[go_sem] theorem nrmK_app : nrmK Q σ H = Q .nrm σ H := rfl
@[go_sem] theorem seqK_nrm (F : Slots → Heap → Prop) : seqK F Q .nrm σ H = F σ H := rfl
@[go_sem] theorem seqK_ext (F : Slots → Heap → Prop) (i : Nat) : seqK F Q (.ext i) σ H = Q (.ext i) σ H := rfl
@[go_sem] theorem seqK_ret (F : Slots → Heap → Prop) : seqK F Q .ret σ H = Q .ret σ H := rfl
@[go_sem] theorem blockK_nrm (i : Nat) : blockK i Q .nrm σ H = Q .nrm σ H := rfl
@[go_sem] theorem blockK_same (i : Nat) : blockK i Q (.ext i) σ H = Q .nrm σ H := if_pos rfl
@[go_sem] theorem blockK_ext (i j : Nat) : blockK i Q (.ext j) σ H = if j = i then Q .nrm σ H else Q (.ext j) σ H := rfl
@[go_sem] theorem blockK_ret (i : Nat) : blockK i Q .ret σ H = Q .ret σ H := rfl
@[go_sem 2000] theorem condN_true (A B : Prop) : condN A B (some (.bool true)) = A := by simp [condN]
@[go_sem 2000] theorem condN_false (A B : Prop) : condN A B (some (.bool false)) = B := by simp [condN]
@[go_sem] theorem condN_bool (A B : Prop) (t : Bool) : condN A B (some (.bool t)) = ((t = true → A) ∧ (t = false → B)) := rfl

@[go_sem] theorem vcOps_nil : vcOps P E [] σ τ H K = K σ H := rfl
@[go_sem] theorem vcOps_op (d : Dst) (s : SOp Opd) (r : List GOp) : vcOps P E (.op none d s :: r) σ τ H K = s.vc P E (evO σ τ) H (retK P E d r σ τ K) := rfl
@[go_sem] theorem vcOps_gd (t : Opd) (b fr : Bool) (d : Dst) (s : SOp Opd) (r : List GOp) : vcOps P E (.op (some (t, b, fr)) d s :: r) σ τ H K = gdN P E t b fr d s r σ τ H K (guardOf (evO σ τ t)) := by
  simp only [vcOps, gdN]
  cases guardOf (evO σ τ t) with
  | none => rfl
  | some x => cases x <;> rfl
@[go_sem] theorem vcOps_sel (t : Opd) (b : Bool) (inner : List In) (d : Dst) (x y : Opd) (r : List GOp) :
    vcOps P E (.sel t b inner d x y :: r) σ τ H K = vN H (retK P E d r σ τ K) (selV σ τ t b x y (innerE H σ inner τ)) := rfl
@[go_sem] theorem retK_app (d : Dst) (r : List GOp) (v : Value) (H' : Heap) : retK P E d r σ τ K v H' = vcOps P E r (putS d v σ) (putT d v τ) H' K := rfl
@[go_sem] theorem putS_no (v : Value) : putS .no v σ = σ := rfl
@[go_sem] theorem putS_t (v : Value) : putS .t v σ = σ := rfl
@[go_sem] theorem putS_s (k : Nat) (v : Value) : putS (.s k) v σ = σ.set k (some v) := rfl
@[go_sem] theorem putT_no (v : Value) : putT .no v τ = τ := rfl
@[go_sem] theorem putT_t (v : Value) : putT .t v τ = v :: τ := rfl
@[go_sem] theorem putT_s (k : Nat) (v : Value) : putT (.s k) v τ = τ := rfl
@[go_sem] theorem setS_t (k : Nat) (v : Value) : setS (.t k) v σ = σ := rfl
@[go_sem] theorem setS_s (k : Nat) (v : Value) : setS (.s k) v σ = σ.set k (some v) := rfl
@[go_sem] theorem setT_t (k : Nat) (v : Value) : setT (.t k) v τ = τ.set k v := rfl
@[go_sem] theorem setT_s (k : Nat) (v : Value) : setT (.s k) v τ = τ := rfl
@[go_sem] theorem gS_true (x : Opd) (v : Value) : gS true x v σ = setS x v σ := rfl
@[go_sem] theorem gS_false (x : Opd) (v : Value) : gS false x v σ = σ := rfl
@[go_sem] theorem gT_true (x : Opd) (v : Value) : gT true x v τ = setT x v τ := rfl
@[go_sem] theorem gT_false (x : Opd) (v : Value) : gT false x v τ = τ := rfl
@[go_sem] theorem gdN_bool (t : Opd) (b fr : Bool) (d : Dst) (s : SOp Opd) (r : List GOp) (c : Bool) : gdN P E t b fr d s r σ τ H K (some (some c)) =
    ((c = b → s.vc P E (evO (gS fr t (.bool b) σ) (gT fr t (.bool b) τ)) H (retK P E d r (gS fr t (.bool b) σ) (gT fr t (.bool b) τ) K)) ∧ (c = (!b) → vcOps P E r (putS d undef (gS fr t (.bool (!b)) σ)) (putT d undef (gT fr t (.bool (!b)) τ)) H K)) := rfl
@[go_sem 2000] theorem gdN_hit_true (t : Opd) (fr : Bool) (d : Dst) (s : SOp Opd) (r : List GOp) : gdN P E t true fr d s r σ τ H K (some (some true)) = s.vc P E (evO (gS fr t (.bool true) σ) (gT fr t (.bool true) τ)) H (retK P E d r (gS fr t (.bool true) σ) (gT fr t (.bool true) τ) K) := by simp [gdN]
@[go_sem 2000] theorem gdN_miss_true (t : Opd) (fr : Bool) (d : Dst) (s : SOp Opd) (r : List GOp) : gdN P E t true fr d s r σ τ H K (some (some false)) = vcOps P E r (putS d undef (gS fr t (.bool false) σ)) (putT d undef (gT fr t (.bool false) τ)) H K := by simp [gdN]
@[go_sem 2000] theorem gdN_hit_false (t : Opd) (fr : Bool) (d : Dst) (s : SOp Opd) (r : List GOp) : gdN P E t false fr d s r σ τ H K (some (some false)) = s.vc P E (evO (gS fr t (.bool false) σ) (gT fr t (.bool false) τ)) H (retK P E d r (gS fr t (.bool false) σ) (gT fr t (.bool false) τ) K) := by simp [gdN]
@[go_sem 2000] theorem gdN_miss_false (t : Opd) (fr : Bool) (d : Dst) (s : SOp Opd) (r : List GOp) : gdN P E t false fr d s r σ τ H K (some (some true)) = vcOps P E r (putS d undef (gS fr t (.bool true) σ)) (putT d undef (gT fr t (.bool true) τ)) H K := by simp [gdN]
@[go_sem] theorem gdN_undef (t : Opd) (b fr : Bool) (d : Dst) (s : SOp Opd) (r : List GOp) : gdN P E t b fr d s r σ τ H K (some none) = vcOps P E r (putS d undef σ) (putT d undef τ) H K := rfl
@[go_sem] theorem guardOf_b (c : Bool) : guardOf (some (.bool c)) = some (some c) := rfl
attribute [go_sem] undef
@[go_sem] theorem guardOf_undef' : guardOf (some (.tuple #[])) = some none := rfl

section
variable {R : Value → Heap → Prop} {O : Type} {ev : O → Option Value}
@[go_sem] theorem svc_v (e : PE O) : SOp.vc P E ev H R (.v e) = vN H R (e.val ev) := rfl
@[go_sem] theorem svc_ld (sz : Option Nat) (x : O) : SOp.vc P E ev H R (.ld sz x) = rdN H R (ldN H sz (ev x)) := rfl
@[go_sem] theorem svc_st (n : Nat) (a x : O) : SOp.vc P E ev H R (.st n a x) = stN H n R (ev a) (ev x) := rfl
@[go_sem] theorem svc_al (t : Nat) (z : List Value) : SOp.vc P E ev H R (.al t z) = NewP H t z R := rfl
@[go_sem] theorem svc_bx (t : Nat) (x : O) : SOp.vc P E ev H R (.bx t x) = bxN H t R (ev x) := rfl
@[go_sem] theorem svc_bs (t n : Nat) (z : List Value) (ps : List (Nat × Nat × O)) : SOp.vc P E ev H R (.bs t n z ps) = bsN H t n z R (partsE ev ps) := rfl
@[go_sem] theorem svc_ap (t tx : Nat) (s x : O) : SOp.vc P E ev H R (.ap t tx s x) = apN P t tx H R (ev s) (ev x) := rfl
@[go_sem] theorem svc_mk (t s b : Nat) (z : Value) (l c : O) : SOp.vc P E ev H R (.mk t s b z l c) = mkN H t s b z R (ev l) (ev c) := rfl
@[go_sem] theorem svc_call (f : Nat) (args : List O) : SOp.vc P E ev H R (.call f args) = callN P E f H R (evs ev args) := rfl
@[go_sem] theorem svc_cv (f : O) (args : List O) : SOp.vc P E ev H R (.cv f args) = cvN P E H R (ev f) (evs ev args) := rfl
@[go_sem] theorem svc_b2s (x : O) : SOp.vc P E ev H R (.b2s x) = rdN H R (b2sN H (ev x)) := rfl
@[go_sem] theorem svc_s2b (t : Nat) (x : O) : SOp.vc P E ev H R (.s2b t x) = s2bN H t R (ev x) := rfl
@[go_sem] theorem vN_some (p : Prop) (v : Value) : vN H R (some (p, v)) = (p ∧ R v H) := rfl
@[go_sem] theorem rdN_some (v : Value) : rdN H R (some v) = R v H := rfl
@[go_sem] theorem stN_some (n : Nat) (a : Addr) (v : Value) : stN H n R (some (.pointer (some a))) (some v) = (v.cells.size = n ∧ Sto H a v.cells.toList 0 (R undef)) := rfl
@[go_sem] theorem bxN_some (t : Nat) (v : Value) : bxN H t R (some v) = NewP H t v.cells.toList R := rfl
def bs2N (H : Heap) (t n : Nat) (R : Value → Heap → Prop) : Option (List Value) → Prop
  | some cs => NewS H t n cs R
  | none => False
@[go_sem] theorem bs2N_some (t n : Nat) (cs : List Value) : bs2N H t n R (some cs) = NewS H t n cs R := rfl
@[go_sem] theorem bsN_some (t n : Nat) (z : List Value) (ps : List (Nat × Nat × Value)) : bsN H t n z R (some ps) = bs2N H t n R (fillV z ps) := by
  simp only [bsN, bs2N]; cases fillV z ps <;> rfl
@[go_sem] theorem apN_some (t tx : Nat) (s x : Value) : apN P t tx H R (some s) (some x) = App P t tx t H s x R := rfl
@[go_sem] theorem callN_some (f : Nat) (vs : List Value) : callN P E f H R (some vs) = PCalls P f vs.toArray H R E := rfl
@[go_sem] theorem cvN_some (f : Nat) (first cap : Array Value) (vs : List Value) : cvN P E H R (some (.func (.func f) first cap)) (some vs) = (first = #[] ∧ hasBody P f = true ∧ PCalls P f (vs.toArray ++ cap) H R E) := rfl
@[go_sem] theorem mkN_some (t s b : Nat) (z : Value) (l c : Int) : mkN H t s b z R (some (.int .i64 l)) (some (.int .i64 c)) = Mk H t s z l c b R := rfl
@[go_sem] theorem s2bN_some (t : Nat) (s : ByteArray) : s2bN H t R (some (.string s)) = S2b H t s R := rfl
@[go_sem] theorem ldN_some (sz : Option Nat) (a : Addr) : ldN H sz (some (.pointer (some a))) = ldV H sz a := rfl
@[go_sem] theorem ldN_tuple (sz : Option Nat) (vs : Array Value) : ldN H sz (some (.tuple vs)) = none := rfl
@[go_sem] theorem ldN_nilp (sz : Option Nat) : ldN H sz (some (.pointer none)) = none := rfl
@[go_sem] theorem ldV_one (a : Addr) : ldV H none a = cellAt H a := rfl
end

def aggN : Option (List Value) → Option Value
  | some vs => some (.agg vs.toArray)
  | none => none
@[go_sem] theorem aggN_some (vs : List Value) : aggN (some vs) = some (.agg vs.toArray) := rfl
@[go_sem] theorem ldV_agg (n : Nat) (a : Addr) : ldV H (some n) a = aggN (cellsFrom H a 0 n) := by
  simp only [ldV]; cases cellsFrom H a 0 n <;> rfl
def consN : Option Value → Option (List Value) → Option (List Value)
  | some v, some vs => some (v :: vs)
  | _, _ => none
@[go_sem] theorem consN_some (v : Value) (vs : List Value) : consN (some v) (some vs) = some (v :: vs) := rfl
@[go_sem] theorem cellsFrom_zero (a : Addr) (i : Nat) : cellsFrom H a i 0 = some [] := rfl
@[go_sem] theorem cellsFrom_succ (a : Addr) (i n : Nat) : cellsFrom H a i (n + 1) = consN (cellAt H (a.add i)) (cellsFrom H a (i + 1) n) := by
  simp only [cellsFrom, consN]; cases cellAt H (a.add i) <;> cases cellsFrom H a (i + 1) n <;> rfl

/-! ### operands -/
@[go_sem] theorem evO_t (k : Nat) : evO σ τ (.t k) = τ.toArray[k]? := rfl
@[go_sem] theorem evO_s (k : Nat) : evO σ τ (.s k) = jn (σ.toArray[k]?) := rfl
@[go_sem] theorem evO_c (v : Value) : evO σ τ (.c v) = some v := rfl
@[go_sem] theorem evO_g (g : Nat) : evO σ τ (.g g) = some (.pointer (some ⟨g, 0, none⟩)) := rfl
@[go_sem] theorem evO_f (f : Nat) : evO σ τ (.f f) = some (.func (.func f) #[] #[]) := rfl
@[go_sem] theorem jn_some (x : Option Value) : jn (some x) = x := rfl
@[go_sem] theorem evs_nil {O : Type} (ev : O → Option Value) : evs ev [] = some [] := rfl
@[go_sem] theorem evs_cons {O : Type} (ev : O → Option Value) (x : O) (r : List O) : evs ev (x :: r) = consN (ev x) (evs ev r) := by
  simp only [evs, consN]; cases ev x <;> cases evs ev r <;> rfl
def part3 (o s : Nat) : Option Value → Option (List (Nat × Nat × Value)) → Option (List (Nat × Nat × Value))
  | some v, some r => some ((o, s, v) :: r)
  | _, _ => none
@[go_sem] theorem part3_some (o s : Nat) (v : Value) (r : List (Nat × Nat × Value)) : part3 o s (some v) (some r) = some ((o, s, v) :: r) := rfl
@[go_sem] theorem parts_nil {O : Type} (ev : O → Option Value) : partsE ev [] = some [] := rfl
@[go_sem] theorem parts_cons {O : Type} (ev : O → Option Value) (o s : Nat) (x : O) (r : List (Nat × Nat × O)) : partsE ev ((o, s, x) :: r) = part3 o s (ev x) (partsE ev r) := by
  simp only [partsE, part3]; cases ev x <;> cases partsE ev r <;> rfl
def bndN : Option Value → Option (Option Int)
  | some (.int _ n) => some (some n)
  | _ => none
@[go_sem] theorem bndN_some (k : IntKind) (n : Int) : bndN (some (.int k n)) = some (some n) := rfl
@[go_sem] theorem bnd_none' {O : Type} (ev : O → Option Value) : bnd ev none = some none := rfl
@[go_sem] theorem bnd_some' {O : Type} (ev : O → Option Value) (x : O) : bnd ev (some x) = bndN (ev x) := by
  simp only [bnd, bndN]
  cases ev x with
  | none => rfl
  | some v => cases v <;> rfl

/-! ### slots -/
@[go_sem] theorem get_cons (i t : Nat) (v : Value) (r : Env) : Env.get ((i, v) :: r) t = if i = t then some v else Env.get r t := rfl
@[go_sem] theorem get_nil (t : Nat) : Env.get [] t = none := rfl
@[go_sem] theorem mkS_nil (E : Env) : mkS [] E = [] := rfl
@[go_sem] theorem mkS_cons (t : Nat) (r : List Nat) (E : Env) : mkS (t :: r) E = Env.get E t :: mkS r E := rfl
@[go_sem] theorem lookS_cons (k t : Nat) (ks : List Nat) (s : Option Value) (ss : Slots) : lookS (k :: ks) (s :: ss) t = if k = t then s else lookS ks ss t := rfl
@[go_sem] theorem knowsK_nil (keep : List Nat) : knowsK keep σ [] = True := rfl
@[go_sem] theorem knowsK_cons (keep : List Nat) (t : Nat) (v : Value) (r : Env) : knowsK keep σ ((t, v) :: r) = (lookS keep σ t = some v ∧ knowsK keep σ r) := rfl
@[go_sem] theorem argS_nil (vs : List Value) : argS [] vs = [] := rfl
@[go_sem] theorem argS_cons (t : Nat) (r : List Nat) (vs : List Value) : argS (t :: r) vs = argV vs.toArray[t]? :: argS r vs := rfl
@[go_sem] theorem argV_some (v : Value) : argV (some v) = some v := rfl
@[go_sem] theorem argV_none : argV none = some (.tuple #[]) := rfl

/-! ### pure operations -/
attribute [go_sem] PE.val mvN pickN binN beqN steqN negN stEq leafEq andB isnilN isnilsN unN cviN cvsN faN ixN sixN slN sslN lenN slenN fld1N fldAN extN mmN ncN mkfN bldN binV intV strV unV slV sslV fillV
  SOp.rd resV RV.val finN finQ
attribute [go_sem] List.elem_cons List.elem_nil

@[go_sem] theorem inPush_some' (p : Prop) (v : Value) : inPush (some (p, v)) τ = some (p, v :: τ) := rfl
@[go_sem] theorem inPush_none : inPush none τ = none := rfl
def andN (p : Prop) : Option (Prop × List Value) → Option (Prop × List Value)
  | some (q, e) => some (p ∧ q, e)
  | none => none
@[go_sem] theorem andN_some (p q : Prop) (e : List Value) : andN p (some (q, e)) = some (p ∧ q, e) := rfl
@[go_sem] theorem andN_none (p : Prop) : andN p none = none := rfl
@[go_sem] theorem inThen_none (f : List Value → Option (Prop × List Value)) : inThen f none = none := rfl
@[go_sem] theorem innerE_nil : innerE H σ [] τ = some (True, τ) := by simp [innerE]
def inNext (H : Heap) (σ : Slots) (r : List In) : Option (Prop × List Value) → Option (Prop × List Value)
  | some (p, τ') => andN p (innerE H σ r τ')
  | none => none
@[go_sem] theorem inNext_some (r : List In) (p : Prop) (τ' : List Value) : inNext H σ r (some (p, τ')) = andN p (innerE H σ r τ') := rfl
@[go_sem] theorem inNext_none (r : List In) : inNext H σ r none = none := rfl
@[go_sem] theorem innerE_cons (i : In) (r : List In) : innerE H σ (i :: r) τ = inNext H σ r (inE H σ i τ) := by
  simp only [innerE, inThen, inNext]
  cases inE H σ i τ with
  | none => rfl
  | some x =>
    obtain ⟨p, τ'⟩ := x
    simp only [andN]
    cases innerE H σ r τ' with
    | none => rfl
    | some y => rfl
@[go_sem] theorem inE_op (s : SOp Opd) : inE H σ (.op s) τ = inPush (s.rd (evO σ τ) H) τ := by simp only [inE]
@[go_sem] theorem inE_nst (t : Opd) (b : Bool) (inner : List In) (x y : Opd) : inE H σ (.nst t b inner x y) τ = inPush (selV σ τ t b x y (innerE H σ inner τ)) τ := by simp only [inE]
attribute [go_sem] selV selN

/-! ### propositions -/
attribute [go_sem] true_and and_true true_imp_iff false_imp_iff implies_true forall_const

end

theorem vc_loop {P : Program} {Ec : Chain → Heap → Prop} {α : Type} {keep : List Nat} {σ : Slots} {H : Heap} {Q : Post} {c : SCode} (I : α → Heap → Prop) (E : α → Env) (μ : α → Nat) (x₀ : α) (h₀ : I x₀ H) (hk : knowsK keep σ (E x₀))
    (round : ∀ x H, I x H → vc P Ec c (mkS keep (E x)) H (seqK (loopK keep I E μ x) Q)) : vc P Ec (.loop keep c) σ H Q :=
  ⟨α, I, E, μ, x₀, h₀, hk, round⟩

theorem loopK_intro {α : Type} {keep : List Nat} {I : α → Heap → Prop} {E : α → Env} {μ : α → Nat} {x : α} {σ : Slots} {H : Heap} (y : α) (h1 : μ y < μ x) (h2 : knowsK keep σ (E y)) (h3 : I y H) : loopK keep I E μ x σ H := ⟨y, h1, h2, h3⟩

end Gx
end
section
/- Memory: blocks, frames, rows of one's own. -/
namespace Gx
open Go

/-- The cell at an offset of a block. -/
def cellB (H : Heap) (b o : Nat) : Option Value :=
  match H[b]? with
  | some (.cells c _ _) => c[o]?
  | _ => none

@[go_sem] theorem cellAt_mk (H : Heap) (b o : Nat) : cellAt H ⟨b, o, none⟩ = cellB H b o := by
  simp only [cellAt, cellB]; cases H[b]? with
  | none => rfl
  | some x => cases x <;> rfl
@[go_sem] theorem add_mk (b o n : Nat) : Addr.add ⟨b, o, none⟩ n = ⟨b, o + n, none⟩ := Addr.add_lit b o n

/-- A block that is known whole and may be written. -/
def Blk (H : Heap) (b t : Nat) (l : List Value) : Prop := H[b]? = some (.cells l.toArray t (0, 0))

theorem Blk.cell {H : Heap} {b t : Nat} {l : List Value} (h : Blk H b t l) (o : Nat) : cellB H b o = l[o]? := by
  unfold Blk at h; simp [cellB, h]
theorem Blk.lt {H : Heap} {b t : Nat} {l : List Value} (h : Blk H b t l) : b < H.size := by
  rcases Nat.lt_or_ge b H.size with h' | h'
  · exact h'
  · unfold Blk at h; simp [Array.getElem?_eq_none h'] at h

/-- Of what was there all is as it was, but for the blocks in `M`. -/
structure Fr (M : List Nat) (H H' : Heap) : Prop where
  size : H.size ≤ H'.size
  same : ∀ b, b < H.size → b ∉ M → H'[b]? = H[b]?

theorem Fr.refl (M : List Nat) (H : Heap) : Fr M H H := ⟨Nat.le_refl _, fun _ _ _ => rfl⟩
theorem Fr.trans {M : List Nat} {a b c : Heap} (h : Fr M a b) (k : Fr M b c) : Fr M a c :=
  ⟨Nat.le_trans h.size k.size, fun i hi hm => (k.same i (Nat.lt_of_lt_of_le hi h.size) hm).trans (h.same i hi hm)⟩
theorem Fr.mono {M M' : List Nat} {H H' : Heap} (h : Fr M H H') (hm : ∀ b, b ∈ M → b ∈ M' ∨ H.size ≤ b) : Fr M' H H' :=
  ⟨h.size, fun b hb hn => h.same b hb fun hx => by rcases hm b hx with h1 | h1; exact hn h1; omega⟩
/-- What was written was new. -/
theorem Fr.trans' {M M' : List Nat} {a b c : Heap} (h : Fr M a b) (k : Fr M' b c) (hm : ∀ x, x ∈ M' → x ∈ M ∨ a.size ≤ x) : Fr M a c :=
  ⟨Nat.le_trans h.size k.size, fun i hi hn => (k.same i (Nat.lt_of_lt_of_le hi h.size) (fun hx => by rcases hm i hx with h1 | h1; exact hn h1; omega)).trans (h.same i hi hn)⟩

theorem Blk.fr {M : List Nat} {H H' : Heap} {b t : Nat} {l : List Value} (h : Blk H b t l) (hf : Fr M H H') (hb : b ∉ M) : Blk H' b t l := by
  have hlt := h.lt
  unfold Blk at *; rw [hf.same b hlt hb]; exact h
theorem Blk.ext {H H' : Heap} {b t : Nat} {l : List Value} (h : Blk H b t l) (hf : Fr [] H H') : Blk H' b t l := h.fr hf (by simp)

theorem cellB_lt {H : Heap} {b o : Nat} {v : Value} (h : cellB H b o = some v) : b < H.size := by
  rcases Nat.lt_or_ge b H.size with h' | h'
  · exact h'
  · simp [cellB, Array.getElem?_eq_none h'] at h
theorem cellB_fr {M : List Nat} {H H' : Heap} {b o : Nat} {v : Value} (h : cellB H b o = some v) (hf : Fr M H H') (hb : b ∉ M) : cellB H' b o = some v := by
  have := hf.same b (cellB_lt h) hb
  unfold cellB at *; rw [this]; exact h

/-! ### a new block -/
theorem fr_push (M : List Nat) (H : Heap) (o : Obj) : Fr M H (H.push o) :=
  ⟨by simp, fun b hb _ => by rw [Array.getElem?_push]; simp [show b ≠ H.size by omega]⟩

theorem NewP_intro {H : Heap} {t : Nat} {cs : List Value} {R : Value → Heap → Prop} (h : ∀ H', Blk H' H.size t cs → Fr [] H H' → H'.size = H.size + 1 → R (.pointer (some ⟨H.size, 0, none⟩)) H') : NewP H t cs R :=
  h _ (by simp [Blk]) (fr_push _ _ _) (by simp)
theorem NewS_intro {H : Heap} {t n : Nat} {cs : List Value} {R : Value → Heap → Prop} (h : ∀ H', Blk H' H.size t cs → Fr [] H H' → H'.size = H.size + 1 → R (.slice (some ⟨H.size, 0, none⟩) n n) H') : NewS H t n cs R :=
  h _ (by simp [Blk]) (fr_push _ _ _) (by simp)

/-! ### stores -/
theorem Blk.set {H : Heap} {b t : Nat} {l : List Value} (h : Blk H b t l) (o : Nat) (v : Value) : Blk (setCellH H ⟨b, o, none⟩ v) b t (l.set o v) := by
  have hlt := h.lt
  unfold Blk at *
  have h' : H[b] = .cells l.toArray t (0, 0) := by simpa [Array.getElem?_eq_getElem hlt] using h
  simp only [setCellH]
  rw [Array.getElem?_eq_getElem (by simpa using hlt), Array.getElem_modify_self, h']
  simp

theorem fr_set (H : Heap) (b o : Nat) (v : Value) : Fr [b] H (setCellH H ⟨b, o, none⟩ v) :=
  ⟨by simp [setCellH], fun k _ hk => by simp only [setCellH, Array.getElem?_modify]; rw [if_neg (by simp at hk; omega)]⟩
theorem size_set (H : Heap) (a : Addr) (v : Value) : (setCellH H a v).size = H.size := by simp [setCellH]

/-- What a list is behind stores from an offset on. -/
def setL (l : List Value) (o : Nat) : List Value → List Value
  | [] => l
  | v :: vs => setL (l.set o v) (o + 1) vs

theorem length_setL (l : List Value) : ∀ (vs : List Value) (o : Nat), (setL l o vs).length = l.length := by
  intro vs; induction vs generalizing l with
  | nil => intro o; rfl
  | cons v vs ih => intro o; simp [setL, ih]

theorem setL_eq : ∀ (vs : List Value) (l : List Value) (o : Nat), o + vs.length ≤ l.length → setL l o vs = l.take o ++ vs ++ l.drop (o + vs.length)
  | [], l, o, _ => by simp [setL]
  | v :: vs, l, o, h => by
    simp only [List.length_cons] at h
    rw [setL, setL_eq vs (l.set o v) (o + 1) (by simp; omega)]
    have e2 : (l.set o v).take (o + 1) = l.take o ++ [v] := by
      rw [List.take_add_one, List.take_set_of_le (Nat.le_refl _)]; simp [show o < l.length by omega]
    have e3 : (l.set o v).drop (o + 1 + vs.length) = l.drop (o + (vs.length + 1)) := by
      rw [List.drop_set_of_lt (by omega)]; congr 1; omega
    rw [e2, e3]; simp

theorem Sto_blk {R : Heap → Prop} {b t : Nat} : ∀ (vs : List Value) (H : Heap) (l : List Value) (o i : Nat), Blk H b t l → o + i + vs.length ≤ l.length → (∀ v ∈ vs, v.oneCell' = true) →
    (∀ H', Blk H' b t (setL l (o + i) vs) → Fr [b] H H' → H'.size = H.size → R H') → Sto H ⟨b, o, none⟩ vs i R
  | [], H, l, o, i, h, _, _, hR => hR H h (Fr.refl _ _) rfl
  | v :: vs, H, l, o, i, h, hl, h1, hR => by
    simp only [List.length_cons] at hl
    have hlt : o + i < l.length := by omega
    refine ⟨h1 v (by simp), ⟨l[o + i], ?_⟩, ?_, ?_⟩
    · rw [add_mk, cellAt_mk, h.cell]; simp [hlt]
    · rw [add_mk]; unfold Blk at h; simp [frozenAt, h]
    · rw [add_mk]
      refine Sto_blk vs _ (l.set (o + i) v) o (i + 1) (h.set (o + i) v) (by simp; omega) (fun v hv => h1 v (by simp [hv])) fun H' hb hf hs => ?_
      exact hR H' hb ((fr_set H b (o + i) v).trans hf) (hs.trans (size_set _ _ _))

/-- One cell of a block that is known. -/
theorem Sto_one {R : Heap → Prop} {b t o : Nat} {H : Heap} {l : List Value} {v : Value} (h : Blk H b t l) (ho : o < l.length) (h1 : v.oneCell' = true)
    (hR : ∀ H', Blk H' b t (l.set o v) → Fr [b] H H' → H'.size = H.size → R H') : Sto H ⟨b, o, none⟩ [v] 0 R :=
  Sto_blk [v] H l o 0 h (by simp; omega) (by simpa using h1) fun H' hb hf hs => hR H' (by simpa [setL] using hb) hf hs

/-! ### rows of one's own -/
/-- The slice value `v` of `n` elements (type `e`, `size` cells each) owns the cells `xs`; `g`: its block. -/
def Own (H : Heap) (e size : Nat) (v : Value) (n : Nat) (xs : List Value) (g : Option Nat) : Prop :=
  xs.length = n * size ∧
  ((g = none ∧ v = .slice none 0 0 ∧ n = 0) ∨
   ∃ b cap cur, g = some b ∧ v = .slice (some ⟨b, 0, none⟩) n cap ∧ H[b]? = some (.cells cur e (0, 0)) ∧ n ≤ cap ∧ cap ≤ maxLen ∧ cur.size = cap * size ∧ cur.toList.take (n * size) = xs)

theorem Own.nil (H : Heap) (e size : Nat) : Own H e size (.slice none 0 0) 0 [] none := ⟨by simp, .inl ⟨rfl, rfl, rfl⟩⟩

theorem Own.lt {H : Heap} {e size : Nat} {v : Value} {n : Nat} {xs : List Value} {g : Option Nat} (h : Own H e size v n xs g) {b : Nat} (hb : g = some b) : b < H.size := by
  rcases h.2 with ⟨h1, _⟩ | ⟨b', cap, cur, h1, _, h2, _⟩
  · rw [h1] at hb; cases hb
  · rw [h1] at hb; cases hb
    rcases Nat.lt_or_ge b H.size with h' | h'
    · exact h'
    · simp [Array.getElem?_eq_none h'] at h2

theorem Own.fr {M : List Nat} {H H' : Heap} {e size : Nat} {v : Value} {n : Nat} {xs : List Value} {g : Option Nat} (h : Own H e size v n xs g) (hf : Fr M H H') (hg : ∀ b, g = some b → b ∉ M) : Own H' e size v n xs g := by
  refine ⟨h.1, ?_⟩
  rcases h.2 with h1 | ⟨b, cap, cur, h1, h2, h3, r⟩
  · exact .inl h1
  · refine .inr ⟨b, cap, cur, h1, h2, ?_, r⟩
    rw [hf.same b (h.lt h1) (hg b h1)]; exact h3

/-- What is at an offset. -/
theorem Own.cell {H : Heap} {e size : Nat} {v : Value} {n : Nat} {xs : List Value} {b : Nat} (h : Own H e size v n xs (some b)) (j : Nat) (hj : j < n * size) : cellB H b j = xs[j]? := by
  rcases h.2 with ⟨h1, _⟩ | ⟨b', cap, cur, h1, h2, h3, h4, h5, h6, h7⟩
  · cases h1
  · cases h1
    rw [← h7]
    have : j < cur.size := by rw [h6]; exact Nat.lt_of_lt_of_le hj (Nat.mul_le_mul_right _ h4)
    simp [cellB, h3, hj]

theorem Own.ownsRow {w : World} {e size : Nat} {v : Value} {n : Nat} {xs : List Value} {g : Option Nat} (h : Own w.heap e size v n xs g) : w.ownsRow 0 e size v n xs ∧ v.ownBlock = g := by
  rcases h.2 with ⟨rfl, rfl, rfl⟩ | ⟨b, cap, cur, rfl, rfl, h3, r⟩
  · exact ⟨⟨h.1, .inl ⟨rfl, rfl⟩⟩, rfl⟩
  · exact ⟨⟨h.1, .inr ⟨b, cap, cur, rfl, Nat.zero_le _, h3, r⟩⟩, rfl⟩
theorem Own.of_ownsRow {w : World} {base e size : Nat} {v : Value} {n : Nat} {xs : List Value} (h : w.ownsRow base e size v n xs) : Own w.heap e size v n xs v.ownBlock := by
  refine ⟨h.1, ?_⟩
  rcases h.2 with ⟨rfl, rfl⟩ | ⟨b, cap, cur, rfl, _, r⟩
  · exact .inl ⟨rfl, rfl, rfl⟩
  · exact .inr ⟨b, cap, cur, rfl, rfl, r⟩

/-- A row that a literal has made. -/
theorem Own.of_blk {H : Heap} {b e size n : Nat} {l : List Value} (h : Blk H b e l) (hl : l.length = n * size) (hn : n ≤ maxLen) : Own H e size (.slice (some ⟨b, 0, none⟩) n n) n l (some b) :=
  ⟨hl, .inr ⟨b, n, l.toArray, rfl, rfl, h, Nat.le_refl _, hn, by simp [hl], by simp [← hl]⟩⟩

/-- The type's row in the table. -/
structure ElemOk (P : Program) (t e size bytes : Nat) (z : Value) : Prop where
  und : P.underlying t = some (.slice e)
  info : (P.info? e).map (fun i => (i.zero, i.size, i.bytes)) = some (some z, size, bytes)
  zs : z.cells.size = size
  pos : 0 < size

/-- What the second argument of an append yields, from every world with this heap. -/
def SrcH (P : Program) (H : Heap) (size tx : Nat) (x : Value) (m : Nat) (news : List Value) : Prop := ∀ w : World, w.heap = H → Src P size tx x m news w

theorem SrcH.cells {P : Program} {H : Heap} {size tx e : Nat} (hk : P.underlying tx = some (.slice e)) {ad : Addr} {m c : Nat} {news : List Value} (hl : news.length = m * size) (hn : ∀ j u, news[j]? = some u → cellAt H (ad.add j) = some u) (h1 : ∀ u ∈ news, u.oneCell' = true) :
    SrcH P H size tx (.slice (some ad) m c) m news := fun w hw => Src.ofSlice w hk ad m c news hl (fun j u hj => by subst hw; exact hn j u hj) h1
theorem SrcH.nil {P : Program} {H : Heap} {size tx e : Nat} (hk : P.underlying tx = some (.slice e)) (c : Nat) : SrcH P H size tx (.slice none 0 c) 0 [] := fun w _ => Src.ofNil w hk c
theorem SrcH.str {P : Program} {H : Heap} {tx : Nat} (hk : P.underlying tx = some .string) (l : List UInt8) : SrcH P H 1 tx (.string ⟨⟨l⟩⟩) l.length (l.map fun b => Value.int .u8 b.toNat) := fun w _ => by
  have := Src.ofString w hk ⟨⟨l⟩⟩
  exact this
/-- A slice without elements, whatever its address. -/
theorem SrcH.empty {P : Program} {H : Heap} {size tx e : Nat} (hk : P.underlying tx = some (.slice e)) (ad : Option Addr) (c : Nat) : SrcH P H size tx (.slice ad 0 c) 0 [] := by
  cases ad with
  | none => exact SrcH.nil hk c
  | some ad => exact SrcH.cells hk (by simp) (by simp) (by simp)

theorem SrcH.blk {P : Program} {H : Heap} {size tx e : Nat} (hk : P.underlying tx = some (.slice e)) {b t m c : Nat} {l : List Value} (h : Blk H b t l) (hl : l.length = m * size) (h1 : ∀ u ∈ l, u.oneCell' = true) :
    SrcH P H size tx (.slice (some ⟨b, 0, none⟩) m c) m l :=
  SrcH.cells hk hl (fun j u hj => by rw [add_mk, cellAt_mk, Nat.zero_add, h.cell]; exact hj) h1

theorem Own.ne {H : Heap} {e size : Nat} {v : Value} {n : Nat} {xs : List Value} {g : Option Nat} {b t : Nat} {l : List Value} (h : Own H e size v n xs g) (hb : Blk H b t l) (ht : e ≠ t) : b ∉ g.toList := by
  intro hm
  have hg : g = some b := by simpa using hm
  rcases h.2 with ⟨h1, _⟩ | ⟨b', cap, cur, h1, _, h3, _⟩
  · rw [h1] at hg; cases hg
  · rw [h1] at hg; cases hg
    unfold Blk at hb
    rw [h3] at hb
    simp at hb
    exact ht hb.2

theorem setCells_blk {b e : Nat} : ∀ (vs : List Value) (o : Nat) (w : World) (l : List Value), Blk w.heap b e l → Blk (w.setCells b o vs).heap b e (setL l o vs) ∧ Fr [b] w.heap (w.setCells b o vs).heap ∧ Same w (w.setCells b o vs)
  | [], o, w, l, h => ⟨h, Fr.refl _ _, Same.refl _⟩
  | v :: vs, o, w, l, h => by
    obtain ⟨h1, h2, h3⟩ := setCells_blk vs (o + 1) (w.setCell ⟨b, o, none⟩ v) (l.set o v) (h.set o v)
    exact ⟨h1, (fr_set _ _ _ _).trans h2, ⟨h3.os, h3.tape, h3.output⟩⟩

/-- append to a row of one's own. -/
theorem App_own {P : Program} {t tx e size bytes : Nat} {z : Value} (hE : ElemOk P t e size bytes z) {H : Heap} {v x : Value} {n : Nat} {xs : List Value} {g : Option Nat} (hown : Own H e size v n xs g)
    {m : Nat} {news : List Value} (hsrc : SrcH P H size tx x m news) (h63 : n + m ≤ maxLen) (hb : (n + m) * bytes ≤ 140737488355328) {R : Value → Heap → Prop}
    (hR : ∀ a c H' g', Own H' e size (.slice a (n + m) c) (n + m) (xs ++ news) g' → Fr g.toList H H' → (∀ b, g' = some b → g = some b ∨ H.size ≤ b) → R (.slice a (n + m) c) H') : App P t tx t H v x R := by
  intro w hw
  have hs := hsrc w hw
  subst hw
  have hinfo := hE.info
  simp only [Option.map_eq_some_iff, Prod.mk.injEq] at hinfo
  obtain ⟨i, hi, hz, hsz, hbt⟩ := hinfo
  subst hsz; subst hbt
  have hlen : (xs ++ news).length = (n + m) * i.size := by rw [List.length_append, hown.1, hs.newsLen, Nat.add_mul]
  have h63' : ((n + m : Nat) : Int) ≤ 9223372036854775807 := by simp only [maxLen] at h63; omega
  have grow : ∀ (base : Option Addr) (cap : Nat), cap < n + m → v = .slice base n cap → (Builtin.firstCells i.size n (.slice base n cap)).run P w.drew = .ok xs.toArray w.drew →
      ∃ v' w', (Builtin.append_ #[t, tx] t #[v, x]).run P w = .ok v' w' ∧ R v' w'.heap ∧ Same w w' := by
    intro base cap hc hv hold
    subst hv
    have hr := run_append_grow_src (P := P) w t tx t e i z hE.und hi hz base n cap xs hold x m news hs hc h63' (growslice_fits hc hb)
    refine ⟨_, _, hr, hR _ _ _ (some w.heap.size) ⟨hlen, .inr ⟨w.heap.size, _, _, rfl, rfl, heap_alloc_new w.drew _, grownCap_ge _ _ _ _, grownCap_le_maxLen _ _ _ _ h63, ?_, ?_⟩⟩ ?_ ?_, ⟨rfl, rfl, rfl⟩⟩
    · have hge := grownCap_ge w (n + m) cap e
      rw [Array.size_append, size_zeroCells, hE.zs]
      simp only [List.size_toArray, hlen, ← Nat.add_mul]
      congr 1; omega
    · simp only [Array.toList_append]
      rw [← hlen]; exact List.take_left
    · exact fr_push _ _ _
    · intro b hb; simp at hb; exact .inr (by omega)
  rcases hown.2 with ⟨rfl, rfl, rfl⟩ | ⟨b, cap, cur, rfl, rfl, hg, hnc, hcm, hcs, htake⟩
  · have hx : xs = [] := List.eq_nil_of_length_eq_zero (by simpa using hown.1)
    subst hx
    by_cases hm : m = 0
    · subst hm
      have hn : news = [] := List.eq_nil_of_length_eq_zero (by simpa using hs.newsLen)
      subst hn
      refine ⟨.slice none 0 0, w, ?_, hR none 0 _ none (Own.nil _ _ _) (Fr.refl _ _) (by simp), Same.refl _⟩
      rcases hs.kind with ⟨e', hk⟩ | hk <;> simp [Builtin.append_, run_underlying hE.und, run_underlying hk, Go.sizeOf, typeInfo, hi, hs.len, hs.cells]
    · exact grow none 0 (by omega) rfl (run_firstCells_none _ _ _ _ _)
  · by_cases hroom : n + m ≤ cap
    · have hfit : n * i.size + news.length ≤ cur.size := by rw [hs.newsLen, hcs, ← Nat.add_mul]; exact Nat.mul_le_mul_right _ hroom
      have hblk : Blk w.heap b e cur.toList := by simpa [Blk] using hg
      have hr := run_append_room_src (P := P) w t tx t e i hE.und hi b 0 n cap x m news hs hroom
        (fun j hj => by
          have : w.cell? ⟨b, 0 + n * i.size + j, none⟩ = cellB w.heap b (0 + n * i.size + j) := (cell?_eq w _).trans (cellAt_mk _ _ _)
          rw [this, hblk.cell]; simp; omega)
        (fun j hj => by
          show frozenAt w.heap _ = false
          simp [frozenAt, hg])
      rw [Nat.zero_add] at hr
      obtain ⟨h1, h2, h3⟩ := setCells_blk news (n * i.size) w cur.toList hblk
      rw [setL_eq _ _ _ (by simpa using hfit)] at h1
      refine ⟨_, _, hr, hR _ _ _ (some b) ⟨hlen, .inr ⟨b, cap, _, rfl, rfl, h1, hroom, hcm, ?_, ?_⟩⟩ h2 (fun b' hb => by simp at hb; exact .inl (by rw [hb])), h3⟩
      · simp; omega
      · rw [htake, ← hlen]; exact List.take_left
    · refine grow (some ⟨b, 0, none⟩) cap (by omega) rfl ?_
      refine run_firstCells_some w.drew i.size n ⟨b, 0, none⟩ n cap xs hown.1 fun j u hj => ?_
      have hlt : j < n * i.size := by
        rw [← hown.1]
        rcases Nat.lt_or_ge j xs.length with h | h
        · exact h
        · rw [List.getElem?_eq_none h] at hj; cases hj
      show cellAt w.heap _ = _
      rw [add_mk, cellAt_mk, Nat.zero_add, hown.cell j hlt, hj]

end Gx
end
section
/- Bytes. -/
namespace Gx
open Go

def bv (b : UInt8) : Value := .int .u8 b.toNat
@[simp] theorem bv_one (b : UInt8) : (bv b).oneCell' = true := rfl

theorem wrap_u8_id (x : Int) (h : 0 ≤ x) (h' : x < 256) : IntKind.u8.wrap x = x := by
  rw [IntKind.wrap_u8]; omega
theorem wrap_u64_id (x : Int) (h : 0 ≤ x) (h' : x < 18446744073709551616) : IntKind.u64.wrap x = x := by
  rw [IntKind.wrap_u64]; omega
theorem wrap_i64_id (x : Int) (h : -9223372036854775808 ≤ x) (h' : x < 9223372036854775808) : IntKind.i64.wrap x = x := by
  rw [IntKind.wrap_i64]; omega
theorem u8_of (n : Nat) (h : n < 256) : ((UInt8.ofNat n).toNat : Int) = n := by
  have : (UInt8.ofNat n).toNat = n % 256 := UInt8.toNat_ofNat'
  omega

/-- What can be read behind a slice's address. -/
def BsR (H : Heap) (a : Option Addr) (l : List UInt8) : Prop :=
  l = [] ∨ ∃ b o, a = some ⟨b, o, none⟩ ∧ ∀ j (h : j < l.length), cellB H b (o + j) = some (bv l[j])

theorem BsR.nil (H : Heap) (a : Option Addr) : BsR H a [] := .inl rfl
theorem BsR.ext {H H' : Heap} {a : Option Addr} {l : List UInt8} (h : BsR H a l) (hf : Fr [] H H') : BsR H' a l := by
  rcases h with h | ⟨b, o, h1, h2⟩
  · exact .inl h
  · exact .inr ⟨b, o, h1, fun j hj => cellB_fr (h2 j hj) hf (by simp)⟩
/-- Behind writes to blocks that it does not lie in. -/
theorem BsR.fr {M : List Nat} {H H' : Heap} {a : Option Addr} {l : List UInt8} (h : BsR H a l) (hf : Fr M H H') (hm : ∀ b o, a = some ⟨b, o, none⟩ → b ∉ M) : BsR H' a l := by
  rcases h with h | ⟨b, o, h1, h2⟩
  · exact .inl h
  · exact .inr ⟨b, o, h1, fun j hj => cellB_fr (h2 j hj) hf (hm b o h1)⟩
theorem BsR.take {H : Heap} {a : Option Addr} {l : List UInt8} (h : BsR H a l) (n : Nat) : BsR H a (l.take n) := by
  rcases h with h | ⟨b, o, h1, h2⟩
  · subst h; simp [BsR]
  · refine .inr ⟨b, o, h1, fun j hj => ?_⟩
    simp only [List.length_take] at hj
    rw [h2 j (by omega)]; simp
theorem BsR.drop {H : Heap} {a : Option Addr} {l : List UInt8} (h : BsR H a l) (n : Nat) : BsR H (a.map (·.add n)) (l.drop n) := by
  rcases h with h | ⟨b, o, h1, h2⟩
  · subst h; simp [BsR]
  · refine .inr ⟨b, o + n, by simp [h1, add_mk], fun j hj => ?_⟩
    simp only [List.length_drop] at hj
    rw [show o + n + j = o + (n + j) by omega, h2 (n + j) (by omega)]; simp

theorem BsR.src {P : Program} {H : Heap} {a : Option Addr} {l : List UInt8} {tx e c : Nat} (hk : P.underlying tx = some (.slice e)) (h : BsR H a l) : SrcH P H 1 tx (.slice a l.length c) l.length (l.map bv) := by
  rcases h with h | ⟨b, o, h1, h2⟩
  · subst h; exact SrcH.empty hk a c
  · subst h1
    refine SrcH.cells hk (by simp) (fun j u hj => ?_) (by simp)
    have hlt : j < l.length := by
      rcases Nat.lt_or_ge j l.length with h | h
      · exact h
      · rw [List.getElem?_eq_none (by simpa using h)] at hj; cases hj
    rw [add_mk, cellAt_mk, h2 j hlt]
    simp [hlt] at hj; rw [hj]

theorem Own.bsR {H : Heap} {a : Option Addr} {c : Nat} {l : List UInt8} {e : Nat} {g : Option Nat} (h : Own H e 1 (.slice a l.length c) l.length (l.map bv) g) : BsR H a l := by
  rcases h.2 with ⟨h1, h2, h3⟩ | ⟨b, cap, cur, h1, h2, h3, h4, h5, h6, h7⟩
  · exact .inl (List.eq_nil_of_length_eq_zero h3)
  · refine .inr ⟨b, 0, by simp at h2; exact h2.1, fun j hj => ?_⟩
    subst h1
    rw [Nat.zero_add, h.cell j (by simpa using hj)]
    simp [hj]

/-- The string of the bytes behind a slice. -/
theorem BsR.b2s {H : Heap} {a : Option Addr} {l : List UInt8} (c : Nat) (h : BsR H a l) : b2sN H (some (.slice a l.length c)) = some (.string ⟨⟨l⟩⟩) := by
  have key : ∀ (k : List UInt8) (b o i : Nat), (∀ j (h : j < k.length), cellB H b (o + i + j) = some (bv k[j])) → bytesFrom H ⟨b, o, none⟩ i k.length = some k := by
    intro k
    induction k with
    | nil => intro b o i _; rfl
    | cons x k ih =>
      intro b o i hc
      simp only [List.length_cons, bytesFrom, add_mk, cellAt_mk]
      have h0 := hc 0 (by simp)
      simp only [Nat.add_zero, List.getElem_cons_zero] at h0
      rw [h0, ih b o (i + 1) (fun j hj => by have := hc (j + 1) (by simpa using hj); simpa [Nat.add_assoc, Nat.add_comm 1 j] using this)]
      simp [bv]
  rcases h with h | ⟨b, o, h1, h2⟩
  · subst h; cases a <;> rfl
  · subst h1
    simp only [b2sN]
    rw [key l b o 0 (by simpa using h2)]

theorem Own.cap_le {H : Heap} {e z n c : Nat} {a : Option Addr} {xs : List Value} {g : Option Nat} (h : Own H e z (.slice a n c) n xs g) : n ≤ c := by
  rcases h.2 with ⟨_, h2, _⟩ | ⟨b, cap, cur, h1, h2, h3, h4, _⟩
  · simp at h2; omega
  · simp at h2; omega
theorem BsR.sub {H : Heap} {a : Option Addr} {l : List UInt8} (h : BsR H a l) (c : Nat) {lo hi : Nat} (hc : lo ≤ hi ∧ hi ≤ c) : BsR H (if c = lo then a else Option.map (fun x => x.add lo) a) ((l.drop lo).take (hi - lo)) := by
  by_cases e : c = lo
  · rw [show hi - lo = 0 by omega]; exact .inl rfl
  · rw [if_neg e]; exact (h.drop lo).take _

end Gx
end
section
/- From a call on heaps to a row; and what a reading says of the cells. -/
namespace Gx
open Go Go.ChangeShapes Go.WideShapes Go.RowKit

theorem below_of {w w' : World} (hs : Same w w') (hf : Fr [] w.heap w'.heap) : Below w.heap.size w w' :=
  ⟨hs.os, hs.tape, hs.output, hf.size, fun k hk => hf.same k hk (by simp)⟩

section
variable {H : Type} {enc : TypeId × Value → H} {P : Program}

theorem trodAll_stays (hl : laidOutB P = true) {W W' : World} (hb : Below W.heap.size W W') {sp : Nat → Bool} : ∀ {ts : List TypeId} {vs : List Value} {ds : List (DataW H)} {ps : List MemPlace},
    ts.all (fun t => P.readableRec t && decide (t < P.types.size)) = true → DataW.TrodAll enc P W 0 (fun _ => true) true ts vs ds ps → (∀ x ∈ ps, x.block < W.heap.size) → (∀ x ∈ ps, sp x.block = true) →
    DataW.TrodAll enc P W' 0 sp true ts vs ds ps
  | [], [], [], _, _, h, _, _ => h
  | t :: ts, v :: vs, d :: ds, ps, ht, ⟨p, q, h, hs, e⟩, hlt, hsp => by
    simp only [List.all_cons, Bool.and_eq_true, decide_eq_true_eq] at ht
    subst e
    exact ⟨p, q, WideElems.Trod_stays hl ht.1.1 ht.1.2 h (fun x hx => hb.same (hlt x (by simp [hx]))) (fun x hx => hsp x (by simp [hx])),
      trodAll_stays hl hb ht.2 hs (fun x hx => hlt x (by simp [hx])) (fun x hx => hsp x (by simp [hx])), rfl⟩

theorem trodAll_len {w : World} {base : Nat} {spare : Nat → Bool} {held : Bool} : ∀ {ts : List TypeId} {vs : List Value} {ds : List (DataW H)} {ps : List MemPlace}, DataW.TrodAll enc P w base spare held ts vs ds ps → ds.length = ts.length
  | [], [], [], _, _ => rfl
  | _ :: _, _ :: _, _ :: _, _, ⟨_, _, _, hs, _⟩ => congrArg (· + 1) (trodAll_len hs)

/-- A law's 'post': it said true, and nothing old has turned. -/
theorem law_post {f : Func} {s : ChangeSpec} {tb : TypeId} {W W' : World} {args : Array Value} {ds gs : List (DataW H)} {before : List MemPlace}
    (hl : laidOutB P = true) (hpar : f.params.toList.all (fun t => P.readableRec t && decide (t < P.types.size)) = true) (hres : f.resultTypes = #[tb]) (htb : P.underlying tb = some .bool) (hv : s.vars = [])
    (hfn : s.fn H (ds ++ gs) = { results := [.lit (.bool true)], args := ds })
    (hW : DataW.Whole enc P f.params.toList s.vars false W args.toList ds gs before) (hb : Below W.heap.size W W') :
    s.post enc P f false true false false W args (.bool true) W' := by
  have hW' := hW
  obtain ⟨p, q, hA, hV, rfl, hz, hn⟩ := hW
  rw [hv] at hV
  obtain ⟨rfl, rfl⟩ := trodVars_none hV
  rw [List.append_nil] at hW'
  refine ⟨ds, [], p, [], p, [], hW', ?_, ?_, ?_, hb.frame _, fun h => by cases h⟩
  · rw [hfn, hres]
    exact trodAll_cons_mk (shut_bool htb _) trodAll_mk0
  · rw [hfn]
    exact trodAll_stays hl hb hpar hA (fun x hx => hW'.lt x hx) (fun x hx => by simpa using hW'.lt x hx)
  · rw [hfn, hv]; rfl

/-- The row's step, of a law: what is left is the call on heaps. -/
theorem law_row {C : Checked} {os : Os} {f : FuncId} {fn : Func} {s : ChangeSpec} {tb : TypeId} (own : ownKnob C.prog.godebug = none) (started : os.Started) (noInit : C.prog.inits.idxOf? f = none) (hf : C.prog.funcs[f]? = some fn)
    (hl : laidOutB C.prog = true) (hpar : fn.params.toList.all (fun t => C.prog.readableRec t && decide (t < C.prog.types.size)) = true) (hres : fn.resultTypes = #[tb]) (htb : C.prog.underlying tb = some .bool) (hv : s.vars = [])
    (hfn : ∀ (K : Type) (ds : List (DataW K)), ds.length = fn.params.size → s.fn K ds = { results := [.lit (.bool true)], args := ds })
    (witness : ∃ (w : World) (tape : Tape) (i : Input), w.os = os ∧ (w.forCall tape i).Shaped C.prog ∧ i.vars = [] ∧ Input.okWide C.prog (w.forCall tape i) .any w.heap.size f i ∧
      s.pre6 enc C.prog fn [] false (w.forCall tape i).memory i.args ∧ Assume.holds {} C.prog (lone (Frame.enter C.prog f i.args .normal) [] (w.forCall tape i)))
    (contract : ∀ (W : World) (base : Nat) (args : Array Value) (ds : List (DataW H)) (ps : List MemPlace),
      (∀ (j : Nat) t v, fn.params[j]? = some t → args[j]? = some v → Value.okWide C.prog W .any base t v) →
      DataW.TrodAll enc C.prog W 0 (fun _ => true) true fn.params.toList args.toList ds ps → HCalls C.prog f args W.heap fun v H' => v = .bool true ∧ Fr [] W.heap H') :
    ReturnsInHanded {} C os f .any (s.pre6 enc C.prog fn [] false) (s.post enc C.prog fn false true false false) := by
  refine returnsInHanded_of_change own started noInit hf witness ?_
  intro W base args ds gs before hval hW _ _
  have hW' := hW
  obtain ⟨p, q, hA, hV, rfl, hz, hn⟩ := hW
  have hV' := hV
  rw [hv] at hV'
  obtain ⟨rfl, rfl⟩ := trodVars_none hV'
  refine ((contract W base args ds p hval hA).out W rfl).mono fun e W' ⟨v, he, ⟨hvt, hfr⟩, hs⟩ => ?_
  subst hvt
  refine ⟨_, he, law_post hl hpar hres htb hv ?_ hW' (below_of hs hfr)⟩
  rw [List.append_nil]
  exact hfn H ds (by have := trodAll_len hA; simpa using this)

/-! ### what a reading says -/
variable {W : World} {base : Nat} {sp : Nat → Bool} {held : Bool}

/-- A type whose readings say R of the cells. -/
def Opens (P : Program) (t : TypeId) {α : Type} (R : α → List Value → Heap → Prop) : Prop :=
  ∀ {H : Type} {enc : TypeId × Value → H} {W : World} {base : Nat} {sp : Nat → Bool} {held : Bool} {fuel : Nat} {cs : List Value} {x : DataW H × List MemPlace},
    DataW.trod enc P W base sp held fuel t cs = some x → ∃ a, R a cs W.heap

def IntR (k : IntKind) (n : Int) (cs : List Value) (_ : Heap) : Prop := cs = [.int k n] ∧ (Lit.int k n).wf = true
def StrR (l : List UInt8) (cs : List Value) (_ : Heap) : Prop := cs = [.string ⟨⟨l⟩⟩] ∧ l.length ≤ maxLen
def BoolR (b : Bool) (cs : List Value) (_ : Heap) : Prop := cs = [.bool b]

theorem opens_int {t : TypeId} {k : IntKind} (ht : P.underlying t = some (.int k)) : Opens P t (IntR k) := by
  intro H enc W base sp held fuel cs x h
  obtain ⟨n, h1, _, h3⟩ := DataW.trod_int ht h
  exact ⟨n, h1, h3⟩
theorem opens_bool {t : TypeId} (ht : P.underlying t = some .bool) : Opens P t BoolR := by
  intro H enc W base sp held fuel cs x h
  cases fuel with
  | zero => simp [DataW.trod] at h
  | succ n =>
    unfold DataW.trod at h
    rw [ht] at h
    split at h <;> simp_all [BoolR]
theorem opens_str {t : TypeId} (ht : P.underlying t = some .string) : Opens P t StrR := by
  intro H enc W base sp held fuel cs x h
  cases fuel with
  | zero => simp [DataW.trod] at h
  | succ n =>
    unfold DataW.trod at h
    rw [ht] at h
    split at h <;> simp only [reduceCtorEq, Option.some.injEq, TypeDesc.int.injEq] at *
    rename_i s _
    split at h
    · rename_i hs
      exact ⟨s.data.toList, rfl, by simpa using hs⟩
    · cases h

/-- Elements behind an address, each of m cells. -/
def ElR {α : Type} (R : α → List Value → Heap → Prop) (m : Nat) (H : Heap) (a : Option Addr) (l : List α) : Prop :=
  l = [] ∨ ∃ b o, a = some ⟨b, o, none⟩ ∧ ∀ j (h : j < l.length), ∃ vs, vs.length = m ∧ (∀ i, i < m → cellB H b (o + j * m + i) = vs[i]?) ∧ R l[j] vs H
def SlR {α : Type} (R : α → List Value → Heap → Prop) (m : Nat) (l : List α) (cs : List Value) (H : Heap) : Prop :=
  ∃ a c, cs = [.slice a l.length c] ∧ l.length ≤ c ∧ c ≤ maxLen ∧ ElR R m H a l

theorem list_of {α β : Type} {n : Nat} {Q : Nat → α → Prop} (h : ∀ i, i < n → ∃ a, Q i a) : ∃ l : List α, l.length = n ∧ ∀ i (hi : i < l.length), Q i l[i] := by
  induction n with
  | zero => exact ⟨[], rfl, fun i hi => by simp at hi⟩
  | succ n ih =>
    obtain ⟨l, h1, h2⟩ := ih (fun i hi => h i (by omega))
    obtain ⟨a, ha⟩ := h n (by omega)
    refine ⟨l ++ [a], by simp [h1], fun i hi => ?_⟩
    rcases Nat.lt_or_ge i l.length with h' | h'
    · rw [List.getElem_append_left h']; exact h2 i h'
    · have : i = l.length := by simp at hi; omega
      subst this
      simp; rw [h1]; exact ha

theorem opens_slice {t e m : Nat} {α : Type} {R : α → List Value → Heap → Prop} (ht : P.underlying t = some (.slice e)) (hc : P.cellsOf e = m) (hm : 0 < m) (he : Opens P e R) : Opens P t (SlR R m) := by
  intro H enc W base sp held fuel cs x h
  rcases DataW.trod_slice ht h with ⟨h0, _⟩ | ⟨a, len, cap, elems, rest, n, _, rfl, rfl, hb, hl, hmx, hlen, hel, _, _⟩
  · exact ⟨[], none, 0, h0, by simp, by simp [maxLen], .inl rfl⟩
  · have hi : ∀ i, i < len → ∃ y : α, ∃ vs, vs.length = m ∧ (∀ j, j < m → cellAt W.heap (a.add (i * m + j)) = vs[j]?) ∧ R y vs W.heap := by
      intro i hi
      have h1 := hel i hi
      have h2 : elems[i]? = some elems[i] := List.getElem?_eq_getElem (by omega)
      rw [h2, Option.bind_eq_some_iff] at h1
      obtain ⟨vs, hv, hr⟩ := h1
      obtain ⟨h3, h4, h5⟩ := World.cells?_some hv
      obtain ⟨y, hy⟩ := he hr
      rw [hc] at h4 h5 hv
      refine ⟨y, vs, h4, fun j hj => ?_, hy⟩
      have := h5 j hj
      rw [← this]
      show _ = cellAt W.heap _
      congr 1
      simp only [Addr.add]
      repeat' split
      all_goals first | rfl | omega | simp_all [Nat.add_assoc]
    obtain ⟨l, hl1, hl2⟩ := list_of (β := Unit) hi
    refine ⟨l, some a, cap, by rw [hl1], by omega, hmx, ?_⟩
    rcases Nat.eq_zero_or_pos l.length with h0 | h0
    · exact .inl (List.eq_nil_of_length_eq_zero h0)
    · have hspot : a.spot = none := by
        obtain ⟨vs, h1, h2, _⟩ := hl2 0 h0
        have h3 := h2 0 hm
        rw [List.getElem?_eq_getElem (by omega)] at h3
        unfold cellAt at h3
        split at h3
        · split at h3
          · cases h3
          · rename_i hs; simpa [Addr.add] using hs
        · cases h3
      obtain ⟨b, o, s⟩ := a
      simp only at hspot
      subst hspot
      refine .inr ⟨b, o, rfl, fun j hj => ?_⟩
      obtain ⟨vs, h1, h2, h3⟩ := hl2 j hj
      refine ⟨vs, h1, fun i hi => ?_, h3⟩
      rw [← h2 i hi, add_mk, cellAt_mk, Nat.add_assoc]

/-- A byte slice. -/
def BytesR (l : List UInt8) (cs : List Value) (H : Heap) : Prop := ∃ a c, cs = [.slice a l.length c] ∧ l.length ≤ c ∧ c ≤ maxLen ∧ BsR H a l

theorem opens_bytes {t e : Nat} (ht : P.underlying t = some (.slice e)) (hc : P.cellsOf e = 1) (he : P.underlying e = some (.int .u8)) : Opens P t BytesR := by
  intro H enc W base sp held fuel cs x h
  obtain ⟨l, a, c, h1, h2, h3, h4⟩ := opens_slice ht hc (by decide) (opens_int he) h
  refine ⟨l.map fun n => UInt8.ofNat n.toNat, a, c, by simpa using h1, by simpa using h2, h3, ?_⟩
  rcases h4 with h4 | ⟨b, o, h5, h6⟩
  · subst h4; exact .inl rfl
  · refine .inr ⟨b, o, h5, fun j hj => ?_⟩
    simp only [List.length_map] at hj
    obtain ⟨vs, h7, h8, h9, h10⟩ := h6 j hj
    have := h8 0 (by decide)
    rw [h9] at this
    simp only [Nat.mul_one, Nat.add_zero, List.getElem?_cons_zero] at this
    rw [this]
    simp only [Lit.wf, IntKind.min, IntKind.max, IntKind.signed, IntKind.bits, Bool.and_eq_true, decide_eq_true_eq] at h10
    simp only [List.getElem_map, bv]
    rw [u8_of _ (by simp at h10; omega)]
    simp at h10 ⊢; omega

/-- A struct's fields, each by its own type. -/
theorem struct_fields {H : Type} {enc : TypeId × Value → H} {W : World} {base : Nat} {sp : Nat → Bool} {held : Bool} {fuel : Nat} {t : TypeId} {cs : List Value} {x : DataW H × List MemPlace} {fs : Array Field} (ht : P.underlying t = some (.struct fs))
    (h : DataW.trod enc P W base sp held fuel t cs = some x) : cs.length = P.cellsOf t ∧
      ∀ (i : Nat) (f : Field), fs[i]? = some f → ∀ {α : Type} {R : α → List Value → Heap → Prop} {m : Nat}, P.cellsOf f.type = m → Opens P f.type R → ∃ a, R a ((cs.drop f.offset).take m) W.heap := by
  obtain ⟨xs, n, _, _, hl, hx, hf⟩ := DataW.trod_struct ht h
  refine ⟨hl, fun i f hi α R m hm ho => ?_⟩
  have h1 := hf i f hi
  have hlt : i < xs.length := by
    rw [hx]; exact (Array.getElem?_eq_some_iff.1 hi).1
  rw [List.getElem?_eq_getElem hlt, hm] at h1
  exact ho h1

/-- A type of one cell that no struct shares. -/
def plainB (P : Program) (t : TypeId) : Bool :=
  match P.underlying t with
  | some (.int _) | some .bool | some .string | some (.slice _) => true
  | _ => false

theorem arg_one {t : TypeId} {α : Type} {R : α → List Value → Heap → Prop} (ho : Opens P t R) (hp : plainB P t = true) {b0 : Nat} {v : Value} {d : DataW H} {ps : List MemPlace}
    (hval : Value.okWide P W .any b0 t v) (h : DataW.Trod enc P W base sp held t v d ps) : ∃ a, R a [v] W.heap := by
  obtain ⟨fuel, hf⟩ := h
  have hc : v.cells.toList = [v] := by
    cases v with
    | agg vs =>
      exfalso
      unfold plainB at hp
      unfold Value.okWide at hval
      split at hp
      all_goals first | (cases hp; done) | (rename_i e; rw [e] at hval; simp [Cell.okWide, e, Cell.ok] at hval)
    | _ => rfl
  rw [hc] at hf
  exact ho hf

theorem arg_agg {t : TypeId} {fs : Array Field} {α : Type} {R : α → List Value → Heap → Prop} (ho : Opens P t R) (ht : P.underlying t = some (.struct fs)) {b0 : Nat} {v : Value} {d : DataW H} {ps : List MemPlace}
    (hval : Value.okWide P W .any b0 t v) (h : DataW.Trod enc P W base sp held t v d ps) : ∃ a cs, v = .agg cs ∧ R a cs.toList W.heap := by
  obtain ⟨fuel, hf⟩ := h
  obtain ⟨cs, rfl, _⟩ := okWide_struct ht hval
  obtain ⟨a, ha⟩ := ho hf
  exact ⟨a, cs, rfl, ha⟩

/-- What is known of an argument. -/
def ArgOk (enc : TypeId × Value → H) (P : Program) (W : World) (b0 : Nat) (t : TypeId) (v : Value) : Prop := Value.okWide P W .any b0 t v ∧ ∃ d ps, DataW.Trod enc P W 0 (fun _ => true) true t v d ps

theorem args1 {fn : Func} {b0 : Nat} {args : Array Value} {ds : List (DataW H)} {ps : List MemPlace} {t0 : TypeId} (hp : fn.params = #[t0])
    (hval : ∀ (j : Nat) t v, fn.params[j]? = some t → args[j]? = some v → Value.okWide P W .any b0 t v) (h : DataW.TrodAll enc P W 0 (fun _ => true) true fn.params.toList args.toList ds ps) :
    ∃ v0, args = #[v0] ∧ ArgOk enc P W b0 t0 v0 := by
  rw [hp] at h hval
  obtain ⟨v0, vs0, d0, ds0, p0, q0, hargs, rfl, rfl, h0, r0⟩ := trodAll_cons h
  obtain ⟨rfl, rfl, rfl⟩ := trodAll_nil r0
  obtain rfl : args = #[v0] := by cases args; simp_all
  exact ⟨v0, rfl, hval 0 t0 v0 rfl rfl, d0, p0, h0⟩
theorem args2 {fn : Func} {b0 : Nat} {args : Array Value} {ds : List (DataW H)} {ps : List MemPlace} {t0 t1 : TypeId} (hp : fn.params = #[t0, t1])
    (hval : ∀ (j : Nat) t v, fn.params[j]? = some t → args[j]? = some v → Value.okWide P W .any b0 t v) (h : DataW.TrodAll enc P W 0 (fun _ => true) true fn.params.toList args.toList ds ps) :
    ∃ v0 v1, args = #[v0, v1] ∧ ArgOk enc P W b0 t0 v0 ∧ ArgOk enc P W b0 t1 v1 := by
  rw [hp] at h hval
  obtain ⟨v0, vs0, d0, ds0, p0, q0, hargs, rfl, rfl, h0, r0⟩ := trodAll_cons h
  obtain ⟨v1, vs1, d1, ds1, p1, q1, rfl, rfl, rfl, h1, r1⟩ := trodAll_cons r0
  obtain ⟨rfl, rfl, rfl⟩ := trodAll_nil r1
  obtain rfl : args = #[v0, v1] := by cases args; simp_all
  exact ⟨v0, v1, rfl, ⟨hval 0 t0 v0 rfl rfl, d0, p0, h0⟩, hval 1 t1 v1 rfl rfl, d1, p1, h1⟩
theorem args3 {fn : Func} {b0 : Nat} {args : Array Value} {ds : List (DataW H)} {ps : List MemPlace} {t0 t1 t2 : TypeId} (hp : fn.params = #[t0, t1, t2])
    (hval : ∀ (j : Nat) t v, fn.params[j]? = some t → args[j]? = some v → Value.okWide P W .any b0 t v) (h : DataW.TrodAll enc P W 0 (fun _ => true) true fn.params.toList args.toList ds ps) :
    ∃ v0 v1 v2, args = #[v0, v1, v2] ∧ ArgOk enc P W b0 t0 v0 ∧ ArgOk enc P W b0 t1 v1 ∧ ArgOk enc P W b0 t2 v2 := by
  rw [hp] at h hval
  obtain ⟨v0, vs0, d0, ds0, p0, q0, hargs, rfl, rfl, h0, r0⟩ := trodAll_cons h
  obtain ⟨v1, vs1, d1, ds1, p1, q1, rfl, rfl, rfl, h1, r1⟩ := trodAll_cons r0
  obtain ⟨v2, vs2, d2, ds2, p2, q2, rfl, rfl, rfl, h2, r2⟩ := trodAll_cons r1
  obtain ⟨rfl, rfl, rfl⟩ := trodAll_nil r2
  obtain rfl : args = #[v0, v1, v2] := by cases args; simp_all
  exact ⟨v0, v1, v2, rfl, ⟨hval 0 t0 v0 rfl rfl, d0, p0, h0⟩, ⟨hval 1 t1 v1 rfl rfl, d1, p1, h1⟩, hval 2 t2 v2 rfl rfl, d2, p2, h2⟩

theorem ArgOk.one {b0 : Nat} {t : TypeId} {v : Value} {α : Type} {R : α → List Value → Heap → Prop} (h : ArgOk enc P W b0 t v) (ho : Opens P t R) (hp : plainB P t = true) : ∃ a, R a [v] W.heap := by
  obtain ⟨h1, d, ps, h2⟩ := h
  exact arg_one ho hp h1 h2
theorem ArgOk.agg {b0 : Nat} {t : TypeId} {v : Value} {fs : Array Field} {α : Type} {R : α → List Value → Heap → Prop} (h : ArgOk enc P W b0 t v) (ho : Opens P t R) (ht : P.underlying t = some (.struct fs)) : ∃ a cs, v = .agg cs ∧ R a cs.toList W.heap := by
  obtain ⟨h1, d, ps, h2⟩ := h
  exact arg_agg ho ht h1 h2

end
end Gx
end
section
/- Rows of elements of several cells each. -/
namespace Gx
open Go

/-- Cells behind a slice's address. -/
def CsR (H : Heap) (a : Option Addr) (l : List Value) : Prop :=
  l = [] ∨ ∃ b o, a = some ⟨b, o, none⟩ ∧ ∀ j (h : j < l.length), cellB H b (o + j) = some l[j]

theorem CsR.nil (H : Heap) (a : Option Addr) : CsR H a [] := .inl rfl
theorem CsR.fr {M : List Nat} {H H' : Heap} {a : Option Addr} {l : List Value} (h : CsR H a l) (hf : Fr M H H') (hm : ∀ b o, a = some ⟨b, o, none⟩ → b ∉ M) : CsR H' a l := by
  rcases h with h | ⟨b, o, h1, h2⟩
  · exact .inl h
  · exact .inr ⟨b, o, h1, fun j hj => cellB_fr (h2 j hj) hf (hm b o h1)⟩
theorem CsR.ext {H H' : Heap} {a : Option Addr} {l : List Value} (h : CsR H a l) (hf : Fr [] H H') : CsR H' a l := h.fr hf (by simp)
theorem CsR.lt {H : Heap} {b o : Nat} {l : List Value} (h : CsR H (some ⟨b, o, none⟩) l) (h0 : l ≠ []) : b < H.size := by
  rcases h with h | ⟨b', o', h1, h2⟩
  · exact absurd h h0
  · simp at h1; obtain ⟨rfl, rfl⟩ := h1
    exact cellB_lt (h2 0 (List.length_pos_iff.2 h0))
theorem CsR.get {H : Heap} {a : Option Addr} {l : List Value} (h : CsR H a l) (j : Nat) (hj : j < l.length) : ∃ b o, a = some ⟨b, o, none⟩ ∧ cellB H b (o + j) = some l[j] := by
  rcases h with h | ⟨b, o, h1, h2⟩
  · subst h; simp at hj
  · exact ⟨b, o, h1, h2 j hj⟩
theorem CsR.take {H : Heap} {a : Option Addr} {l : List Value} (h : CsR H a l) (n : Nat) : CsR H a (l.take n) := by
  rcases h with h | ⟨b, o, h1, h2⟩
  · subst h; simp [CsR]
  · refine .inr ⟨b, o, h1, fun j hj => ?_⟩
    simp only [List.length_take] at hj
    rw [h2 j (by omega)]; simp
theorem CsR.drop {H : Heap} {a : Option Addr} {l : List Value} (h : CsR H a l) (n : Nat) : CsR H (a.map (·.add n)) (l.drop n) := by
  rcases h with h | ⟨b, o, h1, h2⟩
  · subst h; simp [CsR]
  · refine .inr ⟨b, o + n, by simp [h1, add_mk], fun j hj => ?_⟩
    simp only [List.length_drop] at hj
    rw [show o + n + j = o + (n + j) by omega, h2 (n + j) (by omega)]; simp

section
variable {α : Type} {f : α → List Value} {m : Nat}

/-- Elements behind a slice's address; f says the cells of an element. -/
def RowR (f : α → List Value) (H : Heap) (a : Option Addr) (l : List α) : Prop := CsR H a (l.flatMap f)

theorem RowR.nil (H : Heap) (a : Option Addr) : RowR f H a [] := CsR.nil _ _
theorem RowR.fr {M : List Nat} {H H' : Heap} {a : Option Addr} {l : List α} (h : RowR f H a l) (hf : Fr M H H') (hm : ∀ b o, a = some ⟨b, o, none⟩ → b ∉ M) : RowR f H' a l := CsR.fr h hf hm
theorem RowR.ext {H H' : Heap} {a : Option Addr} {l : List α} (h : RowR f H a l) (hf : Fr [] H H') : RowR f H' a l := CsR.ext h hf

theorem length_cells (hm : ∀ x, (f x).length = m) : ∀ l : List α, (l.flatMap f).length = l.length * m
  | [] => by simp
  | x :: l => by simp [length_cells hm l, hm, Nat.add_mul, Nat.add_comm]
theorem drop_cells (hm : ∀ x, (f x).length = m) : ∀ (l : List α) (n : Nat), (l.flatMap f).drop (n * m) = (l.drop n).flatMap f
  | [], n => by simp
  | x :: l, 0 => by simp
  | x :: l, n + 1 => by
    rw [List.flatMap_cons, List.drop_succ_cons, ← drop_cells hm l n, List.drop_append, List.drop_eq_nil_of_le (by rw [hm, Nat.add_mul]; omega), hm]
    simp [Nat.add_mul]
theorem take_cells (hm : ∀ x, (f x).length = m) : ∀ (l : List α) (n : Nat), (l.flatMap f).take (n * m) = (l.take n).flatMap f
  | [], n => by simp
  | x :: l, 0 => by simp
  | x :: l, n + 1 => by
    rw [List.flatMap_cons, List.take_succ_cons, List.flatMap_cons, ← take_cells hm l n, List.take_append, List.take_of_length_le (by rw [hm, Nat.add_mul]; omega), hm]
    simp [Nat.add_mul]
theorem get_cells (hm : ∀ x, (f x).length = m) (l : List α) (j i : Nat) (hj : j < l.length) (hi : i < m) : (l.flatMap f)[j * m + i]? = (f l[j])[i]? := by
  have h1 := drop_cells hm l j
  have h2 : (l.flatMap f)[j * m + i]? = ((l.flatMap f).drop (j * m))[i]? := by simp
  rw [h2, h1, List.drop_eq_getElem_cons hj, List.flatMap_cons, List.getElem?_append_left (by rw [hm]; exact hi)]

/-- The cells of one element. -/
theorem RowR.get {H : Heap} {a : Option Addr} {l : List α} (h : RowR f H a l) (hm : ∀ x, (f x).length = m) (j : Nat) (hj : j < l.length) (h0 : 0 < m) : ∃ b o, a = some ⟨b, o, none⟩ ∧ ∀ i, i < m → cellB H b (o + j * m + i) = (f l[j])[i]? := by
  have hlen := length_cells hm l
  have hle : (j + 1) * m ≤ l.length * m := Nat.mul_le_mul_right _ hj
  rcases h with h | ⟨b, o, h1, h2⟩
  · rw [h] at hlen; simp at hlen; rw [Nat.add_mul] at hle; omega
  · refine ⟨b, o, h1, fun i hi => ?_⟩
    have hlt : j * m + i < (l.flatMap f).length := by rw [hlen]; rw [Nat.add_mul] at hle; omega
    rw [Nat.add_assoc, h2 _ hlt, ← get_cells hm l j i hj hi, List.getElem?_eq_getElem hlt]

theorem RowR.take {H : Heap} {a : Option Addr} {l : List α} (h : RowR f H a l) (hm : ∀ x, (f x).length = m) (n : Nat) : RowR f H a (l.take n) := by
  unfold RowR; rw [← take_cells hm]; exact CsR.take h _
theorem RowR.drop {H : Heap} {a : Option Addr} {l : List α} (h : RowR f H a l) (hm : ∀ x, (f x).length = m) (n : Nat) : RowR f H (a.map (·.add (n * m))) (l.drop n) := by
  unfold RowR; rw [← drop_cells hm]; exact CsR.drop h _
/-- A slice cut, as the machine makes it. -/
theorem RowR.cut {H : Heap} {a : Option Addr} {l : List α} (h : RowR f H a l) (hm : ∀ x, (f x).length = m) {c : Nat} (hc : l.length ≤ c) (n : Nat) : RowR f H (if c = n then a else a.map (·.add (n * m))) (l.drop n) := by
  by_cases e : c = n
  · rw [List.drop_eq_nil_of_le (by omega)]; exact RowR.nil _ _
  · rw [if_neg e]; exact h.drop hm n

theorem RowR.src {P : Program} {H : Heap} {a : Option Addr} {l : List α} {tx e c : Nat} (hk : P.underlying tx = some (.slice e)) (h : RowR f H a l) (hm : ∀ x, (f x).length = m) (h0 : 0 < m) (h1 : ∀ x, ∀ u ∈ f x, u.oneCell' = true) : SrcH P H m tx (.slice a l.length c) l.length (l.flatMap f) := by
  rcases h with h | ⟨b, o, h2, h3⟩
  · have : l = [] := by
      have := length_cells hm l
      rw [h] at this
      rcases Nat.eq_zero_or_pos l.length with h' | h'
      · exact List.eq_nil_of_length_eq_zero h'
      · have : 1 * m ≤ l.length * m := Nat.mul_le_mul_right _ h'
        simp at *; omega
    subst this; exact SrcH.empty hk a c
  · subst h2
    refine SrcH.cells hk (length_cells hm l) (fun j u hj => ?_) (by intro u hu; obtain ⟨x, _, hx⟩ := List.mem_flatMap.1 hu; exact h1 x u hx)
    have hlt : j < (l.flatMap f).length := by
      rcases Nat.lt_or_ge j (l.flatMap f).length with h | h
      · exact h
      · rw [List.getElem?_eq_none h] at hj; cases hj
    rw [add_mk, cellAt_mk, h3 j hlt, ← List.getElem?_eq_getElem hlt]; exact hj

theorem Own.csR {H : Heap} {a : Option Addr} {n c e : Nat} {xs : List Value} {g : Option Nat} (h : Own H e m (.slice a n c) n xs g) : CsR H a xs := by
  rcases h.2 with ⟨h1, h2, h3⟩ | ⟨b, cap, cur, h1, h2, h3, h4, h5, h6, h7⟩
  · subst h3; refine .inl (List.eq_nil_of_length_eq_zero ?_); have := h.1; omega
  · refine .inr ⟨b, 0, by simp at h2; exact h2.1, fun j hj => ?_⟩
    subst h1
    rw [Nat.zero_add, h.cell j (by have := h.1; omega)]
    simp [hj]
theorem Own.rowR {H : Heap} {a : Option Addr} {n c e : Nat} {l : List α} {g : Option Nat} (h : Own H e m (.slice a n c) n (l.flatMap f) g) : RowR f H a l := Own.csR h

/-- A slice of the heap that a reading says. -/
theorem RowR.of_ElR {H : Heap} {a : Option Addr} {l : List α} {R : α → List Value → Heap → Prop} (hm : ∀ x, (f x).length = m) (hR : ∀ x vs, R x vs H → vs = f x) (h : ElR R m H a l) : RowR f H a l := by
  rcases h with h | ⟨b, o, h1, h2⟩
  · subst h; exact RowR.nil _ _
  · refine .inr ⟨b, o, h1, fun k hk => ?_⟩
    have hlen := length_cells hm l
    have hm0 : 0 < m := by
      rcases Nat.eq_zero_or_pos m with h' | h'
      · subst h'; rw [hlen] at hk; simp at hk
      · exact h'
    have hj : k / m < l.length := by rw [hlen] at hk; exact (Nat.div_lt_iff_lt_mul hm0).2 hk
    have hi : k % m < m := Nat.mod_lt _ hm0
    obtain ⟨vs, h3, h4, h5⟩ := h2 (k / m) hj
    have e : o + k = o + k / m * m + k % m := by rw [Nat.add_assoc, Nat.mul_comm, Nat.div_add_mod]
    rw [e, h4 _ hi, hR _ _ h5, ← get_cells hm l _ _ hj hi]
    have e2 : k / m * m + k % m = k := by rw [Nat.mul_comm, Nat.div_add_mod]
    rw [e2, List.getElem?_eq_getElem hk]
end

/-- A store into a row of one's own. -/
theorem Sto_own {e m n b j : Nat} {v : Value} {xs : List Value} {H : Heap} {u : Value} {R : Heap → Prop} (h : Own H e m v n xs (some b)) (hj : j < xs.length) (h1 : u.oneCell' = true)
    (hR : ∀ H', Own H' e m v n (xs.set j u) (some b) → Fr [b] H H' → H'.size = H.size → R H') : Sto H ⟨b, j, none⟩ [u] 0 R := by
  rcases h.2 with ⟨h2, _⟩ | ⟨b', cap, cur, h2, h3, h4, h5, h6, h7, h8⟩
  · cases h2
  · cases h2
    have hb : Blk H b e cur.toList := by simpa [Blk] using h4
    have hlt : j < cur.toList.length := by
      have := congrArg List.length h8
      simp only [List.length_take, Array.length_toList] at this
      simp; omega
    refine Sto_one hb hlt h1 fun H' hb' hf hs => hR H' ⟨by simpa using h.1, .inr ⟨b, cap, _, rfl, h3, hb', h5, h6, by simpa using h7, ?_⟩⟩ hf hs
    rw [← h8, List.take_set]

/-- A block that is written whole. -/
theorem Sto_all {b t : Nat} {l vs : List Value} {H : Heap} {R : Heap → Prop} (h : Blk H b t l) (hl : vs.length = l.length) (h1 : ∀ v ∈ vs, v.oneCell' = true)
    (hR : ∀ H', Blk H' b t vs → Fr [b] H H' → H'.size = H.size → R H') : Sto H ⟨b, 0, none⟩ vs 0 R :=
  Sto_blk vs H l 0 0 h (by omega) h1 fun H' hb hf hs => hR H' (by
    rw [setL_eq _ _ _ (by omega)] at hb
    rw [List.drop_eq_nil_of_le (by omega)] at hb
    simpa using hb) hf hs

end Gx
end
section
/- Data that lie in memory: trees of cells and of slices. -/
namespace Gx
open Go

/-- Cells behind an address whose block is none of `M`. -/
def CsA (H : Heap) (M : List Nat) (a : Option Addr) (l : List Value) : Prop :=
  l = [] ∨ ∃ b o, a = some ⟨b, o, none⟩ ∧ b ∉ M ∧ ∀ j (h : j < l.length), cellB H b (o + j) = some l[j]

theorem CsA.csR {H : Heap} {M : List Nat} {a : Option Addr} {l : List Value} (h : CsA H M a l) : CsR H a l := by
  rcases h with h | ⟨b, o, h1, _, h2⟩
  · exact .inl h
  · exact .inr ⟨b, o, h1, h2⟩
theorem CsA.of_csR {H : Heap} {a : Option Addr} {l : List Value} (h : CsR H a l) : CsA H [] a l := by
  rcases h with h | ⟨b, o, h1, h2⟩
  · exact .inl h
  · exact .inr ⟨b, o, h1, by simp, h2⟩

/-- The step from one memory to another: what was readable and none of `M` is as it was, and none of `M'`. -/
def Stays (H : Heap) (M : List Nat) (H' : Heap) (M' : List Nat) : Prop := ∀ b, b < H.size → b ∉ M → b ∉ M' ∧ H'[b]? = H[b]?

theorem Stays.refl (H : Heap) (M : List Nat) : Stays H M H M := fun _ _ h => ⟨h, rfl⟩
/-- Behind writes to blocks of `M`, or new ones. -/
theorem Stays.fr {H H' : Heap} {M M' : List Nat} (hf : Fr M' H H') (hm : ∀ x, x ∈ M' → x ∈ M ∨ H.size ≤ x) : Stays H M H' M := fun b hb hn =>
  ⟨hn, hf.same b hb fun h => by rcases hm b h with q | q; exact hn q; omega⟩
theorem Stays.more {H : Heap} {M M' : List Nat} (hm : ∀ x, x ∈ M' → x ∈ M ∨ H.size ≤ x) : Stays H M H M' := fun b hb hn =>
  ⟨fun h => by rcases hm b h with q | q; exact hn q; omega, rfl⟩
theorem Stays.ext {H H' : Heap} {M : List Nat} (hf : Fr [] H H') : Stays H M H' M := Stays.fr hf (by simp)
theorem Stays.trans {H H' H'' : Heap} {M M' M'' : List Nat} (h : Stays H M H' M') (k : Stays H' M' H'' M'') (hs : H.size ≤ H'.size) : Stays H M H'' M'' := fun b hb hn => by
  obtain ⟨h1, h2⟩ := h b hb hn
  obtain ⟨h3, h4⟩ := k b (by omega) h1
  exact ⟨h3, h4.trans h2⟩

theorem CsA.to {H H' : Heap} {M M' : List Nat} {a : Option Addr} {l : List Value} (h : CsA H M a l) (hs : Stays H M H' M') : CsA H' M' a l := by
  rcases h with h | ⟨b, o, h1, h2, h3⟩
  · exact .inl h
  · rcases Nat.eq_zero_or_pos l.length with h0 | h0
    · exact .inl (List.eq_nil_of_length_eq_zero h0)
    · have hlt := cellB_lt (h3 0 h0)
      obtain ⟨q1, q2⟩ := hs b hlt h2
      refine .inr ⟨b, o, h1, q1, fun j hj => ?_⟩
      have := h3 j hj
      unfold cellB at *
      rw [q2]; exact this

/-- What is read: a cell; a slice of elements of m cells each; fields one behind the other. -/
inductive Dat where
  | v (x : Value)
  | list (m : Nat) (l : List Dat)
  | agg (l : List Dat)

mutual
def Rep (H : Heap) (M : List Nat) : Dat → List Value → Prop
  | .v x, cs => cs = [x]
  | .list m l, cs => ∃ a c css, cs = [.slice a l.length c] ∧ l.length ≤ c ∧ c ≤ maxLen ∧ Reps H M l css ∧ (∀ x ∈ css, x.length = m) ∧ CsA H M a css.flatten
  | .agg l, cs => ∃ css, cs = css.flatten ∧ Reps H M l css
def Reps (H : Heap) (M : List Nat) : List Dat → List (List Value) → Prop
  | [], css => css = []
  | d :: ds, css => ∃ x xs, css = x :: xs ∧ Rep H M d x ∧ Reps H M ds xs
end

section
variable {H H' : Heap} {M M' : List Nat} {α : Type}

mutual
theorem Rep.to (hs : Stays H M H' M') : ∀ (d : Dat) (cs : List Value), Rep H M d cs → Rep H' M' d cs
  | .v x, cs, h => by simpa [Rep] using h
  | .list m l, cs, h => by
    simp only [Rep] at h ⊢
    obtain ⟨a, c, css, h1, h2, h3, h4, h5, h6⟩ := h
    exact ⟨a, c, css, h1, h2, h3, Reps.to hs l css h4, h5, h6.to hs⟩
  | .agg l, cs, h => by
    simp only [Rep] at h ⊢
    obtain ⟨css, h1, h2⟩ := h
    exact ⟨css, h1, Reps.to hs l css h2⟩
theorem Reps.to (hs : Stays H M H' M') : ∀ (l : List Dat) (css : List (List Value)), Reps H M l css → Reps H' M' l css
  | [], css, h => by simpa [Reps] using h
  | d :: ds, css, h => by
    simp only [Reps] at h ⊢
    obtain ⟨x, xs, h1, h2, h3⟩ := h
    exact ⟨x, xs, h1, Rep.to hs d x h2, Reps.to hs ds xs h3⟩
end

theorem Rep.ext {d : Dat} {cs : List Value} (h : Rep H M d cs) (hf : Fr [] H H') : Rep H' M d cs := Rep.to (Stays.ext hf) d cs h
theorem Rep.stay {d : Dat} {cs : List Value} (h : Rep H M d cs) (hs : Stays H M H' M') : Rep H' M' d cs := Rep.to hs d cs h

theorem Reps.length : ∀ {l : List Dat} {css : List (List Value)}, Reps H M l css → css.length = l.length
  | [], css, h => by simp only [Reps] at h; subst h; rfl
  | d :: ds, css, h => by
    simp only [Reps] at h
    obtain ⟨x, xs, rfl, _, h3⟩ := h
    simp [Reps.length h3]
theorem Reps.get : ∀ {l : List Dat} {css : List (List Value)}, Reps H M l css → ∀ (j : Nat) (hj : j < l.length), ∃ x, css[j]? = some x ∧ Rep H M l[j] x
  | [], css, h, j, hj => by simp at hj
  | d :: ds, css, h, j, hj => by
    simp only [Reps] at h
    obtain ⟨x, xs, rfl, h2, h3⟩ := h
    cases j with
    | zero => exact ⟨x, rfl, h2⟩
    | succ j => simpa using Reps.get h3 j (by simpa using hj)
theorem Reps.append : ∀ {l l' : List Dat} {css css' : List (List Value)}, Reps H M l css → Reps H M l' css' → Reps H M (l ++ l') (css ++ css')
  | [], l', css, css', h, h' => by simp only [Reps] at h; subst h; exact h'
  | d :: ds, l', css, css', h, h' => by
    simp only [Reps] at h
    obtain ⟨x, xs, rfl, h2, h3⟩ := h
    exact ⟨x, xs ++ css', rfl, h2, Reps.append h3 h'⟩
theorem Reps.one {d : Dat} {x : List Value} (h : Rep H M d x) : Reps H M [d] [x] := ⟨x, [], rfl, h, rfl⟩
theorem Reps.take : ∀ {l : List Dat} {css : List (List Value)} (n : Nat), Reps H M l css → Reps H M (l.take n) (css.take n)
  | [], css, n, h => by simp only [Reps] at h; subst h; simp [Reps]
  | d :: ds, css, 0, h => by simp [Reps]
  | d :: ds, css, n + 1, h => by
    simp only [Reps] at h
    obtain ⟨x, xs, rfl, h2, h3⟩ := h
    exact ⟨x, xs.take n, rfl, h2, Reps.take n h3⟩
theorem Reps.drop : ∀ {l : List Dat} {css : List (List Value)} (n : Nat), Reps H M l css → Reps H M (l.drop n) (css.drop n)
  | [], css, n, h => by simp only [Reps] at h; subst h; simp [Reps]
  | d :: ds, css, 0, h => h
  | d :: ds, css, n + 1, h => by
    simp only [Reps] at h
    obtain ⟨x, xs, rfl, h2, h3⟩ := h
    exact Reps.drop n h3

theorem flatten_len {m : Nat} : ∀ {css : List (List Value)}, (∀ x ∈ css, x.length = m) → css.flatten.length = css.length * m
  | [], _ => by simp
  | x :: css, h => by
    have := flatten_len (css := css) fun y hy => h y (by simp [hy])
    simp [this, h x (by simp), Nat.add_mul, Nat.add_comm]
theorem flatten_take {m : Nat} : ∀ {css : List (List Value)} (n : Nat), (∀ x ∈ css, x.length = m) → css.flatten.take (n * m) = (css.take n).flatten
  | [], n, _ => by simp
  | x :: css, 0, h => by simp
  | x :: css, n + 1, h => by
    rw [List.flatten_cons, List.take_succ_cons, List.flatten_cons, ← flatten_take n (fun y hy => h y (by simp [hy])), List.take_append, List.take_of_length_le (by rw [h x (by simp), Nat.add_mul]; omega), h x (by simp)]
    simp [Nat.add_mul]
theorem flatten_drop {m : Nat} : ∀ {css : List (List Value)} (n : Nat), (∀ x ∈ css, x.length = m) → css.flatten.drop (n * m) = (css.drop n).flatten
  | [], n, _ => by simp
  | x :: css, 0, h => by simp
  | x :: css, n + 1, h => by
    rw [List.flatten_cons, List.drop_succ_cons, ← flatten_drop n (fun y hy => h y (by simp [hy])), List.drop_append, List.drop_eq_nil_of_le (by rw [h x (by simp), Nat.add_mul]; omega), h x (by simp)]
    simp [Nat.add_mul]

/-- An element of a slice. -/
theorem Rep.at {m : Nat} {l : List Dat} {v : Value} (h : Rep H M (.list m l) [v]) (j : Nat) (hj : j < l.length) (h0 : 0 < m) :
    ∃ b o c x, v = .slice (some ⟨b, o, none⟩) l.length c ∧ b ∉ M ∧ x.length = m ∧ (∀ i, i < m → cellB H b (o + j * m + i) = x[i]?) ∧ Rep H M l[j] x := by
  simp only [Rep] at h
  obtain ⟨a, c, css, h1, h2, h3, h4, h5, h6⟩ := h
  simp only [List.cons.injEq, and_true] at h1
  have hlen := Reps.length h4
  obtain ⟨x, hx, hr⟩ := Reps.get h4 j hj
  have hxm : x ∈ css := List.mem_of_getElem? hx
  have hxl := h5 x hxm
  have hfl := flatten_len h5
  have hle : (j + 1) * m ≤ l.length * m := Nat.mul_le_mul_right _ hj
  rw [Nat.add_mul, Nat.one_mul] at hle
  rcases h6 with h6 | ⟨b, o, h7, h8, h9⟩
  · rw [h6, hlen] at hfl
    simp only [List.length_nil] at hfl
    omega
  · refine ⟨b, o, c, x, by rw [h1, h7], h8, hxl, fun i hi => ?_, hr⟩
    have hlt : j * m + i < css.flatten.length := by rw [hfl, hlen]; omega
    rw [Nat.add_assoc, h9 _ hlt, ← List.getElem?_eq_getElem hlt]
    have e1 : css.flatten[j * m + i]? = (css.flatten.drop (j * m))[i]? := by simp
    have hj' : j < css.length := by omega
    rw [e1, flatten_drop j h5, List.drop_eq_getElem_cons hj', List.flatten_cons, List.getElem?_append_left (by
      rw [List.getElem?_eq_getElem hj'] at hx; cases hx; omega)]
    rw [List.getElem?_eq_getElem hj'] at hx; cases hx; rfl

theorem Rep.slice {m : Nat} {l : List Dat} {v : Value} (h : Rep H M (.list m l) [v]) : ∃ a c, v = .slice a l.length c ∧ l.length ≤ c ∧ c ≤ maxLen := by
  simp only [Rep] at h
  obtain ⟨a, c, css, h1, h2, h3, _⟩ := h
  simp only [List.cons.injEq, and_true] at h1
  exact ⟨a, c, h1, h2, h3⟩
theorem Rep.nil (m : Nat) : Rep H M (.list m []) [.slice none 0 0] := by
  simp only [Rep]
  exact ⟨none, 0, [], rfl, Nat.le_refl _, by decide, rfl, by simp, .inl rfl⟩
/-- A slice cut off behind. -/
theorem Rep.takeL {m : Nat} {l : List Dat} {a : Option Addr} {n c : Nat} (h : Rep H M (.list m l) [.slice a n c]) {k : Nat} (hk : k ≤ l.length) : Rep H M (.list m (l.take k)) [.slice a k c] := by
  simp only [Rep] at h ⊢
  obtain ⟨a', c', css, h1, h2, h3, h4, h5, h6⟩ := h
  simp only [List.cons.injEq, and_true, Value.slice.injEq] at h1
  obtain ⟨rfl, rfl, rfl⟩ := h1
  refine ⟨a, c, css.take k, by rw [List.length_take, Nat.min_eq_left hk], by rw [List.length_take]; omega, h3, Reps.take k h4, fun x hx => h5 x (List.mem_of_mem_take hx), ?_⟩
  rw [← flatten_take k h5]
  rcases h6 with h6 | ⟨b, o, h7, h8, h9⟩
  · exact .inl (by rw [h6]; simp)
  · refine .inr ⟨b, o, h7, h8, fun j hj => ?_⟩
    simp only [List.length_take] at hj
    rw [h9 j (by omega)]; simp

/-- Rows of one cell or several that hold no slices. -/
def leaf (f : α → List Value) (x : α) : Dat := .agg ((f x).map .v)
theorem reps_leaf : ∀ (l : List Value) (css : List (List Value)), Reps H M (l.map .v) css → css.flatten = l
  | [], css, h => by simp only [List.map_nil, Reps] at h; subst h; rfl
  | x :: l, css, h => by
    simp only [List.map_cons, Reps, Rep] at h
    obtain ⟨y, ys, rfl, rfl, h3⟩ := h
    simp [reps_leaf l ys h3]
theorem rep_leaf {f : α → List Value} {x : α} {cs : List Value} (h : Rep H M (leaf f x) cs) : cs = f x := by
  simp only [leaf, Rep] at h
  obtain ⟨css, h1, h2⟩ := h
  rw [h1, reps_leaf _ _ h2]

theorem reps_flat {f : α → Dat} {g : α → List Value} (hfg : ∀ x cs, Rep H M (f x) cs → cs = g x) : ∀ {l : List α} {css : List (List Value)}, Reps H M (l.map f) css → css.flatten = l.flatMap g
  | [], css, h => by simp only [List.map_nil, Reps] at h; subst h; rfl
  | x :: l, css, h => by
    simp only [List.map_cons, Reps] at h
    obtain ⟨y, ys, rfl, h2, h3⟩ := h
    simp [reps_flat hfg h3, hfg x y h2]
/-- A slice of such elements, as a row. -/
theorem Rep.row {f : α → Dat} {g : α → List Value} {m : Nat} (hfg : ∀ x cs, Rep H M (f x) cs → cs = g x) {l : List α} {v : Value} (h : Rep H M (.list m (l.map f)) [v]) :
    ∃ a c, v = .slice a l.length c ∧ l.length ≤ c ∧ c ≤ maxLen ∧ RowR g H a l := by
  simp only [Rep] at h
  obtain ⟨a, c, css, h1, h2, h3, h4, h5, h6⟩ := h
  simp only [List.cons.injEq, and_true, List.length_map] at h1 h2
  refine ⟨a, c, h1, h2, h3, ?_⟩
  unfold RowR
  rw [← reps_flat hfg h4]
  exact h6.csR
end
end Gx
end
