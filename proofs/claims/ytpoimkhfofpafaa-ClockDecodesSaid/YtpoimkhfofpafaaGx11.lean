/- The rules by which simp goes through stripped code. -/
import Derived.Test.YtpoimkhfofpafaaGx10
namespace Gx
open Go

def vcK (P : Program) (b : SCode) (Q : Post) : Env → Heap → Prop := fun ρ H => vc P b ρ H Q

def gdN (P : Program) (t : Nat) (b : Bool) (d : Option Nat) (s : SOp) (r : List GOp) (ρ : Env) (H : Heap) (K : Env → Heap → Prop) : Option (Option Bool) → Prop
  | some (some c) => (c = b → s.vc P ((t, .bool b) :: ρ) H (retK P d r ((t, .bool b) :: ρ) K)) ∧ (c = (!b) → vcOps P r (putE d undef ((t, .bool (!b)) :: ρ)) H K)
  | some none => vcOps P r (putE d undef ρ) H K
  | none => False

def rdD (P : Program) (next : DT) (d : Option Nat) (s : SOp) (D : List Nat) (pend : Pend) (ρ : Env) (H : Heap) (K : Env → Heap → Prop) : Option (Prop × Value) → Prop
  | some (p, v) => p ∧ vcD P next (s.held ρ D v pend) (putE d v ρ) H K
  | none => False

def efK (P : Program) (next : DT) (d : Option Nat) (pend : Pend) (ρ : Env) (K : Env → Heap → Prop) : Value → Heap → Prop :=
  fun v H' => pendOk H' pend ∧ vcD P next pend (putE d v ρ) H' K

def gdRd (P : Program) (t : Nat) (b : Bool) (next : DT) (d : Option Nat) (s : SOp) (D : List Nat) (pend : Pend) (ρ : Env) (H : Heap) (K : Env → Heap → Prop) : Option (Option Bool) → Prop
  | some (some c) => (c = b → rdD P next d s D pend ((t, .bool b) :: ρ) H K (s.rd ((t, .bool b) :: ρ) H)) ∧ (c = (!b) → vcD P next pend (putE d undef ((t, .bool (!b)) :: ρ)) H K)
  | some none => vcD P next pend (putE d undef ρ) H K
  | none => False

def gdEf (P : Program) (t : Nat) (b : Bool) (next : DT) (d : Option Nat) (s : SOp) (pend : Pend) (ρ : Env) (H : Heap) (K : Env → Heap → Prop) : Option (Option Bool) → Prop
  | some (some c) => (c = b → s.vc P ((t, .bool b) :: ρ) H (efK P next d pend ((t, .bool b) :: ρ) K)) ∧ (c = (!b) → vcD P next pend (putE d undef ((t, .bool (!b)) :: ρ)) H K)
  | some none => vcD P next pend (putE d undef ρ) H K
  | none => False

section
variable {P : Program} {ρ : Env} {H : Heap} {Q : Post} {K : Env → Heap → Prop}

@[go_sem] theorem vc_de (t : DT) (k : List Nat) : vc P (.de t k) ρ H Q = vcD P t [] ρ H (keepK k Q) := rfl
@[go_sem] theorem vcD_done (pend : Pend) : vcD P .done pend ρ H K = K ρ H := rfl
@[go_sem] theorem vcD_rd (d : Option Nat) (s : SOp) (D : List Nat) (next : DT) (pend : Pend) : vcD P (.rd none d s D next) pend ρ H K = rdD P next d s D pend ρ H K (s.rd ρ H) := by
  simp only [vcD, rdD, rdK]; cases s.rd ρ H <;> rfl
@[go_sem] theorem vcD_rdg (t : Nat) (b : Bool) (d : Option Nat) (s : SOp) (D : List Nat) (next : DT) (pend : Pend) : vcD P (.rd (some (t, b)) d s D next) pend ρ H K = gdRd P t b next d s D pend ρ H K (guardOf (ρ.get t)) := by
  simp only [vcD, gdRd, rdD, rdK]
  cases guardOf (ρ.get t) with
  | none => rfl
  | some x =>
    cases x with
    | none => rfl
    | some c =>
      simp only
      congr 1
      cases s.rd ((t, .bool b) :: ρ) H <;> rfl
@[go_sem] theorem vcD_ef (i : Nat) (d : Option Nat) (s : SOp) (next : DT) (pend : Pend) : vcD P (.ef i none d s next) pend ρ H K = s.vc P ρ H (efK P next d (pendDrop i pend) ρ K) := rfl
@[go_sem] theorem vcD_efg (i t : Nat) (b : Bool) (d : Option Nat) (s : SOp) (next : DT) (pend : Pend) : vcD P (.ef i (some (t, b)) d s next) pend ρ H K = gdEf P t b next d s (pendDrop i pend) ρ H K (guardOf (ρ.get t)) := by
  simp only [vcD, gdEf]
  cases guardOf (ρ.get t) with
  | none => rfl
  | some x => cases x <;> rfl
@[go_sem] theorem vcD_br (a b : DT) (pend : Pend) : vcD P (.br a b) pend ρ H K = (vcD P a pend ρ H K ∧ vcD P b pend ρ H K) := rfl
@[go_sem] theorem rdD_some (next : DT) (d : Option Nat) (s : SOp) (D : List Nat) (pend : Pend) (p : Prop) (v : Value) : rdD P next d s D pend ρ H K (some (p, v)) = (p ∧ vcD P next (s.held ρ D v pend) (putE d v ρ) H K) := rfl
@[go_sem] theorem efK_app (next : DT) (d : Option Nat) (pend : Pend) (v : Value) (H' : Heap) : efK P next d pend ρ K v H' = (pendOk H' pend ∧ vcD P next pend (putE d v ρ) H' K) := rfl
@[go_sem] theorem gdRd_bool (t : Nat) (b : Bool) (next : DT) (d : Option Nat) (s : SOp) (D : List Nat) (pend : Pend) (c : Bool) : gdRd P t b next d s D pend ρ H K (some (some c)) =
    ((c = b → rdD P next d s D pend ((t, .bool b) :: ρ) H K (s.rd ((t, .bool b) :: ρ) H)) ∧ (c = (!b) → vcD P next pend (putE d undef ((t, .bool (!b)) :: ρ)) H K)) := rfl
@[go_sem 2000] theorem gdRd_hit_true (t : Nat) (next : DT) (d : Option Nat) (s : SOp) (D : List Nat) (pend : Pend) : gdRd P t true next d s D pend ρ H K (some (some true)) = rdD P next d s D pend ((t, .bool true) :: ρ) H K (s.rd ((t, .bool true) :: ρ) H) := by simp [gdRd]
@[go_sem 2000] theorem gdRd_miss_true (t : Nat) (next : DT) (d : Option Nat) (s : SOp) (D : List Nat) (pend : Pend) : gdRd P t true next d s D pend ρ H K (some (some false)) = vcD P next pend (putE d undef ((t, .bool false) :: ρ)) H K := by simp [gdRd]
@[go_sem 2000] theorem gdEf_hit_true (t : Nat) (next : DT) (d : Option Nat) (s : SOp) (pend : Pend) : gdEf P t true next d s pend ρ H K (some (some true)) = s.vc P ((t, .bool true) :: ρ) H (efK P next d pend ((t, .bool true) :: ρ) K) := by simp [gdEf]
@[go_sem 2000] theorem gdEf_miss_true (t : Nat) (next : DT) (d : Option Nat) (s : SOp) (pend : Pend) : gdEf P t true next d s pend ρ H K (some (some false)) = vcD P next pend (putE d undef ((t, .bool false) :: ρ)) H K := by simp [gdEf]
@[go_sem 2000] theorem gdRd_hit_false (t : Nat) (next : DT) (d : Option Nat) (s : SOp) (D : List Nat) (pend : Pend) : gdRd P t false next d s D pend ρ H K (some (some false)) = rdD P next d s D pend ((t, .bool false) :: ρ) H K (s.rd ((t, .bool false) :: ρ) H) := by simp [gdRd]
@[go_sem 2000] theorem gdRd_miss_false (t : Nat) (next : DT) (d : Option Nat) (s : SOp) (D : List Nat) (pend : Pend) : gdRd P t false next d s D pend ρ H K (some (some true)) = vcD P next pend (putE d undef ((t, .bool true) :: ρ)) H K := by simp [gdRd]
@[go_sem 2000] theorem gdEf_hit_false (t : Nat) (next : DT) (d : Option Nat) (s : SOp) (pend : Pend) : gdEf P t false next d s pend ρ H K (some (some false)) = s.vc P ((t, .bool false) :: ρ) H (efK P next d pend ((t, .bool false) :: ρ) K) := by simp [gdEf]
@[go_sem 2000] theorem gdEf_miss_false (t : Nat) (next : DT) (d : Option Nat) (s : SOp) (pend : Pend) : gdEf P t false next d s pend ρ H K (some (some true)) = vcD P next pend (putE d undef ((t, .bool true) :: ρ)) H K := by simp [gdEf]
@[go_sem] theorem gdRd_undef (t : Nat) (b : Bool) (next : DT) (d : Option Nat) (s : SOp) (D : List Nat) (pend : Pend) : gdRd P t b next d s D pend ρ H K (some none) = vcD P next pend (putE d undef ρ) H K := rfl
@[go_sem] theorem gdEf_bool (t : Nat) (b : Bool) (next : DT) (d : Option Nat) (s : SOp) (pend : Pend) (c : Bool) : gdEf P t b next d s pend ρ H K (some (some c)) =
    ((c = b → s.vc P ((t, .bool b) :: ρ) H (efK P next d pend ((t, .bool b) :: ρ) K)) ∧ (c = (!b) → vcD P next pend (putE d undef ((t, .bool (!b)) :: ρ)) H K)) := rfl
@[go_sem] theorem gdEf_undef (t : Nat) (b : Bool) (next : DT) (d : Option Nat) (s : SOp) (pend : Pend) : gdEf P t b next d s pend ρ H K (some none) = vcD P next pend (putE d undef ρ) H K := rfl
@[go_sem] theorem pendOk_nil : pendOk H [] = True := rfl
@[go_sem] theorem pendOk_cons (D : List Nat) (h : Held) (r : Pend) : pendOk H ((D, h) :: r) = (h.ok H ∧ pendOk H r) := rfl
@[go_sem] theorem pendDrop_nil (i : Nat) : pendDrop i [] = [] := rfl
@[go_sem] theorem pendDrop_cons (i : Nat) (D : List Nat) (h : Held) (r : Pend) : pendDrop i ((D, h) :: r) = if D.elem i then pendDrop i r else (D, h) :: pendDrop i r := rfl
@[go_sem] theorem held_ok_ld (sz : Option Nat) (a : Addr) (v : Value) : (Held.ld sz a v).ok H = (ldV H sz a = some v) := rfl
@[go_sem] theorem held_ok_b2s (x v : Value) : (Held.b2s x v).ok H = (b2sN H (some x) = some v) := rfl
attribute [go_sem] SOp.held

@[go_sem] theorem vc_skip : vc P .skip ρ H Q = Q .nrm ρ H := rfl
@[go_sem] theorem vc_ops (l : List GOp) (k : List Nat) : vc P (.ops l k) ρ H Q = vcOps P l ρ H (keepK k Q) := rfl
@[go_sem] theorem vc_dq (l : List GOp) (k : List Nat) : vc P (.dq l k) ρ H Q = vcOps P l ρ H (keepK k Q) := rfl
@[go_sem] theorem vc_seq (a b : SCode) : vc P (.seq a b) ρ H Q = vc P a ρ H (seqK (vcK P b Q) Q) := rfl
@[go_sem] theorem vc_cond (c : Operand) (a b : SCode) : vc P (.cond c a b) ρ H Q = condN (vc P a ρ H Q) (vc P b ρ H Q) (ρ.ev c) := rfl
@[go_sem] theorem vc_block (id : Nat) (c : SCode) : vc P (.block id c) ρ H Q = vc P c ρ H (blockK id Q) := rfl
@[go_sem] theorem vc_exit (i : Nat) : vc P (.exit i) ρ H Q = Q (.ext i) ρ H := rfl
@[go_sem] theorem vc_ret : vc P .ret ρ H Q = Q .ret ρ H := rfl
@[go_sem] theorem vcK_app (b : SCode) : vcK P b Q ρ H = vc P b ρ H Q := rfl
@[go_sem] theorem keepK_app (l : List Nat) : keepK l Q ρ H = Q .nrm (ρ.keep l) H := rfl
@[go_sem] theorem seqK_nrm (F : Env → Heap → Prop) : seqK F Q .nrm ρ H = F ρ H := rfl
@[go_sem] theorem seqK_ext (F : Env → Heap → Prop) (i : Nat) : seqK F Q (.ext i) ρ H = Q (.ext i) ρ H := rfl
@[go_sem] theorem seqK_ret (F : Env → Heap → Prop) : seqK F Q .ret ρ H = Q .ret ρ H := rfl
@[go_sem] theorem blockK_nrm (i : Nat) : blockK i Q .nrm ρ H = Q .nrm ρ H := rfl
@[go_sem] theorem blockK_same (i : Nat) : blockK i Q (.ext i) ρ H = Q .nrm ρ H := if_pos rfl
@[go_sem] theorem blockK_ext (i j : Nat) : blockK i Q (.ext j) ρ H = if j = i then Q .nrm ρ H else Q (.ext j) ρ H := rfl
@[go_sem] theorem blockK_ret (i : Nat) : blockK i Q .ret ρ H = Q .ret ρ H := rfl
@[go_sem 2000] theorem condN_true (A B : Prop) : condN A B (some (.bool true)) = A := by simp [condN]
@[go_sem 2000] theorem condN_false (A B : Prop) : condN A B (some (.bool false)) = B := by simp [condN]
@[go_sem] theorem condN_bool (A B : Prop) (t : Bool) : condN A B (some (.bool t)) = ((t = true → A) ∧ (t = false → B)) := rfl

@[go_sem] theorem vcOps_nil : vcOps P [] ρ H K = K ρ H := rfl
@[go_sem] theorem vcOps_op (d : Option Nat) (s : SOp) (r : List GOp) : vcOps P (.op none d s :: r) ρ H K = s.vc P ρ H (retK P d r ρ K) := rfl
@[go_sem] theorem vcOps_gd (t : Nat) (b : Bool) (d : Option Nat) (s : SOp) (r : List GOp) : vcOps P (.op (some (t, b)) d s :: r) ρ H K = gdN P t b d s r ρ H K (guardOf (ρ.get t)) := by
  simp only [vcOps, gdN]
  cases guardOf (ρ.get t) with
  | none => rfl
  | some x => cases x <;> rfl
@[go_sem] theorem vcOps_sel (t : Nat) (b : Bool) (inner : List (Nat × SOp)) (d : Nat) (x y : Operand) (r : List GOp) :
    vcOps P (.sel t b inner d x y :: r) ρ H K = vN H (retK P (some d) r (Env.del (inner.map (·.1)) ρ) K) (selV ρ t b x y (innerE H inner ρ)) := rfl
@[go_sem] theorem retK_app (d : Option Nat) (r : List GOp) (v : Value) (H' : Heap) : retK P d r ρ K v H' = vcOps P r (putE d v ρ) H' K := rfl
@[go_sem] theorem putE_some (d : Nat) (v : Value) : putE (some d) v ρ = (d, v) :: ρ := rfl
@[go_sem] theorem putE_none (v : Value) : putE none v ρ = ρ := rfl
@[go_sem] theorem gdN_bool (t : Nat) (b : Bool) (d : Option Nat) (s : SOp) (r : List GOp) (c : Bool) : gdN P t b d s r ρ H K (some (some c)) =
    ((c = b → s.vc P ((t, .bool b) :: ρ) H (retK P d r ((t, .bool b) :: ρ) K)) ∧ (c = (!b) → vcOps P r (putE d undef ((t, .bool (!b)) :: ρ)) H K)) := rfl
@[go_sem 2000] theorem gdN_hit_true (t : Nat) (d : Option Nat) (s : SOp) (r : List GOp) : gdN P t true d s r ρ H K (some (some true)) = s.vc P ((t, .bool true) :: ρ) H (retK P d r ((t, .bool true) :: ρ) K) := by simp [gdN]
@[go_sem 2000] theorem gdN_miss_true (t : Nat) (d : Option Nat) (s : SOp) (r : List GOp) : gdN P t true d s r ρ H K (some (some false)) = vcOps P r (putE d undef ((t, .bool false) :: ρ)) H K := by simp [gdN]
@[go_sem 2000] theorem gdN_hit_false (t : Nat) (d : Option Nat) (s : SOp) (r : List GOp) : gdN P t false d s r ρ H K (some (some false)) = s.vc P ((t, .bool false) :: ρ) H (retK P d r ((t, .bool false) :: ρ) K) := by simp [gdN]
@[go_sem 2000] theorem gdN_miss_false (t : Nat) (d : Option Nat) (s : SOp) (r : List GOp) : gdN P t false d s r ρ H K (some (some true)) = vcOps P r (putE d undef ((t, .bool true) :: ρ)) H K := by simp [gdN]
@[go_sem] theorem gdN_undef (t : Nat) (b : Bool) (d : Option Nat) (s : SOp) (r : List GOp) : gdN P t b d s r ρ H K (some none) = vcOps P r (putE d undef ρ) H K := rfl
@[go_sem] theorem guardOf_b (c : Bool) : guardOf (some (.bool c)) = some (some c) := rfl
attribute [go_sem] undef
@[go_sem] theorem guardOf_undef' : guardOf (some (.tuple #[])) = some none := rfl

section
variable {R : Value → Heap → Prop}
@[go_sem] theorem svc_v (e : PE) : SOp.vc P ρ H R (.v e) = vN H R (e.val ρ) := rfl
@[go_sem] theorem svc_ld (sz : Option Nat) (x : Operand) : SOp.vc P ρ H R (.ld sz x) = rdN H R (ldN H sz (ρ.ev x)) := rfl
@[go_sem] theorem svc_st (n : Nat) (a x : Operand) : SOp.vc P ρ H R (.st n a x) = stN H n R (ρ.ev a) (ρ.ev x) := rfl
@[go_sem] theorem svc_al (t : Nat) (z : List Value) : SOp.vc P ρ H R (.al t z) = NewP H t z R := rfl
@[go_sem] theorem svc_bx (t : Nat) (x : Operand) : SOp.vc P ρ H R (.bx t x) = bxN H t R (ρ.ev x) := rfl
@[go_sem] theorem svc_bs (t n : Nat) (z : List Value) (ps : List (Nat × Nat × Operand)) : SOp.vc P ρ H R (.bs t n z ps) = bsN H t n z R (ρ.parts ps) := rfl
@[go_sem] theorem svc_ap (t tx : Nat) (s x : Operand) : SOp.vc P ρ H R (.ap t tx s x) = apN P t tx H R (ρ.ev s) (ρ.ev x) := rfl
@[go_sem] theorem svc_mk (t s b : Nat) (z : Value) (l c : Operand) : SOp.vc P ρ H R (.mk t s b z l c) = mkN H t s b z R (ρ.ev l) (ρ.ev c) := rfl
@[go_sem] theorem svc_call (f : Nat) (args : List Operand) : SOp.vc P ρ H R (.call f args) = callN P f H R (ρ.evs args) := rfl
@[go_sem] theorem svc_cv (f : Operand) (args : List Operand) : SOp.vc P ρ H R (.cv f args) = cvN P H R (ρ.ev f) (ρ.evs args) := rfl
@[go_sem] theorem svc_b2s (x : Operand) : SOp.vc P ρ H R (.b2s x) = rdN H R (b2sN H (ρ.ev x)) := rfl
@[go_sem] theorem svc_s2b (t : Nat) (x : Operand) : SOp.vc P ρ H R (.s2b t x) = s2bN H t R (ρ.ev x) := rfl
@[go_sem] theorem vN_some (p : Prop) (v : Value) : vN H R (some (p, v)) = (p ∧ R v H) := rfl
@[go_sem] theorem rdN_some (v : Value) : rdN H R (some v) = R v H := rfl
@[go_sem] theorem stN_some (n : Nat) (a : Addr) (v : Value) : stN H n R (some (.pointer (some a))) (some v) = (v.cells.size = n ∧ Sto H a v.cells.toList 0 (R undef)) := rfl
@[go_sem] theorem bxN_some (t : Nat) (v : Value) : bxN H t R (some v) = NewP H t v.cells.toList R := rfl
def bs2N (H : Heap) (t n : Nat) (R : Value → Heap → Prop) : Option (List Value) → Prop
  | some cs => NewS H t n cs R
  | none => False
@[go_sem] theorem bs2N_some (t n : Nat) (cs : List Value) : bs2N H t n R (some cs) = NewS H t n cs R := rfl
@[go_sem] theorem bsN_some (t n : Nat) (z : List Value) (ps : List (Nat × Nat × Value)) : bsN H t n z R (some ps) = bs2N H t n R (fillV z ps) := by
  simp only [bsN, bs2N]; cases fillV z ps <;> rfl
@[go_sem] theorem apN_some (t tx : Nat) (s x : Value) : apN P t tx H R (some s) (some x) = App P t tx t H s x R := rfl
@[go_sem] theorem callN_some (f : Nat) (vs : List Value) : callN P f H R (some vs) = HCalls P f vs.toArray H R := rfl
@[go_sem] theorem cvN_some (f : Nat) (first cap : Array Value) (vs : List Value) : cvN P H R (some (.func (.func f) first cap)) (some vs) = (first = #[] ∧ hasBody P f = true ∧ HCalls P f (vs.toArray ++ cap) H R) := rfl
@[go_sem] theorem mkN_some (t s b : Nat) (z : Value) (l c : Int) : mkN H t s b z R (some (.int .i64 l)) (some (.int .i64 c)) = Mk H t s z l c b R := rfl
@[go_sem] theorem s2bN_some (t : Nat) (s : ByteArray) : s2bN H t R (some (.string s)) = S2b H t s R := rfl
@[go_sem] theorem ldN_some (sz : Option Nat) (a : Addr) : ldN H sz (some (.pointer (some a))) = ldV H sz a := rfl
@[go_sem] theorem ldN_tuple (sz : Option Nat) (vs : Array Value) : ldN H sz (some (.tuple vs)) = none := rfl
@[go_sem] theorem ldN_nilp (sz : Option Nat) : ldN H sz (some (.pointer none)) = none := rfl
@[go_sem] theorem ldV_one (a : Addr) : ldV H none a = cellAt H a := rfl
end

def aggN : Option (List Value) → Option Value
  | some vs => some (.agg vs.toArray)
  | none => none
@[go_sem] theorem aggN_some (vs : List Value) : aggN (some vs) = some (.agg vs.toArray) := rfl
@[go_sem] theorem ldV_agg (n : Nat) (a : Addr) : ldV H (some n) a = aggN (cellsFrom H a 0 n) := by
  simp only [ldV]; cases cellsFrom H a 0 n <;> rfl
def consN : Option Value → Option (List Value) → Option (List Value)
  | some v, some vs => some (v :: vs)
  | _, _ => none
@[go_sem] theorem consN_some (v : Value) (vs : List Value) : consN (some v) (some vs) = some (v :: vs) := rfl
@[go_sem] theorem cellsFrom_zero (a : Addr) (i : Nat) : cellsFrom H a i 0 = some [] := rfl
@[go_sem] theorem cellsFrom_succ (a : Addr) (i n : Nat) : cellsFrom H a i (n + 1) = consN (cellAt H (a.add i)) (cellsFrom H a (i + 1) n) := by
  simp only [cellsFrom, consN]; cases cellAt H (a.add i) <;> cases cellsFrom H a (i + 1) n <;> rfl

/-! ### environments -/
@[go_sem] theorem get_cons (i t : Nat) (v : Value) (r : Env) : Env.get ((i, v) :: r) t = if i = t then some v else Env.get r t := rfl
@[go_sem] theorem get_nil (t : Nat) : Env.get [] t = none := rfl
@[go_sem] theorem ev_tmp (t : Nat) : Env.ev ρ (.tmp t) = ρ.get t := rfl
@[go_sem] theorem ev_const (v : Value) : Env.ev ρ (.const v) = some v := rfl
@[go_sem] theorem ev_global (g : Nat) : Env.ev ρ (.global g) = some (.pointer (some ⟨g, 0, none⟩)) := rfl
@[go_sem] theorem ev_func (f : Nat) : Env.ev ρ (.func f) = some (.func (.func f) #[] #[]) := rfl
@[go_sem] theorem evs_nil : Env.evs ρ [] = some [] := rfl
@[go_sem] theorem evs_cons (x : Operand) (r : List Operand) : Env.evs ρ (x :: r) = consN (ρ.ev x) (Env.evs ρ r) := by
  simp only [Env.evs, consN]; cases ρ.ev x <;> cases Env.evs ρ r <;> rfl
def keepN (t : Nat) (e : Env) : Option Value → Env
  | some v => (t, v) :: e
  | none => e
@[go_sem] theorem keepN_some (t : Nat) (e : Env) (v : Value) : keepN t e (some v) = (t, v) :: e := rfl
@[go_sem] theorem keepN_none (t : Nat) (e : Env) : keepN t e none = e := rfl
@[go_sem] theorem keep_nil : Env.keep ρ [] = [] := rfl
@[go_sem] theorem keep_cons (t : Nat) (r : List Nat) : Env.keep ρ (t :: r) = keepN t (Env.keep ρ r) (ρ.get t) := by
  simp only [Env.keep, keepN]; cases ρ.get t <;> rfl
def part3 (o s : Nat) : Option Value → Option (List (Nat × Nat × Value)) → Option (List (Nat × Nat × Value))
  | some v, some r => some ((o, s, v) :: r)
  | _, _ => none
@[go_sem] theorem part3_some (o s : Nat) (v : Value) (r : List (Nat × Nat × Value)) : part3 o s (some v) (some r) = some ((o, s, v) :: r) := rfl
@[go_sem] theorem parts_nil : Env.parts ρ [] = some [] := rfl
@[go_sem] theorem parts_cons (o s : Nat) (x : Operand) (r : List (Nat × Nat × Operand)) : Env.parts ρ ((o, s, x) :: r) = part3 o s (ρ.ev x) (Env.parts ρ r) := by
  simp only [Env.parts, part3]; cases ρ.ev x <;> cases Env.parts ρ r <;> rfl
@[go_sem] theorem knows_nil : Env.knows ρ [] = True := rfl
@[go_sem] theorem knows_cons (t : Nat) (v : Value) (r : Env) : Env.knows ρ ((t, v) :: r) = (ρ.get t = some v ∧ Env.knows ρ r) := rfl
def bndN : Option Value → Option (Option Int)
  | some (.int _ n) => some (some n)
  | _ => none
@[go_sem] theorem bndN_some (k : IntKind) (n : Int) : bndN (some (.int k n)) = some (some n) := rfl
@[go_sem] theorem bnd_none' : Env.bnd ρ none = some none := rfl
@[go_sem] theorem bnd_some' (x : Operand) : Env.bnd ρ (some x) = bndN (ρ.ev x) := by
  simp only [Env.bnd, bndN]
  cases ρ.ev x with
  | none => rfl
  | some v => cases v <;> rfl
@[go_sem] theorem argsE_nil (i : Nat) : argsE i [] = [] := rfl
@[go_sem] theorem argsE_cons (i : Nat) (v : Value) (r : List Value) : argsE i (v :: r) = (i, v) :: argsE (i + 1) r := rfl
@[go_sem] theorem del_nil (ds : List Nat) : Env.del ds [] = [] := rfl
@[go_sem] theorem del_cons (ds : List Nat) (i : Nat) (v : Value) (r : Env) : Env.del ds ((i, v) :: r) = if ds.elem i then Env.del ds r else (i, v) :: Env.del ds r := rfl

/-! ### pure operations -/
attribute [go_sem] PE.val mvN pickN binN beqN steqN negN stEq leafEq andB isnilN isnilsN unN cviN cvsN faN ixN sixN slN sslN lenN slenN fld1N fldAN extN mmN ncN mkfN bldN binV intV strV unV slV sslV fillV
  SOp.rd resV RV.val finN finQ
attribute [go_sem] List.elem_cons List.elem_nil

def innN (d : Nat) (H : Heap) (r : List (Nat × SOp)) (ρ : Env) : Option (Prop × Value) → Option (Prop × Env)
  | some (p, v) => match innerE H r ((d, v) :: ρ) with
    | some (q, ρ') => some (p ∧ q, ρ')
    | none => none
  | none => none
def andN (p : Prop) : Option (Prop × Env) → Option (Prop × Env)
  | some (q, ρ') => some (p ∧ q, ρ')
  | none => none
@[go_sem] theorem andN_some (p q : Prop) (e : Env) : andN p (some (q, e)) = some (p ∧ q, e) := rfl
@[go_sem] theorem innN_some (d : Nat) (r : List (Nat × SOp)) (p : Prop) (v : Value) : innN d H r ρ (some (p, v)) = andN p (innerE H r ((d, v) :: ρ)) := rfl
@[go_sem] theorem andN_none (p : Prop) : andN p none = none := rfl
@[go_sem] theorem innN_none (d : Nat) (r : List (Nat × SOp)) : innN d H r ρ none = none := rfl
@[go_sem] theorem innerE_nil : innerE H [] ρ = some (True, ρ) := rfl
@[go_sem] theorem innerE_cons (d : Nat) (s : SOp) (r : List (Nat × SOp)) : innerE H ((d, s) :: r) ρ = innN d H r ρ (s.rd ρ H) := rfl
attribute [go_sem] selV selN

/-! ### propositions -/
attribute [go_sem] true_and and_true true_imp_iff false_imp_iff implies_true forall_const

end

theorem vc_loop {P : Program} {α : Type} {ρ : Env} {H : Heap} {Q : Post} {c : SCode} (I : α → Heap → Prop) (E : α → Env) (μ : α → Nat) (x₀ : α) (h₀ : I x₀ H) (hk : ρ.knows (E x₀))
    (round : ∀ x H, I x H → vc P c (E x) H (seqK (loopK I E μ x) Q)) : vc P (.loop c) ρ H Q :=
  ⟨α, I, E, μ, x₀, h₀, hk, round⟩

theorem loopK_intro {α : Type} {I : α → Heap → Prop} {E : α → Env} {μ : α → Nat} {x : α} {ρ : Env} {H : Heap} (y : α) (h1 : μ y < μ x) (h2 : ρ.knows (E y)) (h3 : I y H) : loopK I E μ x ρ H := ⟨y, h1, h2, h3⟩

end Gx
