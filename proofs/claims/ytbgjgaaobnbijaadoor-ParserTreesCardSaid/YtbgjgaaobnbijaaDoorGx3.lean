/- Pure operations: soundness. -/
import Derived.Test.YtbgjgaaobnbijaaDoorGx2
import Derived.Laws.StructEq
namespace Gx
open Go

section
variable {P : Program}

theorem mvN_some {x : Option Value} {p : Prop} {v : Value} (h : mvN x = some (p, v)) : x = some v := by
  cases x <;> simp [mvN] at h; simp [h.2]

theorem run_intArith (op : BinOp) (k : IntKind) (a b : Int) (p : Prop) (v : Value) (h : intV op k a b = some (p, v)) (hp : p) (w : World)
    (hns : op ≠ .shl) (hns' : op ≠ .shr) (ty : TypeId) : (binOp op ty (.int k a) (.int k b)).run P w = .ok v w := by
  cases op <;> simp only [intV, Option.some.injEq, Prod.mk.injEq] at h hns hns' <;> (try exact absurd rfl hns) <;> (try exact absurd rfl hns') <;> obtain ⟨rfl, rfl⟩ := h <;>
    simp [binOp, Op.intArith, Op.intDiv, Op.intBits, Op.intCmp, BEq.beq, bne, bits]
  all_goals (intro h0; exact absurd h0 hp)

theorem shrI_nat {k : IntKind} (a b : Nat) (h : b ≤ k.bits) : shrI k a b = ((a / 2 ^ b : Nat) : Int) := by
  have hm : min b k.bits = b := by omega
  have hp : (0 : Int) ≤ 2 ^ b := Int.pow_nonneg (by decide)
  simp only [shrI, Int.toNat_natCast, hm, Int.fdiv_eq_ediv_of_nonneg _ hp]
  simp
theorem shlI_eq {k : IntKind} (a : Int) (b : Nat) (h : b ≤ k.bits) : shlI k a b = k.wrap (a * 2 ^ b) := by
  have hm : min b k.bits = b := by omega
  simp only [shlI, Int.toNat_natCast, hm]

theorem run_shift (op : BinOp) (hop : op = .shl ∨ op = .shr) (k k' : IntKind) (a b : Int) (p : Prop) (v : Value) (h : intV op k a b = some (p, v)) (hp : p) (w : World) (ty : TypeId) :
    (binOp op ty (.int k a) (.int k' b)).run P w = .ok v w := by
  rcases hop with rfl | rfl <;> simp only [intV, Option.some.injEq, Prod.mk.injEq] at h <;> obtain ⟨rfl, rfl⟩ := h <;>
    simp [binOp, Op.shift, show ¬ b < 0 by omega, shlI, shrI]

theorem ba_beq (a b : ByteArray) : (a.toList == b.toList) = decide (a = b) := by
  rw [Bool.eq_iff_iff]
  simp only [beq_iff_eq, decide_eq_true_eq, ByteArray.toList_eq]
  constructor
  · intro h
    cases a; cases b
    simp at h
    simp [h]
  · rintro rfl; rfl

theorem data_beq (a b : ByteArray) : (a.data == b.data) = decide (a = b) := by
  rw [Bool.eq_iff_iff]
  simp only [beq_iff_eq, decide_eq_true_eq]
  constructor
  · intro h
    cases a; cases b
    simpa using h
  · rintro rfl; rfl

theorem run_strOp (op : BinOp) (a b : ByteArray) (p : Prop) (v : Value) (h : strV op a b = some (p, v)) (hp : p) (w : World) (ty : TypeId) :
    (binOp op ty (.string a) (.string b)).run P w = .ok v w := by
  cases op <;> simp only [strV, Option.some.injEq, Prod.mk.injEq, reduceCtorEq] at h <;> obtain ⟨rfl, rfl⟩ := h
  case add =>
    have h0 : ¬ (((a.size + b.size : Nat) : Int) > IntKind.i64.max) := by
      have : IntKind.i64.max = 9223372036854775807 := by decide
      rw [this]; omega
    simp only [binOp, Op.stringOp, if_neg h0, Sem.run_pure]
  all_goals simp [binOp, Op.stringOp, ByteArray.toList_eq, data_beq]

theorem run_eqGuard_int (op : BinOp) (ty : TypeId) (x y : Operand) (k k' : IntKind) (a b : Int) (w : World) : (eqGuard op ty x y (.int k a) (.int k' b)).run P w = .ok () w := by
  unfold eqGuard; cases op <;> simp
theorem run_eqGuard_str (op : BinOp) (ty : TypeId) (x y : Operand) (a b : ByteArray) (w : World) : (eqGuard op ty x y (.string a) (.string b)).run P w = .ok () w := by
  unfold eqGuard; cases op <;> simp
theorem run_eqGuard_bool (op : BinOp) (ty : TypeId) (x y : Operand) (a b : Bool) (w : World) : (eqGuard op ty x y (.bool a) (.bool b)).run P w = .ok () w := by
  unfold eqGuard; cases op <;> simp

theorem binV_ok {op : BinOp} {a b : Value} {p : Prop} {v : Value} (h : binV op a b = some (p, v)) (hp : p) (w : World) (ty : TypeId) (x y : Operand) :
    ((do eqGuard op ty x y a b; binOp op ty a b) : Sem Value).run P w = .ok v w := by
  unfold binV at h
  split at h
  · rename_i k a k' b
    simp only [Sem.run_bind, run_eqGuard_int, Result.andThen_ok]
    split at h
    · exact run_shift _ (.inl rfl) _ _ _ _ _ _ h hp w ty
    · exact run_shift _ (.inr rfl) _ _ _ _ _ _ h hp w ty
    · rename_i h1 h2
      split at h
      · rename_i e; subst e; exact run_intArith _ _ _ _ _ _ h hp w (fun e => h1 e) (fun e => h2 e) ty
      · simp at h
  · simp only [Sem.run_bind, run_eqGuard_str, Result.andThen_ok]
    exact run_strOp _ _ _ _ _ h hp w ty
  · simp at h

theorem unV_ok {op : UnOp} {a : Value} {p : Prop} {v : Value} (h : unV op a = some (p, v)) (w : World) : (Op.unary op a).run P w = .ok v w := by
  unfold unV at h
  split at h
  · split at h <;> simp at h <;> obtain ⟨_, rfl⟩ := h <;> simp [Op.unary, Op.intArith, Op.intBits, bits]
  · split at h <;> simp at h <;> obtain ⟨_, rfl⟩ := h <;> simp [Op.unary]
  · simp at h

theorem run_equalIn_bool {ty : TypeId} (ht : P.underlying ty = some .bool) (d : Nat) (a b : Bool) (w : World) : (Op.equalIn (d + 1) ty (.bool a) (.bool b)).run P w = .ok (a == b) w := by
  simp [Op.equalIn, run_underlying ht]

theorem run_equal_bool {ty : TypeId} (ht : P.underlying ty = some .bool) (a b : Bool) (w : World) : (Op.equal ty (.bool a) (.bool b)).run P w = .ok (a == b) w :=
  run_equalIn_bool ht 9999 a b w

theorem beq_ok {neg : Bool} {a b : Bool} {ty : TypeId} (ht : P.underlying ty = some .bool) (w : World) (x y : Operand) :
    ((do eqGuard (if neg then .neq else .eql) ty x y (.bool a) (.bool b); binOp (if neg then .neq else .eql) ty (.bool a) (.bool b)) : Sem Value).run P w = .ok (.bool (if neg then a != b else a == b)) w := by
  simp only [Sem.run_bind, run_eqGuard_bool, Result.andThen_ok]
  cases neg
  · simp only [Bool.false_eq_true, if_false, binOp, Sem.run_bind, run_equal_bool ht, Result.andThen_ok, Sem.run_pure]
  · simp only [if_true, binOp, Sem.run_bind, run_equal_bool ht, Result.andThen_ok, Sem.run_pure]; rfl

theorem equal_nil_ptr {ty e : TypeId} (ht : P.underlying ty = some (.pointer e)) (a : Option Addr) (w : World) : (Op.equal ty (.pointer a) (.pointer none)).run P w = .ok a.isNone w := by
  have key : ∀ d, (Op.equalIn (d + 1) ty (.pointer a) (.pointer none)).run P w = .ok a.isNone w := by
    intro d
    cases a <;> simp [Op.equalIn, run_underlying ht]
  exact key 9999

theorem equal_nil_slice {ty e : TypeId} (ht : P.underlying ty = some (.slice e)) (a : Option Addr) (n c n' c' : Nat) (w : World) : (Op.equal ty (.slice a n c) (.slice none n' c')).run P w = .ok a.isNone w := by
  have key : ∀ d, (Op.equalIn (d + 1) ty (.slice a n c) (.slice none n' c')).run P w = .ok a.isNone w := by
    intro d
    cases a <;> simp [Op.equalIn, run_underlying ht]
  exact key 9999

theorem isnil_ptr_ok {neg : Bool} {ty e : TypeId} (ht : P.underlying ty = some (.pointer e)) (a : Option Addr) (w : World) (x y : Operand) :
    ((do eqGuard (if neg then .neq else .eql) ty x y (.pointer a) (.pointer none); binOp (if neg then .neq else .eql) ty (.pointer a) (.pointer none)) : Sem Value).run P w = .ok (.bool (if neg then a.isSome else a.isNone)) w := by
  have hg : ∀ op, (eqGuard op ty x y (.pointer a) (.pointer none)).run P w = .ok () w := by intro op; unfold eqGuard; cases op <;> simp
  simp only [Sem.run_bind, hg, Result.andThen_ok]
  cases neg
  · simp only [Bool.false_eq_true, if_false, binOp, Sem.run_bind, equal_nil_ptr ht, Result.andThen_ok, Sem.run_pure]
  · simp only [if_true, binOp, Sem.run_bind, equal_nil_ptr ht, Result.andThen_ok, Sem.run_pure]; cases a <;> rfl

theorem isnil_slice_ok {neg : Bool} {ty e : TypeId} (ht : P.underlying ty = some (.slice e)) (a : Option Addr) (n c n' c' : Nat) (w : World) (x y : Operand) :
    ((do eqGuard (if neg then .neq else .eql) ty x y (.slice a n c) (.slice none n' c'); binOp (if neg then .neq else .eql) ty (.slice a n c) (.slice none n' c')) : Sem Value).run P w = .ok (.bool (if neg then a.isSome else a.isNone)) w := by
  have hg : ∀ op, (eqGuard op ty x y (.slice a n c) (.slice none n' c')).run P w = .ok () w := by intro op; unfold eqGuard; cases op <;> simp
  simp only [Sem.run_bind, hg, Result.andThen_ok]
  cases neg
  · simp only [Bool.false_eq_true, if_false, binOp, Sem.run_bind, equal_nil_slice ht, Result.andThen_ok, Sem.run_pure]
  · simp only [if_true, binOp, Sem.run_bind, equal_nil_slice ht, Result.andThen_ok, Sem.run_pure]; cases a <;> rfl

theorem equal_nil_iface {ty : TypeId} {ms : Array (String × TypeId)} (ht : P.underlying ty = some (.interface ms)) (t : TypeId) (v : Value) (w : World) : (Op.equal ty (.iface t v) .nilIface).run P w = .ok false w ∧ (Op.equal ty .nilIface .nilIface).run P w = .ok true w := by
  have h : ∀ d : Nat, (Op.equalIn (d + 1) ty (.iface t v) .nilIface).run P w = .ok false w ∧ (Op.equalIn (d + 1) ty .nilIface .nilIface).run P w = .ok true w := fun d => by
    constructor <;> simp [Op.equalIn, run_underlying ht]
  simpa [Op.equal, Op.maxDepth] using h 9999
def nilI : Value → Bool
  | .nilIface => true
  | _ => false
theorem isnil_iface_ok {neg : Bool} {ty : TypeId} {ms : Array (String × TypeId)} (ht : P.underlying ty = some (.interface ms)) (u : Value) (hu : (∃ t v, u = .iface t v) ∨ u = .nilIface) (w : World) (x : Operand) :
    ((do eqGuard (if neg then .neq else .eql) ty x (.const .nilIface) u .nilIface; binOp (if neg then .neq else .eql) ty u .nilIface) : Sem Value).run P w = .ok (.bool (if neg then !nilI u else nilI u)) w := by
  rcases hu with ⟨t, v, rfl⟩ | rfl
  · have hg : ∀ op, (eqGuard op ty x (.const .nilIface) (.iface t v) .nilIface).run P w = .ok () w := by intro op; unfold eqGuard; cases op <;> simp
    simp only [Sem.run_bind, hg, Result.andThen_ok]
    cases neg
    · simp only [Bool.false_eq_true, if_false, binOp, Sem.run_bind, (equal_nil_iface ht t v w).1, Result.andThen_ok, Sem.run_pure]; try rfl
    · simp only [if_true, binOp, Sem.run_bind, (equal_nil_iface ht t v w).1, Result.andThen_ok, Sem.run_pure]; try rfl
  · have hg : ∀ op, (eqGuard op ty x (.const .nilIface) .nilIface .nilIface).run P w = .ok () w := by intro op; unfold eqGuard; cases op <;> simp
    simp only [Sem.run_bind, hg, Result.andThen_ok]
    cases neg
    · simp only [Bool.false_eq_true, if_false, binOp, Sem.run_bind, (equal_nil_iface ht 0 undef w).2, Result.andThen_ok, Sem.run_pure]; try rfl
    · simp only [if_true, binOp, Sem.run_bind, (equal_nil_iface ht 0 undef w).2, Result.andThen_ok, Sem.run_pure]; try rfl

theorem leafEq_part {f : Field} {k : LK} (hu : (∃ i, k = .i ∧ P.underlying f.type = some (.int i)) ∨ (k = .s ∧ P.underlying f.type = some .string) ∨ (k = .b ∧ P.underlying f.type = some .bool)) (d : Nat) (xs ys : Array Value) {b : Bool}
    (h : leafEq k xs[f.offset]? ys[f.offset]? = some b) (w : World) : ∃ x y, (part f.type xs f.offset).run P w = .ok x w ∧ (part f.type ys f.offset).run P w = .ok y w ∧ (Op.equalIn (d + 1) f.type x y).run P w = .ok b w := by
  have hpart : ∀ (cs : Array Value) v, cs[f.offset]? = some v → (part f.type cs f.offset).run P w = .ok v w := by
    intro cs v hv
    rcases hu with ⟨i, _, h⟩ | ⟨_, h⟩ | ⟨_, h⟩ <;> simp [part, isAgg, run_underlying h, hv]
  rcases hu with ⟨i, rfl, hu⟩ | ⟨rfl, hu⟩ | ⟨rfl, hu⟩
  · unfold leafEq at h
    split at h
    · rename_i k1 a1 k2 a2 _ e2 e3
      split at h
      · rename_i hk
        simp only [Option.some.injEq] at h; subst h; subst hk
        refine ⟨_, _, hpart _ _ e2, hpart _ _ e3, ?_⟩
        rw [run_equalIn_int w d f.type _ i _ _ hu]
        congr 1
      · cases h
    all_goals simp_all
  · unfold leafEq at h
    split at h
    · simp_all
    · rename_i a1 a2 _ e2 e3
      simp only [Option.some.injEq] at h; subst h
      refine ⟨_, _, hpart _ _ e2, hpart _ _ e3, ?_⟩
      rw [run_equalIn_string w d f.type _ _ hu]
      simp [ByteArray.toList_eq, data_beq]
    all_goals simp_all
  · unfold leafEq at h
    split at h
    · simp_all
    · simp_all
    · rename_i a1 a2 _ e2 e3
      simp only [Option.some.injEq] at h; subst h
      refine ⟨_, _, hpart _ _ e2, hpart _ _ e3, ?_⟩
      exact Go.run_equalIn_bool w d f.type _ _ hu
    · cases h

theorem eqFields_ok (d : Nat) (xs ys : Array Value) : ∀ {fs : List Field} {ks : List (Nat × LK)} {b : Bool}, leafKinds P fs = some ks → stEq xs ys ks = some b → ∀ w : World, (Op.eqFields (d + 1) xs ys fs).run P w = .ok b w
  | [], ks, b, hk, h, w => by
    simp [leafKinds] at hk; subst hk
    simp [stEq] at h; subst h
    simp [Op.eqFields]
  | f :: fs, ks, b, hk, h, w => by
    simp only [leafKinds] at hk
    split at hk
    · cases hk
    rename_i hn
    split at hk
    · cases hk
    rename_i ks' hks
    have key : ∀ k, ks = (f.offset, k) :: ks' → ((∃ i, k = .i ∧ P.underlying f.type = some (.int i)) ∨ (k = .s ∧ P.underlying f.type = some .string) ∨ (k = .b ∧ P.underlying f.type = some .bool)) →
        (Op.eqFields (d + 1) xs ys (f :: fs)).run P w = .ok b w := by
      intro k e hu
      subst e
      simp only [stEq] at h
      cases h1 : leafEq k xs[f.offset]? ys[f.offset]? with
      | none => rw [h1] at h; simp [andB] at h
      | some b1 =>
        cases h2 : stEq xs ys ks' with
        | none => rw [h1, h2] at h; simp [andB] at h
        | some b2 =>
          rw [h1, h2] at h
          simp [andB] at h
          obtain ⟨x, y, e1, e2, e3⟩ := leafEq_part hu d xs ys h1 w
          have ih := eqFields_ok d xs ys hks h2 w
          simp only [Op.eqFields, ne_eq, hn, not_false_eq_true, if_true, Sem.run_bind, e1, e2, e3, Result.andThen_ok]
          cases b1
          · simp at h; subst h; simp
          · simp at h; subst h; simpa using ih
    split at hk
    · rename_i i hu; simp at hk; exact key .i hk.symm (.inl ⟨i, rfl, hu⟩)
    · rename_i hu; simp at hk; exact key .s hk.symm (.inr (.inl ⟨rfl, hu⟩))
    · rename_i hu; simp at hk; exact key .b hk.symm (.inr (.inr ⟨rfl, hu⟩))
    · cases hk

theorem steq_ok {neg : Bool} {ty : TypeId} {fields : Array Field} {ks : List (Nat × LK)} (ht : P.underlying ty = some (.struct fields)) (hs : steqOf P ty fields.toList = some ks) {xs ys : Array Value} {b : Bool}
    (h : stEq xs ys ks = some b) (w : World) (x y : Operand) :
    ((do eqGuard (if neg then .neq else .eql) ty x y (.agg xs) (.agg ys); binOp (if neg then .neq else .eql) ty (.agg xs) (.agg ys)) : Sem Value).run P w = .ok (.bool (if neg then !b else b)) w := by
  unfold steqOf at hs
  split at hs
  case isFalse => cases hs
  rename_i hc
  have hf : P.fieldsOf ty = fields := by simp [Program.fieldsOf, ht]
  have hg := fun op => run_eqGuard_agg (P := P) w op ty x y xs ys hc.2
  have he : (Op.equalIn 10000 ty (.agg xs) (.agg ys)).run P w = .ok b w := by
    rw [show (10000 : Nat) = 9998 + 1 + 1 from rfl, run_equalIn_struct w _ ty xs ys (by rw [hf]; exact ht) hc.1, hf]
    exact eqFields_ok 9998 xs ys hs h w
  cases neg
  · simp only [Bool.false_eq_true, if_false, Sem.run_bind, hg, Result.andThen_ok, run_eql_struct, he]
  · simp only [if_true, Sem.run_bind, hg, Result.andThen_ok, run_neq_struct, he]

theorem run_info {t : TypeId} {i : TypeInfo} (h : P.info? t = some i) (w : World) : (typeInfo t).run P w = .ok i w := by
  simp [typeInfo, h]

theorem run_size {t : TypeId} {s : Nat} (h : sizeOfB P t = some s) (w : World) : (Go.sizeOf t).run P w = .ok s w := by
  simp only [sizeOfB, Option.map_eq_some_iff] at h
  obtain ⟨i, hi, rfl⟩ := h
  simp [Go.sizeOf, run_info hi]

theorem run_isAgg {t : TypeId} {b : Bool} (h : isAggB P t = some b) (w : World) : (isAgg t).run P w = .ok b w := by
  unfold isAggB at h
  split at h
  · rename_i hu; simp at h; subst h; simp [isAgg, run_underlying hu]
  · rename_i hu; simp at h; subst h; simp [isAgg, run_underlying hu]
  · rename_i d h1 h2 hu
    simp at h; subst h
    simp only [isAgg, Sem.run_bind, run_underlying hu, Result.andThen_ok]
    rfl
  · simp at h


theorem pickN_ok {c a b : Option Value} {p : Prop} {v : Value} (h : pickN c a b = some (p, v)) :
    ∃ t, c = some (.bool t) ∧ (t = true → ∃ x, a = some x ∧ v = x) ∧ (t = false → ∃ x, b = some x ∧ v = x) := by
  unfold pickN at h
  split at h
  · rename_i c a b
    simp at h; obtain ⟨_, rfl⟩ := h
    exact ⟨c, rfl, fun e => ⟨_, rfl, by simp [e]⟩, fun e => ⟨_, rfl, by simp [e]⟩⟩
  · rename_i a _ _
    simp at h; obtain ⟨_, rfl⟩ := h
    exact ⟨true, rfl, fun _ => ⟨_, rfl, rfl⟩, fun e => by cases e⟩
  · rename_i a _ _
    simp at h; obtain ⟨_, rfl⟩ := h
    exact ⟨false, rfl, fun e => (by cases e), fun _ => ⟨_, rfl, rfl⟩⟩
  · simp at h

theorem run_sliceBound_ok (k : IntKind) (i : Int) (y : Nat) (code : BoundsCode) (h0 : 0 ≤ i) (h1 : i ≤ y) (w : World) :
    (Instr.sliceBound (.int k i) y code).run P w = .ok i.toNat w := by
  simp [Instr.sliceBound, asIntOf, h0, h1]

theorem bnd_none {ev : Operand → Option Value} {x : Option Operand} (h : bnd ev x = some none) : x = none := by
  cases x with
  | none => rfl
  | some y => simp only [bnd] at h; split at h <;> simp at h
theorem bnd_some {ev : Operand → Option Value} {x : Option Operand} {n : Int} (h : bnd ev x = some (some n)) : ∃ y k, x = some y ∧ ev y = some (.int k n) := by
  cases x with
  | none => simp [bnd] at h
  | some y =>
    simp only [bnd] at h
    split at h
    · rename_i k m he; simp at h; subst h; exact ⟨y, k, rfl, he⟩
    · simp at h

theorem run_slice_ok {t e : TypeId} {s : Nat} (ht : P.underlying t = some (.slice e)) (hs : sizeOfB P e = some s) {ev : Operand → Option Value} {a : Act} (hf : Agree ev a)
    {lo hi : Option Operand} {ad : Option Addr} {len cap : Nat} {l h : Option Int} (hl : bnd ev lo = some l) (hh : bnd ev hi = some h) {p : Prop} {v : Value} (hv : slV s ad len cap l h = (p, v)) (hp : p) (w : World) :
    (Instr.sliceAt t (.slice ad len cap) (lo.map a.eval) (hi.map a.eval) none).run P w = .ok v w := by
  have hsz := fun w => run_size hs w
  simp only [Instr.sliceAt, Sem.run_bind, run_underlying ht, Result.andThen_ok, Instr.slice]
  cases l with
  | none =>
    cases bnd_none hl
    cases h with
    | none =>
      cases bnd_none hh
      simp only [slV, Prod.mk.injEq] at hv; obtain ⟨_, rfl⟩ := hv
      simp [Instr.sliceBounds, hsz]
      intro _; cases ad <;> simp [Addr.add]
    | some h =>
      obtain ⟨y, k, rfl, he⟩ := bnd_some hh
      simp only [slV, Prod.mk.injEq] at hv; obtain ⟨rfl, rfl⟩ := hv
      simp only [Option.map_some, Option.map_none, hf.ev he, Instr.sliceBounds, Sem.run_bind, Sem.run_pure, Result.andThen_ok, run_sliceBound_ok k h cap _ hp.1 hp.2, hsz]
      simp
      intro h; cases ad <;> simp [Addr.add]
  | some l =>
    obtain ⟨y, k, rfl, he⟩ := bnd_some hl
    cases h with
    | none =>
      cases bnd_none hh
      simp only [slV, Prod.mk.injEq] at hv; obtain ⟨rfl, rfl⟩ := hv
      simp only [Option.map_some, Option.map_none, hf.ev he, Instr.sliceBounds, Sem.run_bind, Sem.run_pure, Result.andThen_ok, Option.isSome_none, Bool.false_eq_true, if_false, run_sliceBound_ok k l len _ hp.1 hp.2, hsz]
    | some h =>
      obtain ⟨y', k', rfl, he'⟩ := bnd_some hh
      simp only [slV, Prod.mk.injEq] at hv; obtain ⟨rfl, rfl⟩ := hv
      have h2 : l ≤ (h.toNat : Int) := by omega
      simp only [Option.map_some, hf.ev he, hf.ev he', Instr.sliceBounds, Sem.run_bind, Sem.run_pure, Result.andThen_ok, Option.isSome_none, Bool.false_eq_true, if_false,
        run_sliceBound_ok k' h cap _ hp.1.1 hp.1.2, run_sliceBound_ok k l h.toNat _ hp.2.1 h2, hsz]

theorem run_sslice_ok {t : TypeId} (ht : P.underlying t = some .string) {ev : Operand → Option Value} {a : Act} (hf : Agree ev a)
    {lo hi : Option Operand} {x : ByteArray} {l h : Option Int} (hl : bnd ev lo = some l) (hh : bnd ev hi = some h) {p : Prop} {v : Value} (hv : sslV x l h = (p, v)) (hp : p) (w : World) :
    (Instr.sliceAt t (.string x) (lo.map a.eval) (hi.map a.eval) none).run P w = .ok v w := by
  simp only [Instr.sliceAt, Sem.run_bind, run_underlying ht, Result.andThen_ok, Instr.slice]
  cases l with
  | none =>
    cases bnd_none hl
    cases h with
    | none =>
      cases bnd_none hh
      simp only [sslV, Prod.mk.injEq] at hv; obtain ⟨_, rfl⟩ := hv
      simp [Instr.sliceBounds]
    | some h =>
      obtain ⟨y, k, rfl, he⟩ := bnd_some hh
      simp only [sslV, Prod.mk.injEq] at hv; obtain ⟨rfl, rfl⟩ := hv
      simp [hf.ev he, Instr.sliceBounds, run_sliceBound_ok k h x.size _ hp.1 hp.2]
  | some l =>
    obtain ⟨y, k, rfl, he⟩ := bnd_some hl
    cases h with
    | none =>
      cases bnd_none hh
      simp only [sslV, Prod.mk.injEq] at hv; obtain ⟨rfl, rfl⟩ := hv
      simp [hf.ev he, Instr.sliceBounds, run_sliceBound_ok k l x.size _ hp.1 hp.2]
    | some h =>
      obtain ⟨y', k', rfl, he'⟩ := bnd_some hh
      simp only [sslV, Prod.mk.injEq] at hv; obtain ⟨rfl, rfl⟩ := hv
      have h2 : l ≤ (h.toNat : Int) := by omega
      simp [hf.ev he, hf.ev he', Instr.sliceBounds, run_sliceBound_ok k' h x.size _ hp.1.1 hp.1.2, run_sliceBound_ok k l h.toNat _ hp.2.1 h2]

end
end Gx
