import Derived.Test.YtdhlibkdcldioaaGreatB1
import Derived.Laws.StructEq
section
namespace Gx
open Go
section
variable {P:Program}
theorem mvN_some {x:Option Value} {p:Prop} {v:Value} (h:mvN x=some (p,v)):x=some v:=by
 cases x <;> simp [mvN] at h; simp [h.2]
theorem run_intArith (op:BinOp) (k:IntKind) (a b:Int) (p:Prop) (v:Value) (h:intV op k a b=some (p,v)) (hp:p) (w:World)
 (hns:op≠.shl) (hns':op≠.shr) (ty:TypeId):(binOp op ty (.int k a) (.int k b)).run P w= .ok v w:=by
 cases op <;> simp only [intV,Option.some.injEq,Prod.mk.injEq] at h hns hns' <;> (try exact absurd rfl hns) <;> (try exact absurd rfl hns') <;> obtain ⟨rfl,rfl⟩:=h <;>
  simp [binOp,Op.intArith,Op.intDiv,Op.intBits,Op.intCmp,BEq.beq,bne,bits]
 all_goals (intro h0; exact absurd h0 hp)
theorem shrI_nat {k:IntKind} (a b:Nat) (h:b≤k.bits):shrI k a b=((a / 2 ^ b:Nat):Int):=by
 have hm:min b k.bits=b:=by omega
 have hp:(0:Int)≤2 ^ b:=Int.pow_nonneg (by decide)
 simp only [shrI,Int.toNat_natCast,hm,Int.fdiv_eq_ediv_of_nonneg _ hp]
 simp
theorem shlI_eq {k:IntKind} (a:Int) (b:Nat) (h:b≤k.bits):shlI k a b=k.wrap (a * 2 ^ b):=by
 have hm:min b k.bits=b:=by omega
 simp only [shlI,Int.toNat_natCast,hm]
theorem run_shift (op:BinOp) (hop:op= .shl∨op= .shr) (k k':IntKind) (a b:Int) (p:Prop) (v:Value) (h:intV op k a b=some (p,v)) (hp:p) (w:World) (ty:TypeId) :
 (binOp op ty (.int k a) (.int k' b)).run P w= .ok v w:=by
 rcases hop with rfl | rfl <;> simp only [intV,Option.some.injEq,Prod.mk.injEq] at h <;> obtain ⟨rfl,rfl⟩:=h <;>
  simp [binOp,Op.shift,show ¬ b < 0 by omega,shlI,shrI]
theorem data_beq (a b:ByteArray):(a.data == b.data)=decide (a=b):=by
 rw [Bool.eq_iff_iff]
 simp only [beq_iff_eq,decide_eq_true_eq]
 constructor
 ·intro h
  cases a; cases b
  simpa using h
 ·rintro rfl; rfl
theorem run_strOp (op:BinOp) (a b:ByteArray) (p:Prop) (v:Value) (h:strV op a b=some (p,v)) (hp:p) (w:World) (ty:TypeId) :
 (binOp op ty (.string a) (.string b)).run P w= .ok v w:=by
 cases op <;> simp only [strV,Option.some.injEq,Prod.mk.injEq,reduceCtorEq] at h <;> obtain ⟨rfl,rfl⟩:=h
 case add=>
  have h0:¬ (((a.size + b.size:Nat):Int) > IntKind.i64.max):=by
   have:IntKind.i64.max=9223372036854775807:=by decide
   rw [this]; omega
  simp only [binOp,Op.stringOp,if_neg h0,Sem.run_pure]
 all_goals simp [binOp,Op.stringOp,ByteArray.toList_eq,data_beq]
theorem run_eqGuard_int (op:BinOp) (ty:TypeId) (x y:Operand) (k k':IntKind) (a b:Int) (w:World):(eqGuard op ty x y (.int k a) (.int k' b)).run P w= .ok () w:=by
 unfold eqGuard; cases op <;> simp
theorem run_eqGuard_str (op:BinOp) (ty:TypeId) (x y:Operand) (a b:ByteArray) (w:World):(eqGuard op ty x y (.string a) (.string b)).run P w= .ok () w:=by
 unfold eqGuard; cases op <;> simp
theorem run_eqGuard_bool (op:BinOp) (ty:TypeId) (x y:Operand) (a b:Bool) (w:World):(eqGuard op ty x y (.bool a) (.bool b)).run P w= .ok () w:=by
 unfold eqGuard; cases op <;> simp
theorem binV_ok {op:BinOp} {a b:Value} {p:Prop} {v:Value} (h:binV op a b=some (p,v)) (hp:p) (w:World) (ty:TypeId) (x y:Operand) :
 ((do eqGuard op ty x y a b; binOp op ty a b):Sem Value).run P w= .ok v w:=by
 unfold binV at h
 split at h
 ·rename_i k a k' b
  simp only [Sem.run_bind,run_eqGuard_int,Result.andThen_ok]
  split at h
  ·exact run_shift _ (.inl rfl) _ _ _ _ _ _ h hp w ty
  ·exact run_shift _ (.inr rfl) _ _ _ _ _ _ h hp w ty
  ·rename_i h1 h2
   split at h
   ·rename_i e; subst e; exact run_intArith _ _ _ _ _ _ h hp w (fun e=>h1 e) (fun e=>h2 e) ty
   ·simp at h
 ·simp only [Sem.run_bind,run_eqGuard_str,Result.andThen_ok]
  exact run_strOp _ _ _ _ _ h hp w ty
 ·simp at h
theorem unV_ok {op:UnOp} {a:Value} {p:Prop} {v:Value} (h:unV op a=some (p,v)) (w:World):(Op.unary op a).run P w= .ok v w:=by
 unfold unV at h
 split at h
 ·split at h <;> simp at h <;> obtain ⟨_,rfl⟩:=h <;> simp [Op.unary,Op.intArith,Op.intBits,bits]
 ·split at h <;> simp at h <;> obtain ⟨_,rfl⟩:=h <;> simp [Op.unary]
 ·simp at h
theorem run_equalIn_bool {ty:TypeId} (ht:P.underlying ty=some .bool) (d:Nat) (a b:Bool) (w:World):(Op.equalIn (d + 1) ty (.bool a) (.bool b)).run P w= .ok (a == b) w:=by
 simp [Op.equalIn,run_underlying ht]
theorem run_equal_bool {ty:TypeId} (ht:P.underlying ty=some .bool) (a b:Bool) (w:World):(Op.equal ty (.bool a) (.bool b)).run P w= .ok (a == b) w:=
 run_equalIn_bool ht 9999 a b w
theorem beq_ok {neg:Bool} {a b:Bool} {ty:TypeId} (ht:P.underlying ty=some .bool) (w:World) (x y:Operand) :
 ((do eqGuard (if neg then .neq else .eql) ty x y (.bool a) (.bool b); binOp (if neg then .neq else .eql) ty (.bool a) (.bool b)):Sem Value).run P w= .ok (.bool (if neg then a != b else a == b)) w:=by
 simp only [Sem.run_bind,run_eqGuard_bool,Result.andThen_ok]
 cases neg
 ·simp only [Bool.false_eq_true,if_false,binOp,Sem.run_bind,run_equal_bool ht,Result.andThen_ok,Sem.run_pure]
 ·simp only [if_true,binOp,Sem.run_bind,run_equal_bool ht,Result.andThen_ok,Sem.run_pure]; rfl
theorem equal_nil_ptr {ty e:TypeId} (ht:P.underlying ty=some (.pointer e)) (a:Option Addr) (w:World):(Op.equal ty (.pointer a) (.pointer none)).run P w= .ok a.isNone w:=by
 have key:∀ d,(Op.equalIn (d + 1) ty (.pointer a) (.pointer none)).run P w= .ok a.isNone w:=by
  intro d
  cases a <;> simp [Op.equalIn,run_underlying ht]
 exact key 9999
theorem equal_nil_slice {ty e:TypeId} (ht:P.underlying ty=some (.slice e)) (a:Option Addr) (n c n' c':Nat) (w:World):(Op.equal ty (.slice a n c) (.slice none n' c')).run P w= .ok a.isNone w:=by
 have key:∀ d,(Op.equalIn (d + 1) ty (.slice a n c) (.slice none n' c')).run P w= .ok a.isNone w:=by
  intro d
  cases a <;> simp [Op.equalIn,run_underlying ht]
 exact key 9999
theorem isnil_ptr_ok {neg:Bool} {ty e:TypeId} (ht:P.underlying ty=some (.pointer e)) (a:Option Addr) (w:World) (x y:Operand) :
 ((do eqGuard (if neg then .neq else .eql) ty x y (.pointer a) (.pointer none); binOp (if neg then .neq else .eql) ty (.pointer a) (.pointer none)):Sem Value).run P w= .ok (.bool (if neg then a.isSome else a.isNone)) w:=by
 have hg:∀ op,(eqGuard op ty x y (.pointer a) (.pointer none)).run P w= .ok () w:=by intro op; unfold eqGuard; cases op <;> simp
 simp only [Sem.run_bind,hg,Result.andThen_ok]
 cases neg
 ·simp only [Bool.false_eq_true,if_false,binOp,Sem.run_bind,equal_nil_ptr ht,Result.andThen_ok,Sem.run_pure]
 ·simp only [if_true,binOp,Sem.run_bind,equal_nil_ptr ht,Result.andThen_ok,Sem.run_pure]; cases a <;> rfl
theorem isnil_slice_ok {neg:Bool} {ty e:TypeId} (ht:P.underlying ty=some (.slice e)) (a:Option Addr) (n c n' c':Nat) (w:World) (x y:Operand) :
 ((do eqGuard (if neg then .neq else .eql) ty x y (.slice a n c) (.slice none n' c'); binOp (if neg then .neq else .eql) ty (.slice a n c) (.slice none n' c')):Sem Value).run P w= .ok (.bool (if neg then a.isSome else a.isNone)) w:=by
 have hg:∀ op,(eqGuard op ty x y (.slice a n c) (.slice none n' c')).run P w= .ok () w:=by intro op; unfold eqGuard; cases op <;> simp
 simp only [Sem.run_bind,hg,Result.andThen_ok]
 cases neg
 ·simp only [Bool.false_eq_true,if_false,binOp,Sem.run_bind,equal_nil_slice ht,Result.andThen_ok,Sem.run_pure]
 ·simp only [if_true,binOp,Sem.run_bind,equal_nil_slice ht,Result.andThen_ok,Sem.run_pure]; cases a <;> rfl
theorem equal_nil_iface {ty:TypeId} {ms:Array (String × TypeId)} (ht:P.underlying ty=some (.interface ms)) (t:TypeId) (v:Value) (w:World):(Op.equal ty (.iface t v) .nilIface).run P w= .ok false w∧(Op.equal ty .nilIface .nilIface).run P w= .ok true w:=by
 have h:∀ d:Nat,(Op.equalIn (d + 1) ty (.iface t v) .nilIface).run P w= .ok false w∧(Op.equalIn (d + 1) ty .nilIface .nilIface).run P w= .ok true w:=fun d=>by
  constructor <;> simp [Op.equalIn,run_underlying ht]
 simpa [Op.equal,Op.maxDepth] using h 9999
def nilI:Value→Bool
 | .nilIface=>true
 | _=>false
theorem isnil_iface_ok {neg:Bool} {ty:TypeId} {ms:Array (String × TypeId)} (ht:P.underlying ty=some (.interface ms)) (u:Value) (hu:(∃ t v,u= .iface t v)∨u= .nilIface) (w:World) (x:Operand) :
 ((do eqGuard (if neg then .neq else .eql) ty x (.const .nilIface) u .nilIface; binOp (if neg then .neq else .eql) ty u .nilIface):Sem Value).run P w= .ok (.bool (if neg then !nilI u else nilI u)) w:=by
 rcases hu with ⟨t,v,rfl⟩ | rfl
 ·have hg:∀ op,(eqGuard op ty x (.const .nilIface) (.iface t v) .nilIface).run P w= .ok () w:=by intro op; unfold eqGuard; cases op <;> simp
  simp only [Sem.run_bind,hg,Result.andThen_ok]
  cases neg
  ·simp only [Bool.false_eq_true,if_false,binOp,Sem.run_bind,(equal_nil_iface ht t v w).1,Result.andThen_ok,Sem.run_pure]; try rfl
  ·simp only [if_true,binOp,Sem.run_bind,(equal_nil_iface ht t v w).1,Result.andThen_ok,Sem.run_pure]; try rfl
 ·have hg:∀ op,(eqGuard op ty x (.const .nilIface) .nilIface .nilIface).run P w= .ok () w:=by intro op; unfold eqGuard; cases op <;> simp
  simp only [Sem.run_bind,hg,Result.andThen_ok]
  cases neg
  ·simp only [Bool.false_eq_true,if_false,binOp,Sem.run_bind,(equal_nil_iface ht 0 undef w).2,Result.andThen_ok,Sem.run_pure]; try rfl
  ·simp only [if_true,binOp,Sem.run_bind,(equal_nil_iface ht 0 undef w).2,Result.andThen_ok,Sem.run_pure]; try rfl
theorem leafEq_part {f:Field} {k:LK} (hu:(∃ i,k= .i∧P.underlying f.type=some (.int i))∨(k= .s∧P.underlying f.type=some .string)∨(k= .b∧P.underlying f.type=some .bool)) (d:Nat) (xs ys:Array Value) {b:Bool}
 (h:leafEq k xs[f.offset]? ys[f.offset]?=some b) (w:World):∃ x y,(part f.type xs f.offset).run P w= .ok x w∧(part f.type ys f.offset).run P w= .ok y w∧(Op.equalIn (d + 1) f.type x y).run P w= .ok b w:=by
 have hpart:∀ (cs:Array Value) v,cs[f.offset]?=some v→(part f.type cs f.offset).run P w= .ok v w:=by
  intro cs v hv
  rcases hu with ⟨i,_,h⟩ | ⟨_,h⟩ | ⟨_,h⟩ <;> simp [part,isAgg,run_underlying h,hv]
 rcases hu with ⟨i,rfl,hu⟩ | ⟨rfl,hu⟩ | ⟨rfl,hu⟩
 ·unfold leafEq at h
  split at h
  ·rename_i k1 a1 k2 a2 _ e2 e3
   split at h
   ·rename_i hk
    simp only [Option.some.injEq] at h; subst h; subst hk
    refine ⟨_,_,hpart _ _ e2,hpart _ _ e3,?_⟩
    rw [run_equalIn_int w d f.type _ i _ _ hu]
    congr 1
   ·cases h
  all_goals simp_all
 ·unfold leafEq at h
  split at h
  ·simp_all
  ·rename_i a1 a2 _ e2 e3
   simp only [Option.some.injEq] at h; subst h
   refine ⟨_,_,hpart _ _ e2,hpart _ _ e3,?_⟩
   rw [run_equalIn_string w d f.type _ _ hu]
   simp [ByteArray.toList_eq,data_beq]
  all_goals simp_all
 ·unfold leafEq at h
  split at h
  ·simp_all
  ·simp_all
  ·rename_i a1 a2 _ e2 e3
   simp only [Option.some.injEq] at h; subst h
   refine ⟨_,_,hpart _ _ e2,hpart _ _ e3,?_⟩
   exact Go.run_equalIn_bool w d f.type _ _ hu
  ·cases h
theorem eqFields_ok (d:Nat) (xs ys:Array Value):∀ {fs:List Field} {ks:List (Nat × LK)} {b:Bool},leafKinds P fs=some ks→stEq xs ys ks=some b→∀ w:World,(Op.eqFields (d + 1) xs ys fs).run P w= .ok b w
 | [],ks,b,hk,h,w=>by
   simp [leafKinds] at hk; subst hk
   simp [stEq] at h; subst h
   simp [Op.eqFields]
 | f :: fs,ks,b,hk,h,w=>by
   simp only [leafKinds] at hk
   split at hk
   ·cases hk
   rename_i hn
   split at hk
   ·cases hk
   rename_i ks' hks
   have key:∀ k,ks=(f.offset,k) :: ks'→((∃ i,k= .i∧P.underlying f.type=some (.int i))∨(k= .s∧P.underlying f.type=some .string)∨(k= .b∧P.underlying f.type=some .bool))→
    (Op.eqFields (d + 1) xs ys (f :: fs)).run P w= .ok b w:=by
    intro k e hu
    subst e
    simp only [stEq] at h
    cases h1:leafEq k xs[f.offset]? ys[f.offset]? with
    | none=>rw [h1] at h; simp [andB] at h
    | some b1=>
      cases h2:stEq xs ys ks' with
      | none=>rw [h1,h2] at h; simp [andB] at h
      | some b2=>
        rw [h1,h2] at h
        simp [andB] at h
        obtain ⟨x,y,e1,e2,e3⟩:=leafEq_part hu d xs ys h1 w
        have ih:=eqFields_ok d xs ys hks h2 w
        simp only [Op.eqFields,ne_eq,hn,not_false_eq_true,if_true,Sem.run_bind,e1,e2,e3,Result.andThen_ok]
        cases b1
        ·simp at h; subst h; simp
        ·simp at h; subst h; simpa using ih
   split at hk
   ·rename_i i hu; simp at hk; exact key .i hk.symm (.inl ⟨i,rfl,hu⟩)
   ·rename_i hu; simp at hk; exact key .s hk.symm (.inr (.inl ⟨rfl,hu⟩))
   ·rename_i hu; simp at hk; exact key .b hk.symm (.inr (.inr ⟨rfl,hu⟩))
   ·cases hk
theorem steq_ok {neg:Bool} {ty:TypeId} {fields:Array Field} {ks:List (Nat × LK)} (ht:P.underlying ty=some (.struct fields)) (hs:steqOf P ty fields.toList=some ks) {xs ys:Array Value} {b:Bool}
 (h:stEq xs ys ks=some b) (w:World) (x y:Operand) :
 ((do eqGuard (if neg then .neq else .eql) ty x y (.agg xs) (.agg ys); binOp (if neg then .neq else .eql) ty (.agg xs) (.agg ys)):Sem Value).run P w= .ok (.bool (if neg then !b else b)) w:=by
 unfold steqOf at hs
 split at hs
 case isFalse=>cases hs
 rename_i hc
 have hf:P.fieldsOf ty=fields:=by simp [Program.fieldsOf,ht]
 have hg:=fun op=>run_eqGuard_agg (P:=P) w op ty x y xs ys hc.2
 have he:(Op.equalIn 10000 ty (.agg xs) (.agg ys)).run P w= .ok b w:=by
  rw [show (10000:Nat)=9998 + 1 + 1 from rfl,run_equalIn_struct w _ ty xs ys (by rw [hf]; exact ht) hc.1,hf]
  exact eqFields_ok 9998 xs ys hs h w
 cases neg
 ·simp only [Bool.false_eq_true,if_false,Sem.run_bind,hg,Result.andThen_ok,run_eql_struct,he]
 ·simp only [if_true,Sem.run_bind,hg,Result.andThen_ok,run_neq_struct,he]
theorem run_info {t:TypeId} {i:TypeInfo} (h:P.info? t=some i) (w:World):(typeInfo t).run P w= .ok i w:=by
 simp [typeInfo,h]
theorem run_size {t:TypeId} {s:Nat} (h:sizeOfB P t=some s) (w:World):(Go.sizeOf t).run P w= .ok s w:=by
 simp only [sizeOfB,Option.map_eq_some_iff] at h
 obtain ⟨i,hi,rfl⟩:=h
 simp [Go.sizeOf,run_info hi]
theorem run_isAgg {t:TypeId} {b:Bool} (h:isAggB P t=some b) (w:World):(isAgg t).run P w= .ok b w:=by
 unfold isAggB at h
 split at h
 ·rename_i hu; simp at h; subst h; simp [isAgg,run_underlying hu]
 ·rename_i hu; simp at h; subst h; simp [isAgg,run_underlying hu]
 ·rename_i d h1 h2 hu
  simp at h; subst h
  simp only [isAgg,Sem.run_bind,run_underlying hu,Result.andThen_ok]
  rfl
 ·simp at h
theorem pickN_ok {c a b:Option Value} {p:Prop} {v:Value} (h:pickN c a b=some (p,v)) :
 ∃ t,c=some (.bool t)∧(t=true→∃ x,a=some x∧v=x)∧(t=false→∃ x,b=some x∧v=x):=by
 unfold pickN at h
 split at h
 ·rename_i c a b
  simp at h; obtain ⟨_,rfl⟩:=h
  exact ⟨c,rfl,fun e=>⟨_,rfl,by simp [e]⟩,fun e=>⟨_,rfl,by simp [e]⟩⟩
 ·rename_i a _ _
  simp at h; obtain ⟨_,rfl⟩:=h
  exact ⟨true,rfl,fun _=>⟨_,rfl,rfl⟩,fun e=>by cases e⟩
 ·rename_i a _ _
  simp at h; obtain ⟨_,rfl⟩:=h
  exact ⟨false,rfl,fun e=>(by cases e),fun _=>⟨_,rfl,rfl⟩⟩
 ·simp at h
theorem run_sliceBound_ok (k:IntKind) (i:Int) (y:Nat) (code:BoundsCode) (h0:0≤i) (h1:i≤y) (w:World) :
 (Instr.sliceBound (.int k i) y code).run P w= .ok i.toNat w:=by
 simp [Instr.sliceBound,asIntOf,h0,h1]
theorem bnd_none {ev:Operand→Option Value} {x:Option Operand} (h:bnd ev x=some none):x=none:=by
 cases x with
 | none=>rfl
 | some y=>simp only [bnd] at h; split at h <;> simp at h
theorem bnd_some {ev:Operand→Option Value} {x:Option Operand} {n:Int} (h:bnd ev x=some (some n)):∃ y k,x=some y∧ev y=some (.int k n):=by
 cases x with
 | none=>simp [bnd] at h
 | some y=>
   simp only [bnd] at h
   split at h
   ·rename_i k m he; simp at h; subst h; exact ⟨y,k,rfl,he⟩
   ·simp at h
theorem run_slice_ok {t e:TypeId} {s:Nat} (ht:P.underlying t=some (.slice e)) (hs:sizeOfB P e=some s) {ev:Operand→Option Value} {a:Act} (hf:Agree ev a)
 {lo hi:Option Operand} {ad:Option Addr} {len cap:Nat} {l h:Option Int} (hl:bnd ev lo=some l) (hh:bnd ev hi=some h) {p:Prop} {v:Value} (hv:slV s ad len cap l h=(p,v)) (hp:p) (w:World) :
 (Instr.sliceAt t (.slice ad len cap) (lo.map a.eval) (hi.map a.eval) none).run P w= .ok v w:=by
 have hsz:=fun w=>run_size hs w
 simp only [Instr.sliceAt,Sem.run_bind,run_underlying ht,Result.andThen_ok,Instr.slice]
 cases l with
 | none=>
   cases bnd_none hl
   cases h with
   | none=>
     cases bnd_none hh
     simp only [slV,Prod.mk.injEq] at hv; obtain ⟨_,rfl⟩:=hv
     simp [Instr.sliceBounds,hsz]
     intro _; cases ad <;> simp [Addr.add]
   | some h=>
     obtain ⟨y,k,rfl,he⟩:=bnd_some hh
     simp only [slV,Prod.mk.injEq] at hv; obtain ⟨rfl,rfl⟩:=hv
     simp only [Option.map_some,Option.map_none,hf.ev he,Instr.sliceBounds,Sem.run_bind,Sem.run_pure,Result.andThen_ok,run_sliceBound_ok k h cap _ hp.1 hp.2,hsz]
     simp
     intro h; cases ad <;> simp [Addr.add]
 | some l=>
   obtain ⟨y,k,rfl,he⟩:=bnd_some hl
   cases h with
   | none=>
     cases bnd_none hh
     simp only [slV,Prod.mk.injEq] at hv; obtain ⟨rfl,rfl⟩:=hv
     simp only [Option.map_some,Option.map_none,hf.ev he,Instr.sliceBounds,Sem.run_bind,Sem.run_pure,Result.andThen_ok,Option.isSome_none,Bool.false_eq_true,if_false,run_sliceBound_ok k l len _ hp.1 hp.2,hsz]
   | some h=>
     obtain ⟨y',k',rfl,he'⟩:=bnd_some hh
     simp only [slV,Prod.mk.injEq] at hv; obtain ⟨rfl,rfl⟩:=hv
     have h2:l≤(h.toNat:Int):=by omega
     simp only [Option.map_some,hf.ev he,hf.ev he',Instr.sliceBounds,Sem.run_bind,Sem.run_pure,Result.andThen_ok,Option.isSome_none,Bool.false_eq_true,if_false,
      run_sliceBound_ok k' h cap _ hp.1.1 hp.1.2,run_sliceBound_ok k l h.toNat _ hp.2.1 h2,hsz]
theorem run_sslice_ok {t:TypeId} (ht:P.underlying t=some .string) {ev:Operand→Option Value} {a:Act} (hf:Agree ev a)
 {lo hi:Option Operand} {x:ByteArray} {l h:Option Int} (hl:bnd ev lo=some l) (hh:bnd ev hi=some h) {p:Prop} {v:Value} (hv:sslV x l h=(p,v)) (hp:p) (w:World) :
 (Instr.sliceAt t (.string x) (lo.map a.eval) (hi.map a.eval) none).run P w= .ok v w:=by
 simp only [Instr.sliceAt,Sem.run_bind,run_underlying ht,Result.andThen_ok,Instr.slice]
 cases l with
 | none=>
   cases bnd_none hl
   cases h with
   | none=>
     cases bnd_none hh
     simp only [sslV,Prod.mk.injEq] at hv; obtain ⟨_,rfl⟩:=hv
     simp [Instr.sliceBounds]
   | some h=>
     obtain ⟨y,k,rfl,he⟩:=bnd_some hh
     simp only [sslV,Prod.mk.injEq] at hv; obtain ⟨rfl,rfl⟩:=hv
     simp [hf.ev he,Instr.sliceBounds,run_sliceBound_ok k h x.size _ hp.1 hp.2]
 | some l=>
   obtain ⟨y,k,rfl,he⟩:=bnd_some hl
   cases h with
   | none=>
     cases bnd_none hh
     simp only [sslV,Prod.mk.injEq] at hv; obtain ⟨rfl,rfl⟩:=hv
     simp [hf.ev he,Instr.sliceBounds,run_sliceBound_ok k l x.size _ hp.1 hp.2]
   | some h=>
     obtain ⟨y',k',rfl,he'⟩:=bnd_some hh
     simp only [sslV,Prod.mk.injEq] at hv; obtain ⟨rfl,rfl⟩:=hv
     have h2:l≤(h.toNat:Int):=by omega
     simp [hf.ev he,hf.ev he',Instr.sliceBounds,run_sliceBound_ok k' h x.size _ hp.1.1 hp.1.2,run_sliceBound_ok k l h.toNat _ hp.2.1 h2]
end
end Gx
end
section
namespace Gx
open Go
section
variable {P:Program}
theorem foldl_set (cs:List Value):∀ (off j:Nat) (cells:List Value),off + j + cs.length≤cells.length→
 ((cs.zipIdx j).foldl (fun (acc:Array Value) (x:Value × Nat)=>acc.setIfInBounds (off + x.2) x.1) cells.toArray).toList=cells.take (off + j) ++ cs ++ cells.drop (off + j + cs.length):=by
 induction cs with
 | nil=>intro off j cells _; simp
 | cons c cs ih=>
   intro off j cells h
   simp only [List.length_cons] at h
   simp only [List.zipIdx_cons,List.foldl_cons,List.setIfInBounds_toArray]
   rw [ih off (j + 1) (cells.set (off + j) c) (by simp; omega)]
   have e1:off + (j + 1)=off + j + 1:=by omega
   rw [e1]
   have e2:(cells.set (off + j) c).take (off + j + 1)=cells.take (off + j) ++ [c]:=by
    rw [List.take_add_one,List.take_set_of_le (Nat.le_refl _)]
    simp [show off + j < cells.length by omega]
   have e3:(cells.set (off + j) c).drop (off + j + 1 + cs.length)=cells.drop (off + j + (cs.length + 1)):=by
    rw [List.drop_set_of_lt (by omega)]; congr 1; omega
   rw [e2,e3]
   simp
theorem fill_ok (place:Nat→Option (Nat × Nat)):∀ (ps:List (Nat × Value)) (qs:List (Nat × Nat × Value)) (cells out:List Value),
 qs.length=ps.length→(∀ (j i:Nat) (v:Value),ps[j]?=some (i,v)→∃ o s,place i=some (o,s)∧qs[j]?=some (o,s,v))→
 fillV cells qs=some out→Instr.fill place cells.toArray ps=some out.toArray
 | [],[],cells,out,_,_,h=>by simp [fillV] at h; simp [Instr.fill,h]
 | [],q :: qs,_,_,hl,_,_=>by simp at hl
 | p :: ps,[],_,_,hl,_,_=>by simp at hl
 | (i,v) :: ps,q :: qs,cells,out,hl,hp,h=>by
   obtain ⟨o,s,h1,h2⟩:=hp 0 i v rfl
   simp at h2; subst h2
   have ih:=fun cells'=>fill_ok place ps qs cells' out (by simpa using hl) (fun j i v hj=>by simpa using hp (j + 1) i v (by simpa using hj))
   simp only [Instr.fill,h1]
   have key:∀ cells',fillV cells' qs=some out→(v.cells.size=s∧o + v.cells.size≤cells.length)→
    cells'=cells.take o ++ v.cells.toList ++ cells.drop (o + v.cells.size)→
    (if v.cells.size≠s || o + v.cells.size > cells.toArray.size then none else Instr.fill place (v.cells.zipIdx.foldl (fun cs (c,j)=>cs.setIfInBounds (o + j) c) cells.toArray) ps)=some out.toArray:=by
    intro cells' hf ⟨hs,hb⟩ he
    rw [if_neg (by simp [hs]; rw [hs] at hb; omega)]
    have e:=foldl_set v.cells.toList o 0 cells (by simpa using hb)
    have e':(v.cells.zipIdx.foldl (fun (cs:Array Value) (x:Value × Nat)=>cs.setIfInBounds (o + x.2) x.1) cells.toArray)=cells'.toArray:=by
     apply Array.toList_inj.1
     rw [← Array.foldl_toList]
     simp only [Array.toList_zipIdx]
     rw [e,he]
     simp
    have:=ih cells' hf
    rw [← e'] at this
    exact this
   unfold fillV at h
   split at h
   ·rename_i cs
    split at h
    ·rename_i hc
     exact key _ h ⟨hc.1,by simp [Value.cells]; omega⟩ (by simp [Value.cells,hc.1])
    ·simp at h
   ·rename_i hv
    split at h
    ·rename_i hc
     have hcell:v.cells=#[v]:=by cases v <;> first | rfl | (exfalso; exact hv _ rfl)
     refine key _ h ⟨by rw [hcell]; simp [hc.1],by rw [hcell]; simp; omega⟩ ?_
     rw [hcell,List.set_eq_take_append_cons_drop,if_pos hc.2]
     simp
    ·simp at h
theorem run_places:∀ (fields:List Field) (w:World),fields.all (fun f=>(sizeOfB P f.type).isSome)=true→
 ((fields.mapM fun f=>do pure (f.offset,← Go.sizeOf f.type)):Sem (List (Nat × Nat))).run P w= .ok (fields.map fun f=>(f.offset,(sizeOfB P f.type).getD 0)) w
 | [],w,_=>by simp
 | f :: fs,w,h=>by
   simp only [List.all_cons,Bool.and_eq_true] at h
   obtain ⟨s,hs⟩:=Option.isSome_iff_exists.1 h.1
   simp only [List.mapM_cons,Sem.run_bind,run_size hs,Result.andThen_ok,Sem.run_pure,run_places fs w h.2,List.map_cons,hs,Option.getD_some]
theorem partOffs_spec {fields:List Field}:∀ {parts:List (Nat × Operand)} {ps:List (Nat × Nat × Operand)},partOffs P fields parts=some ps→
 ps.length=parts.length∧∀ (j i:Nat) (x:Operand),parts[j]?=some (i,x)→∃ f s,fields[i]?=some f∧sizeOfB P f.type=some s∧ps[j]?=some (f.offset,s,x)
 | [],ps,h=>by simp [partOffs] at h; subst h; exact ⟨rfl,fun j i x hj=>by simp at hj⟩
 | (i,x) :: r,ps,h=>by
   simp only [partOffs] at h
   split at h
   ·simp at h
   ·rename_i f hf
    split at h
    ·rename_i s ps' h1 h2
     simp at h; subst h
     obtain ⟨hl,ih⟩:=partOffs_spec h2
     refine ⟨by simp [hl],fun j i' x' hj=>?_⟩
     cases j with
     | zero=>simp at hj; obtain ⟨rfl,rfl⟩:=hj; exact ⟨f,s,hf,h1,rfl⟩
     | succ j=>simpa using ih j i' x' (by simpa using hj)
    ·simp at h
theorem parts_spec {ev:Operand→Option Value}:∀ {ps:List (Nat × Nat × Operand)} {qs:List (Nat × Nat × Value)},partsE ev ps=some qs→
 qs.length=ps.length∧∀ (j o s:Nat) (x:Operand),ps[j]?=some (o,s,x)→∃ v,ev x=some v∧qs[j]?=some (o,s,v)
 | [],qs,h=>by simp [partsE] at h; subst h; exact ⟨rfl,fun j o s x hj=>by simp at hj⟩
 | (o,s,x) :: r,qs,h=>by
   simp only [partsE] at h
   split at h
   ·rename_i v vs h1 h2
    simp at h; subst h
    obtain ⟨hl,ih⟩:=parts_spec h2
    refine ⟨by simp [hl],fun j o' s' x' hj=>?_⟩
    cases j with
    | zero=>simp at hj; obtain ⟨rfl,rfl,rfl⟩:=hj; exact ⟨v,h1,rfl⟩
    | succ j=>simpa using ih j o' s' x' (by simpa using hj)
   ·simp at h
theorem run_build_ok {t:TypeId} {fields:Array Field} {z:Value} (ht:P.underlying t=some (.struct fields)) (hz:zeroOf P t=some z) {parts:Array (Nat × Operand)} {ps:List (Nat × Nat × Operand)}
 (hall:fields.toList.all (fun f=>(sizeOfB P f.type).isSome)=true) (hps:partOffs P fields.toList parts.toList=some ps) {ev:Operand→Option Value} {a:Act} (hf:Agree ev a)
 {qs:List (Nat × Nat × Value)} (hq:partsE ev ps=some qs) {out:List Value} (ho:fillV z.cells.toList qs=some out) (w:World) :
 (Instr.build t (parts.map fun (i,x)=>(i,a.eval x))).run P w= .ok (.agg out.toArray) w:=by
 have hz':(zeroValue t).run P w= .ok z w:=by
  simp only [zeroOf,Option.bind_eq_some_iff] at hz
  obtain ⟨i,hi,hz⟩:=hz
  simp [zeroValue,run_info hi,hz]
 obtain ⟨hl1,h1⟩:=partOffs_spec hps
 obtain ⟨hl2,h2⟩:=parts_spec hq
 have hfill:=fill_ok (fun i=>(fields.toList.map fun f=>(f.offset,(sizeOfB P f.type).getD 0))[i]?) (parts.toList.map fun (i,x)=>(i,a.eval x)) qs z.cells.toList out (by simp [hl1,hl2])
  (fun j i v hj=>by
   simp only [List.getElem?_map,Option.map_eq_some_iff,Prod.mk.injEq] at hj
   obtain ⟨⟨i',x⟩,hp,rfl,rfl⟩:=hj
   obtain ⟨f,s,hf1,hf2,hf3⟩:=h1 j i' x hp
   obtain ⟨v,hv1,hv2⟩:=h2 j _ _ _ hf3
   refine ⟨f.offset,s,?_,?_⟩
   ·simp; exact ⟨f,by simpa using hf1,rfl,by simp [hf2]⟩
   ·rw [hv2]; simp [hf.ev hv1]) ho
 simp only [Instr.build,Sem.run_bind,hz',Result.andThen_ok,run_underlying ht,Array.mapM_eq_mapM_toList,Sem.run_map,run_places _ _ hall]
 simp only [Array.toList_map,List.getElem?_toArray,Array.toArray_toList] at hfill ⊢
 rw [hfill]
 rfl
theorem arrOffs_spec {size:Nat}:∀ {parts:List (Nat × Operand)},(arrOffs size parts).length=parts.length∧∀ (j i:Nat) (x:Operand),parts[j]?=some (i,x)→(arrOffs size parts)[j]?=some (i * size,size,x)
 | []=>⟨rfl,fun j i x hj=>by simp at hj⟩
 | (i,x) :: r=>by
   obtain ⟨hl,ih⟩:=arrOffs_spec (size:=size) (parts:=r)
   refine ⟨by simp [arrOffs,hl],fun j i' x' hj=>?_⟩
   cases j with
   | zero=>simp at hj; obtain ⟨rfl,rfl⟩:=hj; rfl
   | succ j=>simpa [arrOffs] using ih j i' x' (by simpa using hj)
theorem run_build_arr {t n e s:Nat} {z:Value} (ht:P.underlying t=some (.array n e)) (hz:zeroOf P t=some z) {parts:Array (Nat × Operand)} (hs:sizeOfB P e=some s) {ev:Operand→Option Value} {a:Act} (hf:Agree ev a)
 {qs:List (Nat × Nat × Value)} (hq:partsE ev (arrOffs s parts.toList)=some qs) {out:List Value} (ho:fillV z.cells.toList qs=some out) (w:World) :
 (Instr.build t (parts.map fun (i,x)=>(i,a.eval x))).run P w= .ok (.agg out.toArray) w:=by
 have hz':(zeroValue t).run P w= .ok z w:=by
  simp only [zeroOf,Option.bind_eq_some_iff] at hz
  obtain ⟨i,hi,hz⟩:=hz
  simp [zeroValue,run_info hi,hz]
 obtain ⟨hl1,h1⟩:=arrOffs_spec (size:=s) (parts:=parts.toList)
 obtain ⟨hl2,h2⟩:=parts_spec hq
 have hfill:=fill_ok (fun i=>some (i * s,s)) (parts.toList.map fun (i,x)=>(i,a.eval x)) qs z.cells.toList out (by simp [hl1,hl2])
  (fun j i v hj=>by
   simp only [List.getElem?_map,Option.map_eq_some_iff,Prod.mk.injEq] at hj
   obtain ⟨⟨i',x⟩,hp,rfl,rfl⟩:=hj
   obtain ⟨v,hv1,hv2⟩:=h2 j _ _ _ (h1 j i' x hp)
   refine ⟨i' * s,s,rfl,?_⟩
   rw [hv2]; simp [hf.ev hv1]) ho
 simp only [Instr.build,Sem.run_bind,hz',Result.andThen_ok,run_underlying ht,run_size hs]
 simp only [Array.toList_map,Array.toArray_toList] at hfill ⊢
 rw [hfill]
 rfl
end
end Gx
end
section
namespace Gx
open Go
section
variable {P:Program}
theorem evs_some {ev:Operand→Option Value} {a:Act} (hf:Agree ev a) {xs:Array Operand} {vs:List Value} (h:evs ev xs.toList=some vs):xs.map a.eval=vs.toArray:=by
 have:=hf.evs h
 apply Array.toList_inj.1
 simpa using this
theorem stripPE_ok {o:Oper} {ev:Operand→Option Value} {a:Act} {e:PE Operand} {p:Prop} {v:Value} (hs:stripPE P o.op=some e) (hf:Agree ev a)
 (hv:e.val ev=some (p,v)) (hp:p) (w:World):(execOp a.eval o).run P w= .ok (.value v) w:=by
 unfold stripPE at hs
 unfold execOp
 split at hs
 case h_1 x ho=>-- move
  simp at hs; subst hs
  have:=hf.ev (mvN_some hv)
  simp [ho,this]
 case h_2 x ho=>
  simp at hs; subst hs
  have:=hf.ev (mvN_some hv)
  simp [ho,this]
 case h_3 c x y ho=>-- pick
  simp at hs; subst hs
  obtain ⟨t,h1,h2,h3⟩:=pickN_ok hv
  cases t with
  | true=>obtain ⟨x',e1,rfl⟩:=h2 rfl; simp [ho,hf.ev h1,hf.ev e1,asBool]
  | false=>obtain ⟨x',e1,rfl⟩:=h3 rfl; simp [ho,hf.ev h1,hf.ev e1,asBool]
 case h_4 op ty x y yt ho=>-- binOp
  have binok:(PE.bin op x y).val ev=some (p,v)→(do let r ← (do eqGuard op ty x y (a.eval x) (a.eval y); binOp op ty (a.eval x) (a.eval y)); pure (Next.value r):Sem Next).run P w= .ok (.value v) w:=by
   intro hv
   simp only [PE.val,binN] at hv
   split at hv
   ·rename_i u1 u2 h1 h2
    rw [hf.ev h1,hf.ev h2,Sem.run_bind,binV_ok hv hp w ty x y]
    rfl
   ·simp at hv
  have beqok:∀ neg,op=(if neg then .neq else .eql)→P.underlying ty=some .bool→(PE.beq neg x y).val ev=some (p,v)→(do let r ← (do eqGuard op ty x y (a.eval x) (a.eval y); binOp op ty (a.eval x) (a.eval y)); pure (Next.value r):Sem Next).run P w= .ok (.value v) w:=by
   intro neg hop hty hv
   simp only [PE.val,beqN] at hv
   split at hv
   ·rename_i u1 u2 h1 h2
    simp at hv; obtain ⟨_,rfl⟩:=hv
    rw [hf.ev h1,hf.ev h2,Sem.run_bind,hop,beq_ok hty w x y]
    rfl
   ·simp at hv
  rw [ho]
  split at hs
  ·simp at hs; subst hs; exact binok hv
  ·simp at hs; subst hs; exact binok hv
  ·rename_i hty
   split at hs
   ·simp at hs; subst hs; exact beqok false rfl hty hv
   ·simp at hs; subst hs; exact beqok true rfl hty hv
   ·simp at hs
  ·rename_i fields hty
   split at hs
   ·rename_i ks hks
    have st:∀ neg,op=(if neg then .neq else .eql)→(PE.steq neg ks x y).val ev=some (p,v)→(do let r ← (do eqGuard op ty x y (a.eval x) (a.eval y); binOp op ty (a.eval x) (a.eval y)); pure (Next.value r):Sem Next).run P w= .ok (.value v) w:=by
     intro neg hop hv
     simp only [PE.val,steqN] at hv
     split at hv
     ·rename_i xs ys h1 h2
      cases hb:stEq xs ys ks with
      | none=>rw [hb] at hv; simp [negN] at hv
      | some b=>
        rw [hb] at hv
        simp [negN] at hv; obtain ⟨_,rfl⟩:=hv
        rw [hf.ev h1,hf.ev h2,Sem.run_bind,hop,steq_ok hty hks hb w x y]
        rfl
     ·simp at hv
    split at hs
    ·simp at hs; subst hs; exact st false rfl hv
    ·simp at hs; subst hs; exact st true rfl hv
    ·simp at hs
   ·simp at hs
  ·rename_i el hty
   split at hs
   ·have nil:∀ neg,op=(if neg then .neq else .eql)→(PE.isnil neg x).val ev=some (p,v)→(do let r ← (do eqGuard op ty x (.const (.pointer none)) (a.eval x) (a.eval (.const (.pointer none))); binOp op ty (a.eval x) (a.eval (.const (.pointer none)))); pure (Next.value r):Sem Next).run P w= .ok (.value v) w:=by
     intro neg hop hv
     simp only [PE.val,isnilN] at hv
     split at hv
     ·rename_i ad he
      simp at hv; obtain ⟨_,rfl⟩:=hv
      rw [hf.ev he,Sem.run_bind,hop]
      show ((Sem.run P (do eqGuard (if neg then BinOp.neq else BinOp.eql) ty x _ (.pointer ad) (.pointer none); binOp (if neg then BinOp.neq else BinOp.eql) ty (.pointer ad) (.pointer none)) w).andThen _)=_
      rw [isnil_ptr_ok hty]
      rfl
     ·simp at hv
    split at hs
    ·simp at hs; subst hs; exact nil false rfl hv
    ·simp at hs; subst hs; exact nil true rfl hv
    ·simp at hs
   ·simp at hs
  ·rename_i el hty
   split at hs
   ·rename_i n' c'
    have nil:∀ neg,op=(if neg then .neq else .eql)→(PE.isnils neg x).val ev=some (p,v)→(do let r ← (do eqGuard op ty x (.const (.slice none n' c')) (a.eval x) (a.eval (.const (.slice none n' c'))); binOp op ty (a.eval x) (a.eval (.const (.slice none n' c')))); pure (Next.value r):Sem Next).run P w= .ok (.value v) w:=by
     intro neg hop hv
     simp only [PE.val,isnilsN] at hv
     split at hv
     ·rename_i ad m c he
      simp at hv; obtain ⟨_,rfl⟩:=hv
      rw [hf.ev he,Sem.run_bind,hop]
      show ((Sem.run P (do eqGuard (if neg then BinOp.neq else BinOp.eql) ty x _ (.slice ad m c) (.slice none n' c'); binOp (if neg then BinOp.neq else BinOp.eql) ty (.slice ad m c) (.slice none n' c')) w).andThen _)=_
      rw [isnil_slice_ok hty]
      rfl
     ·simp at hv
    split at hs
    ·simp at hs; subst hs; exact nil false rfl hv
    ·simp at hs; subst hs; exact nil true rfl hv
    ·simp at hs
   ·simp at hs
  ·rename_i ms hty
   split at hs
   ·have nil:∀ neg,op=(if neg then .neq else .eql)→(PE.isnilf neg x).val ev=some (p,v)→(do let r ← (do eqGuard op ty x (.const .nilIface) (a.eval x) (a.eval (.const .nilIface)); binOp op ty (a.eval x) (a.eval (.const .nilIface))); pure (Next.value r):Sem Next).run P w= .ok (.value v) w:=by
     intro neg hop hv
     simp only [PE.val,isnilfN] at hv
     have key:∀ u,ev x=some u→((∃ t v,u= .iface t v)∨u= .nilIface)→v= .bool (if neg then !nilI u else nilI u)→(do let r ← (do eqGuard op ty x (.const .nilIface) (a.eval x) (a.eval (.const .nilIface)); binOp op ty (a.eval x) (a.eval (.const .nilIface))); pure (Next.value r):Sem Next).run P w= .ok (.value v) w:=by
      intro u he hu hv
      subst hv
      rw [hf.ev he,Sem.run_bind,hop]
      show ((Sem.run P (do eqGuard (if neg then BinOp.neq else BinOp.eql) ty x (.const .nilIface) u .nilIface; binOp (if neg then BinOp.neq else BinOp.eql) ty u .nilIface) w).andThen _)=_
      rw [isnil_iface_ok hty u hu]
      rfl
     split at hv
     ·rename_i t' u he
      simp at hv; obtain ⟨_,rfl⟩:=hv
      exact key _ he (.inl ⟨_,_,rfl⟩) (by cases neg <;> rfl)
     ·rename_i he
      simp at hv; obtain ⟨_,rfl⟩:=hv
      exact key _ he (.inr rfl) (by cases neg <;> rfl)
     ·simp at hv
    split at hs
    ·simp at hs; subst hs; exact nil false rfl hv
    ·simp at hs; subst hs; exact nil true rfl hv
    ·simp at hs
   ·simp at hs
  ·simp at hs
 case h_5 op ty x ho=>-- unOp
  simp at hs; subst hs
  simp only [PE.val,unN] at hv
  split at hv
  ·rename_i u h1
   simp [ho,hf.ev h1,unV_ok hv]
  ·simp at hv
 case h_6 src dst x ho=>-- convert
  split at hs
  ·rename_i ks kd h1 h2
   simp at hs; subst hs
   simp only [PE.val,cviN] at hv
   split at hv
   ·rename_i k' m he
    simp at hv; obtain ⟨_,rfl⟩:=hv
    simp [ho,hf.ev he,convert,run_underlying h1,run_underlying h2,Conv.intToInt]
   ·simp at hv
  ·rename_i h1 h2
   simp at hs; subst hs
   simp only [PE.val,cvsN] at hv
   split at hv
   ·rename_i u he
    simp at hv; obtain ⟨_,rfl⟩:=hv
    simp [ho,hf.ev he,convert,run_underlying h1,run_underlying h2]
   ·simp at hv
  ·simp at hs
 case h_7 s x f ho=>-- fieldAddr
  split at hs
  ·rename_i fields hu
   split at hs
   ·rename_i fd hfd
    split at hs
    ·rename_i k hk
     simp at hs; subst hs
     simp only [PE.val,faN] at hv
     split at hv
     ·rename_i ad he
      simp at hv; obtain ⟨_,rfl⟩:=hv
      simp [ho,hf.ev he,Instr.fieldAt,run_underlying hu,hfd,Instr.sureAddr,fieldPlace,run_size hk]
     ·simp at hv
    ·simp at hs
   ·simp at hs
  ·simp at hs
 case h_8 t x i ho=>-- indexAddr
  split at hs
  ·rename_i el hu
   simp only [Option.map_eq_some_iff] at hs
   obtain ⟨s,hsz,rfl⟩:=hs
   simp only [PE.val,ixN] at hv
   split at hv
   ·rename_i ad len cap k m h1 h2
    simp only [Option.some.injEq,Prod.mk.injEq] at hv; obtain ⟨rfl,rfl⟩:=hv
    simp [ho,hf.ev h1,hf.ev h2,Instr.indexAt,asIntOf,run_underlying hu,hp,run_size hsz]
   ·simp only [Option.some.injEq,Prod.mk.injEq] at hv; obtain ⟨rfl,_⟩:=hv; exact hp.elim
   ·simp at hv
  ·rename_i len el hu
   simp only [Option.map_eq_some_iff] at hs
   obtain ⟨s,hsz,rfl⟩:=hs
   simp only [PE.val,ixaN] at hv
   split at hv
   ·rename_i ad k m h1 h2
    simp only [Option.some.injEq,Prod.mk.injEq] at hv; obtain ⟨rfl,rfl⟩:=hv
    simp [ho,hf.ev h1,hf.ev h2,Instr.indexAt,Instr.sureAddr,asIntOf,run_underlying hu,hp,run_size hsz]
   ·simp at hv
  ·simp at hs
 case h_9 t x i ho=>-- index
  split at hs
  ·rename_i hu
   simp at hs; subst hs
   simp only [PE.val,sixN] at hv
   split at hv
   ·rename_i s k m h1 h2
    simp only [Option.some.injEq,Prod.mk.injEq] at hv; obtain ⟨rfl,rfl⟩:=hv
    have hlt:m.toNat < s.size:=by omega
    simp [ho,hf.ev h1,hf.ev h2,Instr.index,asIntOf,run_underlying hu,hp.1,hlt]
    rfl
   ·simp at hv
  ·simp at hs
 case h_10 t x lo hi mx ho=>-- slice
  split at hs
  ·rename_i el hu
   simp only [Option.map_eq_some_iff] at hs
   obtain ⟨s,hsz,rfl⟩:=hs
   simp only [PE.val,slN] at hv
   split at hv
   ·rename_i ad len cap l h h1 h2 h3
    simp only [Option.some.injEq] at hv
    simp [ho,hf.ev h1,run_slice_ok hu hsz hf h2 h3 hv hp]
   ·simp at hv
  ·rename_i hu
   simp at hs; subst hs
   simp only [PE.val,sslN] at hv
   split at hv
   ·rename_i s l h h1 h2 h3
    simp only [Option.some.injEq] at hv
    simp [ho,hf.ev h1,run_sslice_ok hu hf h2 h3 hv hp]
   ·simp at hv
  ·simp at hs
 case h_11 t x f ho=>-- field
  split at hs
  ·rename_i fields hu
   split at hs
   ·rename_i fd hfd
    split at hs
    ·rename_i s hag hsz
     simp at hs; subst hs
     simp only [PE.val,fldAN] at hv
     split at hv
     ·rename_i cs he
      simp at hv; obtain ⟨_,rfl⟩:=hv
      simp [ho,hf.ev he,Instr.field,run_underlying hu,hfd,asAgg,part,run_isAgg hag,run_size hsz]
     ·simp at hv
    ·rename_i hag
     simp at hs; subst hs
     simp only [PE.val,fld1N] at hv
     split at hv
     ·rename_i cs he
      split at hv
      ·rename_i u hc
       simp at hv; obtain ⟨_,rfl⟩:=hv
       simp [ho,hf.ev he,Instr.field,run_underlying hu,hfd,asAgg,part,run_isAgg hag,hc]
      ·simp at hv
     ·simp at hv
    ·simp at hs
   ·simp at hs
  ·simp at hs
 case h_12 x i ho=>-- extract
  simp at hs; subst hs
  simp only [PE.val,extN] at hv
  split at hv
  ·rename_i vs he
   split at hv
   ·rename_i u hc
    simp at hv; obtain ⟨_,rfl⟩:=hv
    simp [ho,hf.ev he,Instr.extract,hc]
   ·simp at hv
  ·simp at hv
 case h_13 x ho=>-- nilCheck
  simp at hs; subst hs
  simp only [PE.val,ncN] at hv
  split at hv
  ·rename_i ad he
   simp at hv; obtain ⟨_,rfl⟩:=hv
   simp [ho,hf.ev he]
  ·rename_i f c d he
   simp at hv; obtain ⟨_,rfl⟩:=hv
   simp [ho,hf.ev he]
  ·simp at hv
 case h_14 f first caps ho=>-- makeFunc
  simp at hs; subst hs
  simp only [PE.val,mkfN] at hv
  split at hv
  ·rename_i us vs h1 h2
   simp at hv; obtain ⟨_,rfl⟩:=hv
   simp [ho,Instr.makeFunc,evs_some hf h1,evs_some hf h2]
  ·simp at hv
 case h_15 t x ho=>-- makeInterface
  split at hs
  ·simp at hs
  ·rename_i d hni hu
   simp at hs; subst hs
   simp only [PE.val,mkiN] at hv
   split at hv
   ·rename_i u h1
    simp at hv; obtain ⟨_,rfl⟩:=hv
    have:(Instr.makeInterface t u).run P w= .ok (.iface t u) w:=by
     unfold Instr.makeInterface
     simp only [Sem.run_bind,run_underlying hu,Result.andThen_ok]
     rfl
    simp [ho,hf.ev h1,this]
   ·simp at hv
  ·simp at hs
 case h_16 x xt t ok ho=>-- typeAssert
  split at hs
  ·simp at hs
  ·rename_i d hni hu
   have hd:∀ ms,d≠.interface ms:=fun ms e=>hni ms e
   split at hs
   ·rename_i hok
    simp only [Option.map_eq_some_iff] at hs
    obtain ⟨z,hz,rfl⟩:=hs
    subst hok
    have hz':(zeroValue t).run P w= .ok z w:=by
     simp only [zeroOf,Option.bind_eq_some_iff] at hz
     obtain ⟨i,hi,hz⟩:=hz
     simp [zeroValue,run_info hi,hz]
    simp only [PE.val,tyaN] at hv
    split at hv
    ·rename_i t' u h1
     simp at hv; obtain ⟨_,rfl⟩:=hv
     have:(Instr.typeAssert (.iface t' u) xt t true).run P w= .ok (if t'=t then .tuple #[u,.bool true] else .tuple #[z,.bool false]) w:=by
      unfold Instr.typeAssert
      simp only [Sem.run_bind,run_underlying hu,Result.andThen_ok]
      cases d <;> first
       | exact absurd rfl (hd _)
       | (by_cases hc:t'=t <;> simp [hc,hz'])
     simp [ho,hf.ev h1,this]
    ·rename_i h1
     simp at hv; obtain ⟨_,rfl⟩:=hv
     have:(Instr.typeAssert .nilIface xt t true).run P w= .ok (.tuple #[z,.bool false]) w:=by
      unfold Instr.typeAssert
      simp only [Sem.run_bind,run_underlying hu,Result.andThen_ok]
      cases d <;> first
       | exact absurd rfl (hd _)
       | simp [hz']
     simp [ho,hf.ev h1,this]
    ·simp at hv
   ·rename_i hok
    simp at hs; subst hs
    have hok:ok=false:=by simpa using hok
    subst hok
    simp only [PE.val,tybN] at hv
    split at hv
    ·rename_i t' u h1
     simp only [Option.some.injEq,Prod.mk.injEq] at hv; obtain ⟨rfl,rfl⟩:=hv
     have:(Instr.typeAssert (.iface t' u) xt t false).run P w= .ok u w:=by
      unfold Instr.typeAssert
      simp only [Sem.run_bind,run_underlying hu,Result.andThen_ok]
      cases d <;> first
       | exact absurd rfl (hd _)
       | simp [hp]
     simp [ho,hf.ev h1,this]
    ·simp at hv
  ·simp at hs
 case h_17 t parts ho=>-- build
  split at hs
  ·rename_i fields z hu hz
   split at hs
   ·rename_i hall
    simp only [Option.map_eq_some_iff] at hs
    obtain ⟨ps,hps,rfl⟩:=hs
    simp only [PE.val,bldN] at hv
    split at hv
    ·rename_i qs hq
     split at hv
     ·rename_i cs hc
      simp at hv; obtain ⟨_,rfl⟩:=hv
      simp [ho,run_build_ok hu hz hall hps hf hq hc]
     ·simp at hv
    ·simp at hv
   ·simp at hs
  ·rename_i n el z hu hz
   simp only [Option.map_eq_some_iff] at hs
   obtain ⟨s,hsz,rfl⟩:=hs
   simp only [PE.val,bldN] at hv
   split at hv
   ·rename_i qs hq
    split at hv
    ·rename_i cs hc
     simp at hv; obtain ⟨_,rfl⟩:=hv
     simp [ho,run_build_arr hu hz hsz hf hq hc]
    ·simp at hv
   ·simp at hv
  ·simp at hs
 case h_18 args argTypes ho=>-- len
  split at hs
  ·rename_i t x ht hx
   split at hs
   ·rename_i el hu
    simp at hs; subst hs
    simp only [PE.val,lenN] at hv
    split at hv
    ·rename_i ad m cap he
     simp at hv; obtain ⟨_,rfl⟩:=hv
     have e1:argTypes=#[t]:=Array.toList_inj.1 ht
     have e2:args=#[x]:=Array.toList_inj.1 hx
     simp [ho,e1,e2,resolve,invoke,builtin,Builtin.len_,hf.ev he,run_underlying hu,goInt]
    ·simp at hv
   ·rename_i hu
    simp at hs; subst hs
    simp only [PE.val,slenN] at hv
    split at hv
    ·rename_i s he
     simp at hv; obtain ⟨_,rfl⟩:=hv
     have e1:argTypes=#[t]:=Array.toList_inj.1 ht
     have e2:args=#[x]:=Array.toList_inj.1 hx
     simp [ho,e1,e2,resolve,invoke,builtin,Builtin.len_,hf.ev he,run_underlying hu,goInt]
    ·simp at hv
   ·simp at hs
  ·simp at hs
 case h_19 args argTypes ho=>-- max
  split at hs
  ·rename_i t t' x y ht hx
   split at hs
   ·rename_i k hu
    simp at hs; subst hs
    simp only [PE.val,mmN] at hv
    split at hv
    ·rename_i k1 m1 k2 m2 h1 h2
     split at hv
     ·rename_i e; subst e
      simp at hv; obtain ⟨_,rfl⟩:=hv
      have e2:args=#[x,y]:=Array.toList_inj.1 hx
      simp [ho,e2,resolve,invoke,builtin,run_max_int2,hf.ev h1,hf.ev h2]
     ·simp at hv
    ·simp at hv
   ·simp at hs
  ·simp at hs
 case h_20 args argTypes ho=>-- min
  split at hs
  ·rename_i t t' x y ht hx
   split at hs
   ·rename_i k hu
    simp at hs; subst hs
    simp only [PE.val,mmN] at hv
    split at hv
    ·rename_i k1 m1 k2 m2 h1 h2
     split at hv
     ·rename_i e; subst e
      simp at hv; obtain ⟨_,rfl⟩:=hv
      have e2:args=#[x,y]:=Array.toList_inj.1 hx
      simp [ho,e2,resolve,invoke,builtin,run_min_int2,hf.ev h1,hf.ev h2]
     ·simp at hv
    ·simp at hv
   ·simp at hs
  ·simp at hs
 case h_21=>simp at hs
end
end Gx
end
