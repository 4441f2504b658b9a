import Derived.Test.YtdhlibkdcldioaaGreatB10
namespace Gx
open Go
universe u_1 u_2
@[go_sem] theorem tiny0:∀ (n:Nat),0 + n=n:=@Nat.zero_add
@[go_sem] theorem tiny2:∀ (n:Nat),Nat.succ n≠0:=@Nat.succ_ne_zero
@[go_sem] theorem tiny3:0≠1:=@Nat.zero_ne_one
@[go_sem] theorem tiny5:(!true)=false:=@Bool.not_true
@[go_sem] theorem tiny6:(!false)=true:=@Bool.not_false
@[go_sem] theorem tiny7:(true=false)=False:=@Bool.true_eq_false
@[go_sem] theorem tiny10:∀ {α:Type u_1} (val val_1:α),(some val=some val_1)=(val=val_1):=@Option.some.injEq
@[go_sem] theorem tiny12:∀ {α:Type u_1} {β:Type u_2} {f:α→β} {a:α} {l:List α},List.map f (a :: l)=f a :: List.map f l:=@List.map_cons
@[go_sem] theorem tiny13:∀ {α:Type u_1} {β:Type u_2} {f:α→β},List.map f []=[]:=@List.map_nil
@[go_sem] theorem tiny14:∀ {α:Type u_1} {a:α} {zs:List α},List.length (a :: zs)=List.length zs + 1:=@List.length_cons
@[go_sem] theorem tiny15:∀ {α:Type u_1} {a:α} {l:List α},(a :: l)[0]?=some a:=@List.getElem?_cons_zero
@[go_sem] theorem tiny16:∀ {α:Type u_1} {a:α} {i:Nat} {l:List α},(a :: l)[i + 1]?=l[i]?:=@List.getElem?_cons_succ
@[go_sem] theorem tiny17:∀ {α:Type u_1} {x:α} {xs:List α} {a:α},List.set (x :: xs) 0 a=a :: xs:=@List.set_cons_zero
@[go_sem] theorem tiny18:∀ {α:Type u_1} {x:α} {xs:List α} {i:Nat} {a:α},List.set (x :: xs) (i + 1) a=x :: List.set xs i a:=@List.set_cons_succ
@[go_sem] theorem tiny20:∀ (b:Bool),(b || false)=b:=@Bool.or_false
@[go_sem] theorem tiny21:∀ (b:Bool),(false || b)=b:=@Bool.false_or
@[go_sem] theorem tiny25:∀ {α:Type u_1} (l₁ l₂:List α),List.toArray l₁ ++ List.toArray l₂=List.toArray (l₁ ++ l₂):=@List.append_toArray
@[go_sem] theorem tiny26:∀ {α:Type u_1} (zs:List α),[] ++ zs=zs:=@List.nil_append
@[go_sem] theorem tiny27:∀ {α:Type u_1} {a:α} {zs bs:List α},a :: zs ++ bs=a :: (zs ++ bs):=@List.cons_append
@[go_sem] theorem tiny28:∀ {α:Type u_1} {zs:List α},Array.size (List.toArray zs)=List.length zs:=@List.size_toArray
@[go_sem] theorem tiny29:∀ {α:Type u_1} {xs:Array α},xs ++ #[]=xs:=@Array.append_empty
@[go_sem] theorem tiny30:∀ (n:Nat),Int.toNat ↑n=n:=@Int.toNat_natCast
@[go_sem] theorem tiny31:∀ (n:Nat),n * 1=n:=@Nat.mul_one
@[go_sem] theorem tiny33:∀ {p:Prop} [inst:Decidable p],(decide p=true)=p:=@decide_eq_true_eq
@[go_sem] theorem tiny34:∀ {p:Prop} {x:Decidable p},decide p=false↔¬p:=@decide_eq_false_iff_not
@[go_sem] theorem tiny38:∀ {a b:Int},¬a≤b↔b < a:=@Int.not_le
@[go_sem] theorem tiny39:∀ {a b:Int},¬a < b↔b≤a:=@Int.not_lt
@[go_sem] theorem tiny43:∀ {α:Sort u_1} (a b:α),(a≠b)= ¬a=b:=@ne_eq
@[go_sem] theorem tiny44:(¬True)=False:=@not_true_eq_false
@[go_sem] theorem tiny45:(¬False)=True:=@not_false_eq_true
@[go_sem] theorem tiny46:∀ (p:Prop),(p∧p)=p:=@and_self
@[go_sem] theorem tiny47:∀ (h:Decidable True),decide True=true:=@decide_true
@[go_sem] theorem tiny48:∀ (h:Decidable False),decide False=false:=@decide_false
@[go_sem] theorem tiny49:∀ {α:Sort u_1} (a b:α),(bif true then a else b)=a:=@cond_true
@[go_sem] theorem tiny50:∀ {α:Sort u_1} (a b:α),(bif false then a else b)=b:=@cond_false
@[go_sem] theorem tiny51:∀ {α:Type u_1} {l:List α},List.take 0 l=[]:=@List.take_zero
@[go_sem] theorem tiny54:∀ {α:Type u_1} {a:α} {l:List α} {i:Nat},List.drop (i + 1) (a :: l)=List.drop i l:=@List.drop_succ_cons
@[go_sem] theorem tiny55:∀ {α:Type u_1} (zs:List α),zs ++ []=zs:=@List.append_nil
@[go_sem] theorem tiny57:∀ {α:Type u_1} {a:α},Option.isSome (some a)=true:=@Option.isSome_some
@[go_sem] theorem tiny59:∀ {α:Type u_1} {xs:List α} {i:Nat},(List.toArray xs)[i]?=xs[i]?:=@List.getElem?_toArray
@[go_sem] theorem tiny61:∀ (b:Bool),(false && b)=false:=@Bool.false_and
@[go_sem] theorem tiny62:∀ (b:Bool),(b && true)=b:=@Bool.and_true
@[go_sem] theorem tiny63:∀ (b:Bool),(b && false)=false:=@Bool.and_false
@[go_sem] theorem tiny70:∀ (p:Prop),(False∧p)=False:=@false_and
@[go_sem] theorem tiny71:∀ (p:Prop),(p∧False)=False:=@and_false
attribute [go_sem] Nat.reduceAdd Nat.reduceSub Nat.reduceMul Nat.reduceEqDiff Nat.reduceLT Nat.reduceLeDiff Nat.reduceBEq reduceCtorEq Int.reduceLE Int.reduceLT Int.reduceEq Int.reduceNeg Int.reduceToNat Int.reduceAdd Int.reduceSub
attribute [go_sem ↓] reduceIte Bool.false_eq_true
attribute [go_sem] Value.cells Bool.false_eq_true Int.cast_ofNat_Int List.drop_nil List.elem_cons List.length_nil List.take_nil Option.isNone_none Option.isSome_none
end Gx
