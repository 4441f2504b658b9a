/- Pure operations: what stripPE hands back does what the operation does. -/
import Derived.Test.YtbgjgaaobnbijaaDoorGx4
namespace Gx
open Go

section
variable {P : Program}

theorem evs_some {ev : Operand → Option Value} {a : Act} (hf : Agree ev a) {xs : Array Operand} {vs : List Value} (h : evs ev xs.toList = some vs) : xs.map a.eval = vs.toArray := by
  have := hf.evs h
  apply Array.toList_inj.1
  simpa using this

theorem stripPE_ok {o : Oper} {ev : Operand → Option Value} {a : Act} {e : PE Operand} {p : Prop} {v : Value} (hs : stripPE P o.op = some e) (hf : Agree ev a)
    (hv : e.val ev = some (p, v)) (hp : p) (w : World) : (execOp a.eval o).run P w = .ok (.value v) w := by
  unfold stripPE at hs
  unfold execOp
  split at hs
  case h_1 x ho => -- move
    simp at hs; subst hs
    have := hf.ev (mvN_some hv)
    simp [ho, this]
  case h_2 x ho =>
    simp at hs; subst hs
    have := hf.ev (mvN_some hv)
    simp [ho, this]
  case h_3 c x y ho => -- pick
    simp at hs; subst hs
    obtain ⟨t, h1, h2, h3⟩ := pickN_ok hv
    cases t with
    | true => obtain ⟨x', e1, rfl⟩ := h2 rfl; simp [ho, hf.ev h1, hf.ev e1, asBool]
    | false => obtain ⟨x', e1, rfl⟩ := h3 rfl; simp [ho, hf.ev h1, hf.ev e1, asBool]
  case h_4 op ty x y yt ho => -- binOp
    have binok : (PE.bin op x y).val ev = some (p, v) → (do let r ← (do eqGuard op ty x y (a.eval x) (a.eval y); binOp op ty (a.eval x) (a.eval y)); pure (Next.value r) : Sem Next).run P w = .ok (.value v) w := by
      intro hv
      simp only [PE.val, binN] at hv
      split at hv
      · rename_i u1 u2 h1 h2
        rw [hf.ev h1, hf.ev h2, Sem.run_bind, binV_ok hv hp w ty x y]
        rfl
      · simp at hv
    have beqok : ∀ neg, op = (if neg then .neq else .eql) → P.underlying ty = some .bool → (PE.beq neg x y).val ev = some (p, v) → (do let r ← (do eqGuard op ty x y (a.eval x) (a.eval y); binOp op ty (a.eval x) (a.eval y)); pure (Next.value r) : Sem Next).run P w = .ok (.value v) w := by
      intro neg hop hty hv
      simp only [PE.val, beqN] at hv
      split at hv
      · rename_i u1 u2 h1 h2
        simp at hv; obtain ⟨_, rfl⟩ := hv
        rw [hf.ev h1, hf.ev h2, Sem.run_bind, hop, beq_ok hty w x y]
        rfl
      · simp at hv
    rw [ho]
    split at hs
    · simp at hs; subst hs; exact binok hv
    · simp at hs; subst hs; exact binok hv
    · rename_i hty
      split at hs
      · simp at hs; subst hs; exact beqok false rfl hty hv
      · simp at hs; subst hs; exact beqok true rfl hty hv
      · simp at hs
    · rename_i fields hty
      split at hs
      · rename_i ks hks
        have st : ∀ neg, op = (if neg then .neq else .eql) → (PE.steq neg ks x y).val ev = some (p, v) → (do let r ← (do eqGuard op ty x y (a.eval x) (a.eval y); binOp op ty (a.eval x) (a.eval y)); pure (Next.value r) : Sem Next).run P w = .ok (.value v) w := by
          intro neg hop hv
          simp only [PE.val, steqN] at hv
          split at hv
          · rename_i xs ys h1 h2
            cases hb : stEq xs ys ks with
            | none => rw [hb] at hv; simp [negN] at hv
            | some b =>
              rw [hb] at hv
              simp [negN] at hv; obtain ⟨_, rfl⟩ := hv
              rw [hf.ev h1, hf.ev h2, Sem.run_bind, hop, steq_ok hty hks hb w x y]
              rfl
          · simp at hv
        split at hs
        · simp at hs; subst hs; exact st false rfl hv
        · simp at hs; subst hs; exact st true rfl hv
        · simp at hs
      · simp at hs
    · rename_i el hty
      split at hs
      · have nil : ∀ neg, op = (if neg then .neq else .eql) → (PE.isnil neg x).val ev = some (p, v) → (do let r ← (do eqGuard op ty x (.const (.pointer none)) (a.eval x) (a.eval (.const (.pointer none))); binOp op ty (a.eval x) (a.eval (.const (.pointer none)))); pure (Next.value r) : Sem Next).run P w = .ok (.value v) w := by
          intro neg hop hv
          simp only [PE.val, isnilN] at hv
          split at hv
          · rename_i ad he
            simp at hv; obtain ⟨_, rfl⟩ := hv
            rw [hf.ev he, Sem.run_bind, hop]
            show ((Sem.run P (do eqGuard (if neg then BinOp.neq else BinOp.eql) ty x _ (.pointer ad) (.pointer none); binOp (if neg then BinOp.neq else BinOp.eql) ty (.pointer ad) (.pointer none)) w).andThen _) = _
            rw [isnil_ptr_ok hty]
            rfl
          · simp at hv
        split at hs
        · simp at hs; subst hs; exact nil false rfl hv
        · simp at hs; subst hs; exact nil true rfl hv
        · simp at hs
      · simp at hs
    · rename_i el hty
      split at hs
      · rename_i n' c'
        have nil : ∀ neg, op = (if neg then .neq else .eql) → (PE.isnils neg x).val ev = some (p, v) → (do let r ← (do eqGuard op ty x (.const (.slice none n' c')) (a.eval x) (a.eval (.const (.slice none n' c'))); binOp op ty (a.eval x) (a.eval (.const (.slice none n' c')))); pure (Next.value r) : Sem Next).run P w = .ok (.value v) w := by
          intro neg hop hv
          simp only [PE.val, isnilsN] at hv
          split at hv
          · rename_i ad m c he
            simp at hv; obtain ⟨_, rfl⟩ := hv
            rw [hf.ev he, Sem.run_bind, hop]
            show ((Sem.run P (do eqGuard (if neg then BinOp.neq else BinOp.eql) ty x _ (.slice ad m c) (.slice none n' c'); binOp (if neg then BinOp.neq else BinOp.eql) ty (.slice ad m c) (.slice none n' c')) w).andThen _) = _
            rw [isnil_slice_ok hty]
            rfl
          · simp at hv
        split at hs
        · simp at hs; subst hs; exact nil false rfl hv
        · simp at hs; subst hs; exact nil true rfl hv
        · simp at hs
      · simp at hs
    · rename_i ms hty
      split at hs
      · have nil : ∀ neg, op = (if neg then .neq else .eql) → (PE.isnilf neg x).val ev = some (p, v) → (do let r ← (do eqGuard op ty x (.const .nilIface) (a.eval x) (a.eval (.const .nilIface)); binOp op ty (a.eval x) (a.eval (.const .nilIface))); pure (Next.value r) : Sem Next).run P w = .ok (.value v) w := by
          intro neg hop hv
          simp only [PE.val, isnilfN] at hv
          have key : ∀ u, ev x = some u → ((∃ t v, u = .iface t v) ∨ u = .nilIface) → v = .bool (if neg then !nilI u else nilI u) → (do let r ← (do eqGuard op ty x (.const .nilIface) (a.eval x) (a.eval (.const .nilIface)); binOp op ty (a.eval x) (a.eval (.const .nilIface))); pure (Next.value r) : Sem Next).run P w = .ok (.value v) w := by
            intro u he hu hv
            subst hv
            rw [hf.ev he, Sem.run_bind, hop]
            show ((Sem.run P (do eqGuard (if neg then BinOp.neq else BinOp.eql) ty x (.const .nilIface) u .nilIface; binOp (if neg then BinOp.neq else BinOp.eql) ty u .nilIface) w).andThen _) = _
            rw [isnil_iface_ok hty u hu]
            rfl
          split at hv
          · rename_i t' u he
            simp at hv; obtain ⟨_, rfl⟩ := hv
            exact key _ he (.inl ⟨_, _, rfl⟩) (by cases neg <;> rfl)
          · rename_i he
            simp at hv; obtain ⟨_, rfl⟩ := hv
            exact key _ he (.inr rfl) (by cases neg <;> rfl)
          · simp at hv
        split at hs
        · simp at hs; subst hs; exact nil false rfl hv
        · simp at hs; subst hs; exact nil true rfl hv
        · simp at hs
      · simp at hs
    · simp at hs
  case h_5 op ty x ho => -- unOp
    simp at hs; subst hs
    simp only [PE.val, unN] at hv
    split at hv
    · rename_i u h1
      simp [ho, hf.ev h1, unV_ok hv]
    · simp at hv
  case h_6 src dst x ho => -- convert
    split at hs
    · rename_i ks kd h1 h2
      simp at hs; subst hs
      simp only [PE.val, cviN] at hv
      split at hv
      · rename_i k' m he
        simp at hv; obtain ⟨_, rfl⟩ := hv
        simp [ho, hf.ev he, convert, run_underlying h1, run_underlying h2, Conv.intToInt]
      · simp at hv
    · rename_i h1 h2
      simp at hs; subst hs
      simp only [PE.val, cvsN] at hv
      split at hv
      · rename_i u he
        simp at hv; obtain ⟨_, rfl⟩ := hv
        simp [ho, hf.ev he, convert, run_underlying h1, run_underlying h2]
      · simp at hv
    · simp at hs
  case h_7 s x f ho => -- fieldAddr
    split at hs
    · rename_i fields hu
      split at hs
      · rename_i fd hfd
        split at hs
        · rename_i k hk
          simp at hs; subst hs
          simp only [PE.val, faN] at hv
          split at hv
          · rename_i ad he
            simp at hv; obtain ⟨_, rfl⟩ := hv
            simp [ho, hf.ev he, Instr.fieldAt, run_underlying hu, hfd, Instr.sureAddr, fieldPlace, run_size hk]
          · simp at hv
        · simp at hs
      · simp at hs
    · simp at hs
  case h_8 t x i ho => -- indexAddr
    split at hs
    · rename_i el hu
      simp only [Option.map_eq_some_iff] at hs
      obtain ⟨s, hsz, rfl⟩ := hs
      simp only [PE.val, ixN] at hv
      split at hv
      · rename_i ad len cap k m h1 h2
        simp only [Option.some.injEq, Prod.mk.injEq] at hv; obtain ⟨rfl, rfl⟩ := hv
        simp [ho, hf.ev h1, hf.ev h2, Instr.indexAt, asIntOf, run_underlying hu, hp, run_size hsz]
      · simp only [Option.some.injEq, Prod.mk.injEq] at hv; obtain ⟨rfl, _⟩ := hv; exact hp.elim
      · simp at hv
    · rename_i len el hu
      simp only [Option.map_eq_some_iff] at hs
      obtain ⟨s, hsz, rfl⟩ := hs
      simp only [PE.val, ixaN] at hv
      split at hv
      · rename_i ad k m h1 h2
        simp only [Option.some.injEq, Prod.mk.injEq] at hv; obtain ⟨rfl, rfl⟩ := hv
        simp [ho, hf.ev h1, hf.ev h2, Instr.indexAt, Instr.sureAddr, asIntOf, run_underlying hu, hp, run_size hsz]
      · simp at hv
    · simp at hs
  case h_9 t x i ho => -- index
    split at hs
    · rename_i hu
      simp at hs; subst hs
      simp only [PE.val, sixN] at hv
      split at hv
      · rename_i s k m h1 h2
        simp only [Option.some.injEq, Prod.mk.injEq] at hv; obtain ⟨rfl, rfl⟩ := hv
        have hlt : m.toNat < s.size := by omega
        simp [ho, hf.ev h1, hf.ev h2, Instr.index, asIntOf, run_underlying hu, hp.1, hlt]
        rfl
      · simp at hv
    · simp at hs
  case h_10 t x lo hi mx ho => -- slice
    split at hs
    · rename_i el hu
      simp only [Option.map_eq_some_iff] at hs
      obtain ⟨s, hsz, rfl⟩ := hs
      simp only [PE.val, slN] at hv
      split at hv
      · rename_i ad len cap l h h1 h2 h3
        simp only [Option.some.injEq] at hv
        simp [ho, hf.ev h1, run_slice_ok hu hsz hf h2 h3 hv hp]
      · simp at hv
    · rename_i hu
      simp at hs; subst hs
      simp only [PE.val, sslN] at hv
      split at hv
      · rename_i s l h h1 h2 h3
        simp only [Option.some.injEq] at hv
        simp [ho, hf.ev h1, run_sslice_ok hu hf h2 h3 hv hp]
      · simp at hv
    · simp at hs
  case h_11 t x f ho => -- field
    split at hs
    · rename_i fields hu
      split at hs
      · rename_i fd hfd
        split at hs
        · rename_i s hag hsz
          simp at hs; subst hs
          simp only [PE.val, fldAN] at hv
          split at hv
          · rename_i cs he
            simp at hv; obtain ⟨_, rfl⟩ := hv
            simp [ho, hf.ev he, Instr.field, run_underlying hu, hfd, asAgg, part, run_isAgg hag, run_size hsz]
          · simp at hv
        · rename_i hag
          simp at hs; subst hs
          simp only [PE.val, fld1N] at hv
          split at hv
          · rename_i cs he
            split at hv
            · rename_i u hc
              simp at hv; obtain ⟨_, rfl⟩ := hv
              simp [ho, hf.ev he, Instr.field, run_underlying hu, hfd, asAgg, part, run_isAgg hag, hc]
            · simp at hv
          · simp at hv
        · simp at hs
      · simp at hs
    · simp at hs
  case h_12 x i ho => -- extract
    simp at hs; subst hs
    simp only [PE.val, extN] at hv
    split at hv
    · rename_i vs he
      split at hv
      · rename_i u hc
        simp at hv; obtain ⟨_, rfl⟩ := hv
        simp [ho, hf.ev he, Instr.extract, hc]
      · simp at hv
    · simp at hv
  case h_13 x ho => -- nilCheck
    simp at hs; subst hs
    simp only [PE.val, ncN] at hv
    split at hv
    · rename_i ad he
      simp at hv; obtain ⟨_, rfl⟩ := hv
      simp [ho, hf.ev he]
    · rename_i f c d he
      simp at hv; obtain ⟨_, rfl⟩ := hv
      simp [ho, hf.ev he]
    · simp at hv
  case h_14 f first caps ho => -- makeFunc
    simp at hs; subst hs
    simp only [PE.val, mkfN] at hv
    split at hv
    · rename_i us vs h1 h2
      simp at hv; obtain ⟨_, rfl⟩ := hv
      simp [ho, Instr.makeFunc, evs_some hf h1, evs_some hf h2]
    · simp at hv
  case h_15 t x ho => -- makeInterface
    split at hs
    · simp at hs
    · rename_i d hni hu
      simp at hs; subst hs
      simp only [PE.val, mkiN] at hv
      split at hv
      · rename_i u h1
        simp at hv; obtain ⟨_, rfl⟩ := hv
        have : (Instr.makeInterface t u).run P w = .ok (.iface t u) w := by
          unfold Instr.makeInterface
          simp only [Sem.run_bind, run_underlying hu, Result.andThen_ok]
          rfl
        simp [ho, hf.ev h1, this]
      · simp at hv
    · simp at hs
  case h_16 x xt t ok ho => -- typeAssert
    split at hs
    · simp at hs
    · rename_i d hni hu
      have hd : ∀ ms, d ≠ .interface ms := fun ms e => hni ms e
      split at hs
      · rename_i hok
        simp only [Option.map_eq_some_iff] at hs
        obtain ⟨z, hz, rfl⟩ := hs
        subst hok
        have hz' : (zeroValue t).run P w = .ok z w := by
          simp only [zeroOf, Option.bind_eq_some_iff] at hz
          obtain ⟨i, hi, hz⟩ := hz
          simp [zeroValue, run_info hi, hz]
        simp only [PE.val, tyaN] at hv
        split at hv
        · rename_i t' u h1
          simp at hv; obtain ⟨_, rfl⟩ := hv
          have : (Instr.typeAssert (.iface t' u) xt t true).run P w = .ok (if t' = t then .tuple #[u, .bool true] else .tuple #[z, .bool false]) w := by
            unfold Instr.typeAssert
            simp only [Sem.run_bind, run_underlying hu, Result.andThen_ok]
            cases d <;> first
              | exact absurd rfl (hd _)
              | (by_cases hc : t' = t <;> simp [hc, hz'])
          simp [ho, hf.ev h1, this]
        · rename_i h1
          simp at hv; obtain ⟨_, rfl⟩ := hv
          have : (Instr.typeAssert .nilIface xt t true).run P w = .ok (.tuple #[z, .bool false]) w := by
            unfold Instr.typeAssert
            simp only [Sem.run_bind, run_underlying hu, Result.andThen_ok]
            cases d <;> first
              | exact absurd rfl (hd _)
              | simp [hz']
          simp [ho, hf.ev h1, this]
        · simp at hv
      · rename_i hok
        simp at hs; subst hs
        have hok : ok = false := by simpa using hok
        subst hok
        simp only [PE.val, tybN] at hv
        split at hv
        · rename_i t' u h1
          simp only [Option.some.injEq, Prod.mk.injEq] at hv; obtain ⟨rfl, rfl⟩ := hv
          have : (Instr.typeAssert (.iface t' u) xt t false).run P w = .ok u w := by
            unfold Instr.typeAssert
            simp only [Sem.run_bind, run_underlying hu, Result.andThen_ok]
            cases d <;> first
              | exact absurd rfl (hd _)
              | simp [hp]
          simp [ho, hf.ev h1, this]
        · simp at hv
    · simp at hs
  case h_17 t parts ho => -- build
    split at hs
    · rename_i fields z hu hz
      split at hs
      · rename_i hall
        simp only [Option.map_eq_some_iff] at hs
        obtain ⟨ps, hps, rfl⟩ := hs
        simp only [PE.val, bldN] at hv
        split at hv
        · rename_i qs hq
          split at hv
          · rename_i cs hc
            simp at hv; obtain ⟨_, rfl⟩ := hv
            simp [ho, run_build_ok hu hz hall hps hf hq hc]
          · simp at hv
        · simp at hv
      · simp at hs
    · rename_i n el z hu hz
      simp only [Option.map_eq_some_iff] at hs
      obtain ⟨s, hsz, rfl⟩ := hs
      simp only [PE.val, bldN] at hv
      split at hv
      · rename_i qs hq
        split at hv
        · rename_i cs hc
          simp at hv; obtain ⟨_, rfl⟩ := hv
          simp [ho, run_build_arr hu hz hsz hf hq hc]
        · simp at hv
      · simp at hv
    · simp at hs
  case h_18 args argTypes ho => -- len
    split at hs
    · rename_i t x ht hx
      split at hs
      · rename_i el hu
        simp at hs; subst hs
        simp only [PE.val, lenN] at hv
        split at hv
        · rename_i ad m cap he
          simp at hv; obtain ⟨_, rfl⟩ := hv
          have e1 : argTypes = #[t] := Array.toList_inj.1 ht
          have e2 : args = #[x] := Array.toList_inj.1 hx
          simp [ho, e1, e2, resolve, invoke, builtin, Builtin.len_, hf.ev he, run_underlying hu, goInt]
        · simp at hv
      · rename_i hu
        simp at hs; subst hs
        simp only [PE.val, slenN] at hv
        split at hv
        · rename_i s he
          simp at hv; obtain ⟨_, rfl⟩ := hv
          have e1 : argTypes = #[t] := Array.toList_inj.1 ht
          have e2 : args = #[x] := Array.toList_inj.1 hx
          simp [ho, e1, e2, resolve, invoke, builtin, Builtin.len_, hf.ev he, run_underlying hu, goInt]
        · simp at hv
      · simp at hs
    · simp at hs
  case h_19 args argTypes ho => -- max
    split at hs
    · rename_i t t' x y ht hx
      split at hs
      · rename_i k hu
        simp at hs; subst hs
        simp only [PE.val, mmN] at hv
        split at hv
        · rename_i k1 m1 k2 m2 h1 h2
          split at hv
          · rename_i e; subst e
            simp at hv; obtain ⟨_, rfl⟩ := hv
            have e2 : args = #[x, y] := Array.toList_inj.1 hx
            simp [ho, e2, resolve, invoke, builtin, run_max_int2, hf.ev h1, hf.ev h2]
          · simp at hv
        · simp at hv
      · simp at hs
    · simp at hs
  case h_20 args argTypes ho => -- min
    split at hs
    · rename_i t t' x y ht hx
      split at hs
      · rename_i k hu
        simp at hs; subst hs
        simp only [PE.val, mmN] at hv
        split at hv
        · rename_i k1 m1 k2 m2 h1 h2
          split at hv
          · rename_i e; subst e
            simp at hv; obtain ⟨_, rfl⟩ := hv
            have e2 : args = #[x, y] := Array.toList_inj.1 hx
            simp [ho, e2, resolve, invoke, builtin, run_min_int2, hf.ev h1, hf.ev h2]
          · simp at hv
        · simp at hv
      · simp at hs
    · simp at hs
  case h_21 => simp at hs

end
end Gx
