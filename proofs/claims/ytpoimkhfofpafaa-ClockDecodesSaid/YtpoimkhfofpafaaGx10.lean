/- Functions; the rules by which a walk goes on. -/
import Derived.Test.YtpoimkhfofpafaaGx9
namespace Gx
open Go

inductive RV where
  | tmp (t : Nat)
  | cell (t : Nat) (sz : Option Nat)
  deriving Inhabited

def RV.val (ρ : Env) (H : Heap) : RV → Option Value
  | .tmp t => ρ.get t
  | .cell t sz => ldN H sz (ρ.get t)

def resV (ρ : Env) (H : Heap) : List RV → Option (List Value)
  | [] => some []
  | r :: rs => match r.val ρ H, resV ρ H rs with
    | some v, some vs => some (v :: vs)
    | _, _ => none

def finN (R : Value → Heap → Prop) (H : Heap) : Option (List Value) → Prop
  | some [v] => R v H
  | some vs => R (.tuple vs.toArray) H
  | none => False

def finQ (rs : List RV) (R : Value → Heap → Prop) : Post
  | .nrm, ρ, H => finN R H (resV ρ H rs)
  | .ret, ρ, H => finN R H (resV ρ H rs)
  | .ext _, _, _ => False

def argsE : Nat → List Value → Env
  | _, [] => []
  | i, v :: r => (i, v) :: argsE (i + 1) r

def stripRV (P : Program) : ResultVar → Option RV
  | .tmp t => some (.tmp t)
  | .cell a t => match isAggB P t with
    | some false => some (.cell a none)
    | some true => (sizeOfB P t).map fun n => .cell a (some n)
    | none => none

def stripRVs (P : Program) : List ResultVar → Option (List RV)
  | [] => some []
  | r :: rs => match stripRV P r, stripRVs P rs with
    | some x, some xs => some (x :: xs)
    | _, _ => none

/-- What the generator prints of a function. -/
structure Fn where
  n : Nat
  keep : List Nat
  code : SCode
  res : List RV

def stripFn (P : Program) (keep : List Nat) (fn : Func) : Option Fn :=
  match fn.body with
  | some c => match strip P fn.ntmps keep c, stripRVs P fn.results.toList with
    | some s, some rs => some ⟨fn.ntmps, keep, s, rs⟩
    | _, _ => none
  | none => none

section
variable {P : Program}

theorem argsE_get : ∀ (vs : List Value) (i t : Nat) (v : Value), (argsE i vs).get t = some v → ∃ j, t = i + j ∧ vs[j]? = some v
  | [], i, t, v, h => by simp [argsE, Env.get] at h
  | u :: vs, i, t, v, h => by
    simp only [argsE, Env.get] at h
    split at h
    · rename_i e; simp at h; subst e; subst h; exact ⟨0, rfl, rfl⟩
    · obtain ⟨j, e, hj⟩ := argsE_get vs (i + 1) t v h
      exact ⟨j + 1, by omega, by simpa using hj⟩

theorem fits_args {n : Nat} {vs : List Value} (h : vs.length ≤ n) : Fits n (argsE 0 vs) { tmps := vs.toArray ++ Array.replicate (n - vs.toArray.size) undef, defers := [] } := by
  refine ⟨by simp; omega, rfl, fun t v hv => ?_⟩
  obtain ⟨j, e, hj⟩ := argsE_get vs 0 t v hv
  simp at e; subst e
  have hlt : t < vs.length := by
    rcases Nat.lt_or_ge t vs.length with h | h
    · exact h
    · rw [List.getElem?_eq_none h] at hj; simp at hj
  simp [Array.getElem?_append, hlt]
  simpa [hlt] using hj

theorem run_loadVar_ok {a : Nat} {t : TypeId} {r : RV} (h : stripRV P (.cell a t) = some r) {n : Nat} {ρ : Env} {act : Act} (hf : Fits n ρ act) {w : World} {v : Value} (hv : r.val ρ w.heap = some v) :
    (do loadVar t (← asAddr (act.tmps.getD a undef)) : Sem Value).run P w = .ok v w := by
  have key : ∀ sz, (sz = none ∧ isAggB P t = some false ∨ ∃ n, sz = some n ∧ isAggB P t = some true ∧ sizeOfB P t = some n) → ldN w.heap sz (ρ.get a) = some v → (do loadVar t (← asAddr (act.tmps.getD a undef)) : Sem Value).run P w = .ok v w := by
    intro sz hsz hv
    unfold ldN at hv
    split at hv
    · rename_i ad hx
      have : act.tmps.getD a undef = .pointer (some ad) := by simp [Array.getD_eq_getD_getElem?, hf.get a _ hx]
      simp [this, asAddr, run_ld hsz hv]
    · simp at hv
  simp only [stripRV] at h
  split at h
  · rename_i hag; simp at h; subst h; exact key none (.inl ⟨rfl, hag⟩) hv
  · rename_i hag
    simp only [Option.map_eq_some_iff] at h
    obtain ⟨k, hk, rfl⟩ := h
    exact key (some k) (.inr ⟨k, rfl, hag, hk⟩) hv
  · simp at h

theorem run_results {n : Nat} {ρ : Env} {act : Act} (hf : Fits n ρ act) {w : World} {f : ResultVar → Sem Value} (hf1 : ∀ t, f (.tmp t) = pure (act.tmps.getD t undef)) (hf2 : ∀ a t, f (.cell a t) = do loadVar t (← asAddr (act.tmps.getD a undef))) :
    ∀ {rs : List ResultVar} {xs : List RV} {vs : List Value}, stripRVs P rs = some xs → resV ρ w.heap xs = some vs → (rs.mapM f).run P w = .ok vs w
  | [], xs, vs, h, hv => by simp [stripRVs] at h; subst h; simp [resV] at hv; subst hv; simp
  | r :: rs, xs, vs, h, hv => by
    simp only [stripRVs] at h
    split at h
    · rename_i x xs' h1 h2
      simp at h; subst h
      simp only [resV] at hv
      split at hv
      · rename_i v vs' h3 h4
        simp at hv; subst hv
        have ih := run_results hf hf1 hf2 h2 h4
        have hr : (f r).run P w = .ok v w := by
          cases r with
          | tmp t =>
            simp [stripRV] at h1; subst h1
            simp only [RV.val] at h3
            simp [hf1, Array.getD_eq_getD_getElem?, hf.get t _ h3]
          | cell a t => rw [hf2]; exact run_loadVar_ok h1 hf h3
        simp only [List.mapM_cons, Sem.run_bind, hr, Result.andThen_ok, ih, Sem.run_pure]
      · simp at hv
    · simp at h

theorem results_ok {fn : Func} {n : Nat} {ρ : Env} {act : Act} (hf : Fits n ρ act) {w : World} {xs : List RV} {vs : List Value} (h : stripRVs P fn.results.toList = some xs) (hv : resV ρ w.heap xs = some vs) :
    (results fn act.tmps).run P w = .ok (match vs with | [v] => v | vs => .tuple vs.toArray) w := by
  simp only [results, Array.mapM_eq_mapM_toList, Sem.run_bind, Sem.run_map]
  rw [run_results hf (fun _ => rfl) (fun _ _ => rfl) h hv]
  simp only [Result.andThen_ok, Sem.run_pure]
  match vs with
  | [] => rfl
  | [v] => rfl
  | v :: u :: r => simp

theorem calls_of_vc {f : Nat} {fn : Func} {keep : List Nat} {F : Fn} {args : List Value} {H : Heap} {R : Value → Heap → Prop} (hf : P.funcs[f]? = some fn) (hs : stripFn P keep fn = some F)
    (hn : args.length ≤ F.n) (h : vc P F.code (argsE 0 args) H (finQ F.res R)) : HCalls P f args.toArray H R := by
  unfold stripFn at hs
  split at hs
  · rename_i c hb
    split at hs
    · rename_i s rs h1 h2
      simp at hs; subst hs
      intro w hw
      subst hw
      refine calls_of_wp hf hb ?_
      refine wp_mono (vc_sound c h1 (fits_args hn) (Same.refl w) h) fun e a w' hq => ?_
      have fin : ∀ ρ, Fits fn.ntmps ρ a → Same w w' → finN R w'.heap (resV ρ w'.heap rs) → a.defers = [] ∧ ∃ v, (results fn a.tmps).run P w' = .ok v w' ∧ ∃ v', Ending.returned v = .returned v' ∧ R v' w'.heap ∧ Same w w' := by
        intro ρ hfit hsame hfin
        refine ⟨hfit.defers, ?_⟩
        cases hr : resV ρ w'.heap rs with
        | none => rw [hr] at hfin; exact hfin.elim
        | some vs =>
          rw [hr] at hfin
          refine ⟨_, results_ok hfit h2 hr, _, rfl, ?_, hsame⟩
          match vs, hfin with
          | [], hfin => exact hfin
          | [v], hfin => exact hfin
          | v :: u :: r, hfin => exact hfin
      cases e <;> simp only [QX, bodyPost, finQ] at hq ⊢
      · obtain ⟨hsame, ρ, hfit, hfin⟩ := hq; exact fin ρ hfit hsame hfin
      · obtain ⟨_, _, _, hfin⟩ := hq; exact hfin
      · obtain ⟨hsame, ρ, hfit, hfin⟩ := hq; exact fin ρ hfit hsame hfin
    · simp at hs
  · simp at hs

end
end Gx
