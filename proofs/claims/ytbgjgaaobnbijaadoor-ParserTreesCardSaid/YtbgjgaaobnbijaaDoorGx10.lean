/- Functions; the rules by which a walk goes on. -/
import Derived.Test.YtbgjgaaobnbijaaDoorGx9
namespace Gx
open Go

inductive RV where
  | tmp (t : Opd)
  | cell (t : Opd) (sz : Option Nat)

def RV.val (σ : Slots) (H : Heap) : RV → Option Value
  | .tmp t => evO σ [] t
  | .cell t sz => ldN H sz (evO σ [] t)

def resV (σ : Slots) (H : Heap) : List RV → Option (List Value)
  | [] => some []
  | r :: rs => match r.val σ H, resV σ H rs with
    | some v, some vs => some (v :: vs)
    | _, _ => none

def finN (R : Value → Heap → Prop) (H : Heap) : Option (List Value) → Prop
  | some [v] => R v H
  | some vs => R (.tuple vs.toArray) H
  | none => False

def finQ (rs : List RV) (R : Value → Heap → Prop) : Post
  | .nrm, σ, H => finN R H (resV σ H rs)
  | .ret, σ, H => finN R H (resV σ H rs)
  | .ext _, _, _ => False

def argV : Option Value → Option Value
  | some v => some v
  | none => some undef
/-- The slots at a function's beginning. -/
def argS : List Nat → List Value → Slots
  | [], _ => []
  | t :: r, vs => argV vs.toArray[t]? :: argS r vs

def stripRV (P : Program) (keep : List Nat) : ResultVar → Option RV
  | .tmp t => some (.tmp (cO keep [] (.tmp t)))
  | .cell a t => match isAggB P t with
    | some false => some (.cell (cO keep [] (.tmp a)) none)
    | some true => (sizeOfB P t).map fun n => .cell (cO keep [] (.tmp a)) (some n)
    | none => none

def stripRVs (P : Program) (keep : List Nat) : List ResultVar → Option (List RV)
  | [] => some []
  | r :: rs => match stripRV P keep r, stripRVs P keep rs with
    | some x, some xs => some (x :: xs)
    | _, _ => none

/-- What the generator prints of a function. -/
structure Fn where
  n : Nat
  keep : List Nat
  code : SCode
  res : List RV

def stripFn (P : Program) (keep : List Nat) (fn : Func) : Option Fn :=
  if keep.all (fun t => decide (t < fn.ntmps)) then
    match fn.body with
    | some c => match strip P ⟨fn.ntmps, []⟩ keep c, stripRVs P keep fn.results.toList with
      | some s, some rs => some ⟨fn.ntmps, keep, s, rs⟩
      | _, _ => none
    | none => none
  else none

section
variable {P : Program}

theorem argS_get : ∀ {keep : List Nat} {vs : List Value} {t k : Nat} {v : Value}, posOf keep t = some k → (argS keep vs)[k]? = some (some v) → vs[t]? = some v ∨ (vs[t]? = none ∧ v = undef)
  | [], vs, t, k, v, h, _ => by simp [posOf] at h
  | x :: r, vs, t, k, v, h, hv => by
    simp only [posOf] at h
    split at h
    · rename_i e; subst e; simp at h; subst h
      simp only [argS, List.getElem?_cons_zero, Option.some.injEq] at hv
      have e : vs.toArray[x]? = vs[x]? := by simp
      rw [e] at hv
      cases hx : vs[x]? with
      | none => rw [hx] at hv; simp [argV] at hv; exact .inr ⟨rfl, hv.symm⟩
      | some u => rw [hx] at hv; simp [argV] at hv; exact .inl (by rw [hv])
    · split at h
      · rename_i j hj; simp at h; subst h
        exact argS_get hj (by simpa [argS] using hv)
      · cases h

theorem fits_args {n : Nat} {dd : DD} {keep : List Nat} {vs : List Value} (h : vs.length ≤ n) (hk : keep.all (fun t => decide (t < n)) = true) : F2 ⟨n, []⟩ ⟨[], dd.fix⟩ keep [] (argS keep vs) [] { tmps := vs.toArray ++ Array.replicate (n - vs.toArray.size) undef, defers := [] } := by
  refine ⟨by simp; omega, ⟨rfl, fun t ht => by cases ht⟩, fun t k v ht hv => ?_, fun t k v _ hk _ => by simp [posOf] at hk⟩
  have htn : t < n := by
    have := List.mem_of_getElem? (posOf_get ht)
    have := List.all_eq_true.1 hk t this
    simpa using this
  rcases argS_get ht hv with h1 | ⟨h1, rfl⟩
  · have hlt : t < vs.length := by
      rcases Nat.lt_or_ge t vs.length with h | h
      · exact h
      · rw [List.getElem?_eq_none h] at h1; cases h1
    simp [Array.getElem?_append, hlt]
    simpa [hlt] using h1
  · have hge : vs.length ≤ t := by
      rcases Nat.lt_or_ge t vs.length with h | h
      · rw [List.getElem?_eq_getElem h] at h1; cases h1
      · exact h
    rw [Array.getElem?_append_right (by simpa using hge)]
    simp [Array.getElem?_replicate]; omega

theorem run_loadVar_ok {a : Nat} {t : TypeId} {r : RV} {n : Nx} {dd : DD} {keep : List Nat} {σ : Slots} {act : Act} (h : stripRV P keep (.cell a t) = some r) (hf : F2 n dd keep [] σ [] act) {w : World} {v : Value} (hv : r.val σ w.heap = some v) :
    (do loadVar t (← asAddr (act.tmps.getD a undef)) : Sem Value).run P w = .ok v w := by
  have key : ∀ sz, (sz = none ∧ isAggB P t = some false ∨ ∃ n, sz = some n ∧ isAggB P t = some true ∧ sizeOfB P t = some n) → ldN w.heap sz (evO σ [] (cO keep [] (.tmp a))) = some v → (do loadVar t (← asAddr (act.tmps.getD a undef)) : Sem Value).run P w = .ok v w := by
    intro sz hsz hv
    unfold ldN at hv
    split at hv
    · rename_i ad hx
      have : act.tmps.getD a undef = .pointer (some ad) := by simp [Array.getD_eq_getD_getElem?, hf.tmp hx]
      simp [this, asAddr, run_ld hsz hv]
    · simp at hv
  simp only [stripRV] at h
  split at h
  · rename_i hag; simp at h; subst h; exact key none (.inl ⟨rfl, hag⟩) hv
  · rename_i hag
    simp only [Option.map_eq_some_iff] at h
    obtain ⟨k, hk, rfl⟩ := h
    exact key (some k) (.inr ⟨k, rfl, hag, hk⟩) hv
  · simp at h

theorem run_results {n : Nx} {dd : DD} {keep : List Nat} {σ : Slots} {act : Act} (hf : F2 n dd keep [] σ [] act) {w : World} {f : ResultVar → Sem Value} (hf1 : ∀ t, f (.tmp t) = pure (act.tmps.getD t undef)) (hf2 : ∀ a t, f (.cell a t) = do loadVar t (← asAddr (act.tmps.getD a undef))) :
    ∀ {rs : List ResultVar} {xs : List RV} {vs : List Value}, stripRVs P keep rs = some xs → resV σ w.heap xs = some vs → (rs.mapM f).run P w = .ok vs w
  | [], xs, vs, h, hv => by simp [stripRVs] at h; subst h; simp [resV] at hv; subst hv; simp
  | r :: rs, xs, vs, h, hv => by
    simp only [stripRVs] at h
    split at h
    · rename_i x xs' h1 h2
      simp at h; subst h
      simp only [resV] at hv
      split at hv
      · rename_i v vs' h3 h4
        simp at hv; subst hv
        have ih := run_results hf hf1 hf2 h2 h4
        have hr : (f r).run P w = .ok v w := by
          cases r with
          | tmp t =>
            simp [stripRV] at h1; subst h1
            simp only [RV.val] at h3
            simp [hf1, Array.getD_eq_getD_getElem?, hf.tmp h3]
          | cell a t => rw [hf2]; exact run_loadVar_ok h1 hf h3
        simp only [List.mapM_cons, Sem.run_bind, hr, Result.andThen_ok, ih, Sem.run_pure]
      · simp at hv
    · simp at h

theorem results_ok {fn : Func} {n : Nx} {dd : DD} {keep : List Nat} {σ : Slots} {act : Act} (hf : F2 n dd keep [] σ [] act) {w : World} {xs : List RV} {vs : List Value} (h : stripRVs P keep fn.results.toList = some xs) (hv : resV σ w.heap xs = some vs) :
    (results fn act.tmps).run P w = .ok (match vs with | [v] => v | vs => .tuple vs.toArray) w := by
  simp only [results, Array.mapM_eq_mapM_toList, Sem.run_bind, Sem.run_map]
  rw [run_results hf (fun _ => rfl) (fun _ _ => rfl) h hv]
  simp only [Result.andThen_ok, Sem.run_pure]
  match vs with
  | [] => rfl
  | [v] => rfl
  | v :: u :: r => simp

theorem pcalls_of_vc {f : Nat} {fn : Func} {keep : List Nat} {F : Fn} {args : List Value} {H : Heap} {R : Value → Heap → Prop} {E : Chain → Heap → Prop} (hf : P.funcs[f]? = some fn) (hs : stripFn P keep fn = some F)
    (hn : args.length ≤ F.n) (h : vc P E F.code (argS F.keep args) H (finQ F.res R)) : PCalls P f args.toArray H R E := by
  unfold stripFn at hs
  split at hs
  case isFalse => cases hs
  rename_i hkn
  split at hs
  · rename_i c hb
    split at hs
    · rename_i s rs h1 h2
      simp at hs; subst hs
      intro w hw
      subst hw
      refine calls_of_wp hf hb ?_
      refine wp_mono (vc_sound c h1 (fits_args (dd := ⟨[], fun _ => undef⟩) hn hkn) (Same.refl w) h) fun e a w' hq => ?_
      have fin : ∀ σ, F2 ⟨fn.ntmps, []⟩ ⟨[], fun _ => undef⟩ keep [] σ [] a → Same w w' → finN R w'.heap (resV σ w'.heap rs) → a.defers = [] ∧ ∃ v, (results fn a.tmps).run P w' = .ok v w' ∧ EndH R E w (.returned v) w' := by
        intro σ hfit hsame hfin
        refine ⟨hfit.fixd.1, ?_⟩
        cases hr : resV σ w'.heap rs with
        | none => rw [hr] at hfin; exact hfin.elim
        | some vs =>
          rw [hr] at hfin
          refine ⟨_, results_ok hfit h2 hr, ?_, hsame⟩
          match vs, hfin with
          | [], hfin => exact hfin
          | [v], hfin => exact hfin
          | v :: u :: r, hfin => exact hfin
      cases e <;> simp only [QX, bodyPost, finQ] at hq ⊢
      · obtain ⟨hsame, σ, hfit, hfin⟩ := hq; exact fin σ hfit hsame hfin
      · obtain ⟨_, _, _, hfin⟩ := hq; exact hfin
      · obtain ⟨hsame, σ, hfit, hfin⟩ := hq; exact fin σ hfit hsame hfin
      · obtain ⟨hsame, hfx, hE⟩ := hq; exact ⟨hfx.1, hE, hsame⟩
    · simp at hs
  · simp at hs
theorem calls_of_vc {f : Nat} {fn : Func} {keep : List Nat} {F : Fn} {args : List Value} {H : Heap} {R : Value → Heap → Prop} (hf : P.funcs[f]? = some fn) (hs : stripFn P keep fn = some F)
    (hn : args.length ≤ F.n) (h : vc P (fun _ _ => False) F.code (argS F.keep args) H (finQ F.res R)) : HCalls P f args.toArray H R := pcalls_of_vc hf hs hn h

end
end Gx
