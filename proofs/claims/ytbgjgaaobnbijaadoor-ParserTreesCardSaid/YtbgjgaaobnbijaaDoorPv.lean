/- Walks with the parser: what each small function does to a walk's memory. -/
import Derived.Test.YtbgjgaaobnbijaaDoorPf
import Derived.Test.YtbgjgaaobnbijaaDoorGx21
set_option linter.unusedSimpArgs false
set_option linter.unusedVariables false
set_option maxRecDepth 8000
namespace Go.Proofs.YtbgjgaaobnbijaaDoor
open Gx Go

/-- A walk's memory with the parser in it. -/
abbrev PLv (X : Cx) (H0 : Heap) (ts : List Tk) (k : Nat) (H : Heap) (l : List Ent) (ds : List (Dat × List Value)) : Prop := Lv [X.b] H0 [X.b] (fun H => Ps X H ts k) H l ds
/-- The fault that the walk ends with. -/
abbrev PEr {γ : Type} (X : Cx) (H0 : Heap) (P0 : Except Flt γ) : Chain → Heap → Prop := fun ch H' => ∃ e, P0 = .error e ∧ ch = flt e ∧ Fr [X.b] H0 H'

section
variable {X : Cx} {H0 H H' : Heap} {ts0 ts r : List Tk} {k0 k : Nat} {l : List Ent} {ds : List (Dat × List Value)} {γ : Type} {P0 : Except Flt (γ × List Tk)} {Q : Value → Heap → Prop} {E : Chain → Heap → Prop}
theorem Ps.walk (h : Ps X H ts k) : PLv X H ts k H [] [] := Lv.start (by simpa using h.lt) fun M H' hf hM => Ps.on h h hf fun x hx => (hM x hx).1
theorem _root_.Gx.Lv.ps (L : PLv X H0 ts k H l ds) : Ps X H ts k := Lv.st L
theorem _root_.Gx.Lv.pto {ts' : List Tk} {k' : Nat} (L : PLv X H0 ts k H l ds) (h0 : Ps X H0 ts0 k0) (hf : Fr [X.b] H H') (h : Ps X H' ts' k') : PLv X H0 ts' k' H' l ds :=
  Lv.call L hf fun M H'' hf' hM => Ps.on h0 h hf' fun x hx => (hM x hx).1

theorem POk.go {α : Type} {f : Nat} {av : List Value} {p : PP α} {R : α → Value → Heap → Heap → Prop} {g : α → PP γ} (h : POk k f av p R) (h0 : Ps X H0 ts0 k0) (L : PLv X H0 ts k H l ds) (hp : P0 = bd p g ts)
    (hR : ∀ a r v H', PLv X H0 r k H' l ds → P0 = g a r → p ts = .ok (a, r) → R a v H H' → Q v H') : PCalls Tryd.prog f (ptr X.b :: av).toArray H Q (PEr X H0 P0) :=
  h.use L.ps (fun e H' he hf => ⟨e, by rw [hp, bd_err he], rfl, L.fr.trans hf⟩) fun a r v H' he hv hs hf => hR a r v H' (L.pto h0 hf hs) (by rw [hp, bd_ok he]) he hv
theorem POk.goN {f : Nat} {av : List Value} {p : PP Nd} {g : Nd → PP γ} (h : POk k f av p NdR) (h0 : Ps X H0 ts0 k0) (L : PLv X H0 ts k H l ds) (hp : P0 = bd p g ts)
    (hR : ∀ kk tt nn aa ks kv r H', PLv X H0 r k H' l ((kidsD ks, [kv]) :: ds) → P0 = g (.mk kk tt nn aa ks) r → p ts = .ok (.mk kk tt nn aa ks, r) → Q (.agg #[.int .i64 kk, sv tt, .int .i64 nn, .int .i64 aa, kv]) H') :
    PCalls Tryd.prog f (ptr X.b :: av).toArray H Q (PEr X H0 P0) :=
  h.go h0 L hp fun a r v H' L' hp' he ⟨cs, hv, hr⟩ => by
    subst hv
    obtain ⟨kk, tt, nn, aa, ks⟩ := a
    obtain ⟨kv, rfl, hkv⟩ := RepP.nd_open hr
    exact hR kk tt nn aa ks kv r H' (L'.add (L.built hkv)) hp' he
theorem bd_bd {α β δ : Type} (p : PP α) (f : α → PP β) (g : β → PP δ) (ts : List Tk) : bd (bd p f) g ts = bd p (fun a => bd (f a) g) ts := by
  unfold bd
  cases p ts with
  | error e => rfl
  | ok x => rfl
theorem bd_ret {α : Type} (p : PP α) (ts : List Tk) : bd p ret ts = p ts := by
  unfold bd
  cases p ts with
  | error e => rfl
  | ok x => rfl
/-- The last call. -/
theorem POk.goL {f : Nat} {av : List Value} {p : PP Nd} {P0 : Except Flt (Nd × List Tk)} (h : POk k f av p NdR) (h0 : Ps X H0 ts0 k0) (L : PLv X H0 ts k H l ds) (hp : P0 = p ts)
    (hR : ∀ kk tt nn aa ks kv r H', PLv X H0 r k H' l ((kidsD ks, [kv]) :: ds) → P0 = .ok (.mk kk tt nn aa ks, r) → Q (.agg #[.int .i64 kk, sv tt, .int .i64 nn, .int .i64 aa, kv]) H') :
    PCalls Tryd.prog f (ptr X.b :: av).toArray H Q (PEr X H0 P0) :=
  h.goN h0 L (hp.trans (bd_ret p ts).symm) fun kk tt nn aa ks kv r H' L' hp' he => hR kk tt nn aa ks kv r H' L' (by rw [hp, he])
theorem look_go (L : PLv X H0 ts k H l ds) (hR : ∀ H', PLv X H0 ts k H' l ds → Q (.agg (tkC (hd ts)).toArray) H') : PCalls Tryd.prog 29 #[ptr X.b] H Q E :=
  (look_ok L.ps).mono fun v H' ⟨hv, hf⟩ => hv ▸ hR H' (L.ext hf)
theorem is_go (L : PLv X H0 ts k H l ds) (s : Bs) (hR : ∀ H', PLv X H0 ts k H' l ds → Q (.bool (isB s ts)) H') : PCalls Tryd.prog 35 #[ptr X.b, sv s] H Q E :=
  (is_ok L.ps s).mono fun v H' ⟨hv, hf⟩ => hv ▸ hR H' (L.ext hf)
theorem accept_go (h0 : Ps X H0 ts0 k0) (L : PLv X H0 ts k H l ds) (s : Bs) (hT : isB s ts = true → ∀ H', PLv X H0 ts.tail k H' l ds → Q (.bool true) H') (hF : isB s ts = false → ∀ H', PLv X H0 ts k H' l ds → Q (.bool false) H') : PCalls Tryd.prog 42 #[ptr X.b, sv s] H Q E :=
  (accept_ok L.ps s).mono fun v H' ⟨hv, hs, hf⟩ => by
    subst hv
    cases e : isB s ts with
    | true => rw [e, if_pos rfl] at hs; exact hT e H' (L.pto h0 hf hs)
    | false => rw [e, if_neg (by decide)] at hs; exact hF e H' (L.pto h0 hf hs)
theorem accept_u (h0 : Ps X H0 ts0 k0) (L : PLv X H0 ts k H l ds) (s : Bs) (hR : ∀ H', PLv X H0 (if isB s ts then ts.tail else ts) k H' l ds → Q (.bool (isB s ts)) H') : PCalls Tryd.prog 42 #[ptr X.b, sv s] H Q E :=
  (accept_ok L.ps s).mono fun v H' ⟨hv, hs, hf⟩ => hv ▸ hR H' (L.pto h0 hf hs)
theorem fail_go (L : PLv X H0 ts k H l ds) {c : Int} (hp : P0 = .error (c, (hd ts).at_)) : PCalls Tryd.prog 34 #[ptr X.b, .int .i64 c] H Q (PEr X H0 P0) :=
  (fail_ok L.ps c).mono (fun _ _ h => h.elim) fun ch H' ⟨hc, hf⟩ => ⟨_, hp, hc, L.fr.trans (fr1 hf)⟩
theorem leave_go {k' : Nat} (h0 : Ps X H0 ts0 k0) (L : PLv X H0 ts k H l ds) (hk : k' = k + 1) (h64 : k' ≤ 64) (hR : ∀ v H', PLv X H0 ts k' H' l ds → Q v H') : PCalls Tryd.prog 39 #[ptr X.b] H Q E :=
  (leave_ok L.ps (by omega)).mono fun v H' ⟨hs, hf⟩ => hR v H' (L.pto h0 hf (hk ▸ hs))
theorem enter_go {α β : Type} {lo : Nat → Option β} {s : Bs} {body : β → PP α} {P0 : Except Flt (α × List Tk)} (h0 : Ps X H0 ts0 k0) (L : PLv X H0 ts k H l ds) (hlo : lo 0 = none) (hlo' : ∀ j, ∃ x, lo (j + 1) = some x) (hp : P0 = entP (lo k) s body ts)
    (hR : ∀ j x H', k = j + 1 → lo (j + 1) = some x → PLv X H0 ts.tail j H' l ds → isB s ts = true → P0 = body x ts.tail → Q (.int .i64 (hd ts).at_) H') : PCalls Tryd.prog 37 #[ptr X.b, sv s] H Q (PEr X H0 P0) := by
  cases e : isB s ts with
  | false =>
    refine (enter_no L.ps (s := s) (.inl e)).mono (fun _ _ h => h.elim) fun ch H' ⟨hc, hf⟩ => ?_
    rw [e, if_neg (by decide)] at hc
    exact ⟨_, by rw [hp, entP_no e], hc, L.fr.trans hf⟩
  | true =>
    cases k with
    | zero =>
      refine (enter_no L.ps (s := s) (.inr rfl)).mono (fun _ _ h => h.elim) fun ch H' ⟨hc, hf⟩ => ?_
      rw [e, if_pos rfl] at hc
      exact ⟨_, by rw [hp, hlo, entP_0 e], hc, L.fr.trans hf⟩
    | succ j =>
      obtain ⟨x, hx⟩ := hlo' j
      refine (enter_ok L.ps e).mono fun v H' ⟨hv, hs, hf⟩ => ?_
      subst hv
      exact hR j x H' rfl hx (L.pto h0 hf hs) e (by rw [hp, hx, entP_s e])
/-- A node is returned. -/
theorem _root_.Gx.Lv.fin {P0 : Except Flt (Nd × List Tk)} {kk nn aa : Int} {tt : Bs} {ks : List Nd} {kv : Value} (L : PLv X H0 r k H l ds) (hp : P0 = ret (.mk kk tt nn aa ks) r) (hk : (kidsD ks, [kv]) ∈ ds ∨ (ks = [] ∧ kv = .slice none 0 0)) :
    ∃ a r, P0 = .ok (a, r) ∧ NdR a (.agg #[.int .i64 kk, sv tt, .int .i64 nn, .int .i64 aa, kv]) H0 H ∧ Ps X H r k ∧ Fr [X.b] H0 H := by
  suffices hq : RepP H (Lk H0.size [X.b] l) (kidsD ks) [kv] by
    exact ⟨_, r, hp, ⟨_, rfl, RepP.nd (hq.more fun x hx => .inl (.inl hx))⟩, L.ps, L.fr⟩
  rcases hk with hk | ⟨rfl, rfl⟩
  · exact L.dat _ hk
  · exact zeroKids
/-- A row of trees is finished. -/
theorem _root_.Gx.Lv.rowN (L : PLv X H0 r k H l ds) (i : Nat) (ns : List Nd) {v : Value} {g : Option Nat} (hi : l[i]? = some (.row 24 5 v (ns.map Nd.dat) g)) : PLv X H0 r k H (l.eraseIdx i) ((kidsD ns, [v]) :: ds) := Lv.rowDone L i hi
theorem _root_.Gx.Lv.one (L : PLv X H0 r k H l ds) {ks : List Nd} {kv : Value} (h : (kidsD ks, [kv]) ∈ ds) : kv.oneCell' = true := nd_one (L.dat _ h)
/-- A row of trees. -/
theorem _root_.Gx.Lv.row {n : Nat} {css : List (List Value)} {cs : List Value} {R : Value → Heap → Prop} (L : PLv X H0 r k H l ds) (ks : List Nd) (hcs : cs = css.flatten) (hl : ∀ x ∈ css, x.length = 5) (hR : RepsP H (Lk H0.size [X.b] l) (ks.map Nd.dat) css) (hn : n = ks.length) (h63 : ks.length ≤ maxLen)
    (h : ∀ b H', PLv X H0 r k H' l ((kidsD ks, [.slice (some ⟨b, 0, none⟩) n n]) :: ds) → R (.slice (some ⟨b, 0, none⟩) n n) H') : NewS H 24 n cs R :=
  NewS_intro fun H' hb hf _ => h _ H' (Lv.rowOf (L.push hf hb) hcs hl (hR.to (StaysP.ext hf fun x hx => .inl hx)) (by simpa using hn) (by simpa using h63))
theorem _root_.Gx.Lv.ndr (L : PLv X H0 r k H l ds) {kk nn aa : Int} {tt : Bs} {ks : List Nd} {kv : Value} (h : (kidsD ks, [kv]) ∈ ds) : RepP H (Lk H0.size [X.b] l) (Nd.dat (.mk kk tt nn aa ks)) [.int .i64 kk, sv tt, .int .i64 nn, .int .i64 aa, kv] := RepP.nd (L.dat _ h)
end
/-- A row of one tree that may grow. -/
theorem _root_.Gx.Lv.rowN1 {X : Cx} {H0 H : Heap} {r : List Tk} {k : Nat} {l : List Ent} {ds : List (Dat × List Value)} {b : Nat} {kk nn aa : Int} {tt : Bs} {ks : List Nd} {kv : Value} (L : PLv X H0 r k H (.blk b 24 [.int .i64 kk, sv tt, .int .i64 nn, .int .i64 aa, kv] :: l) ds) (hk : (kidsD ks, [kv]) ∈ ds) :
    PLv X H0 r k H (.row 24 5 (.slice (some ⟨b, 0, none⟩) 1 1) ([Nd.mk kk tt nn aa ks].map Nd.dat) (some b) :: l) ds :=
  Lv.rowOwn L (css := [[.int .i64 kk, sv tt, .int .i64 nn, .int .i64 aa, kv]]) (by simp) (by simp) (RepsP.nil.cons (L.ndr hk)) (by simp) (by simp [maxLen])
theorem ENd : ElemOk Tryd.prog 22 24 5 64 (.agg #[.int .i64 0, .string ⟨⟨[]⟩⟩, .int .i64 0, .int .i64 0, .slice none 0 0]) := ⟨Tryd.underlying22, by kernel_rfl, rfl, by decide⟩
end Go.Proofs.YtbgjgaaobnbijaaDoor
