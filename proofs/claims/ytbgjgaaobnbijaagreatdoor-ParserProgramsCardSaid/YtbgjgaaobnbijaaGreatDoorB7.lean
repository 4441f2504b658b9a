import Derived.Test.YtbgjgaaobnbijaaGreatDoorB6
import Derived.Test.YtbgjgaaobnbijaaGreatDoorB5
import Derived.Test.YtbgjgaaobnbijaaGreatDoorRows
import Derived.WalkKit
import Derived.ProofKit
import Derived.OpenShut
import Derived.LaidMore
import Derived.LaidLaws
import Derived.Stop.Joined
section
/- Lattices of the specification: contract. -/
set_option linter.unusedSimpArgs false
set_option linter.unusedVariables false
set_option maxRecDepth 8000
namespace Go.Proofs.YtbgjgaaobnbijaaGreatDoor
open Gx Go
theorem isB_kw {s : Bs} {ts : List Tk} (e : isB s ts = true) (s' : Bs) : isB s' ts = decide (s' = s) := by
  have ht := isB_text e
  unfold isB at e ⊢
  rw [ht] at e ⊢
  simp only [Bool.and_eq_true] at e
  rw [e.1, Bool.true_and]
  by_cases h : s = s'
  · subst h; simp
  · have h' : ¬ s' = s := fun q => h q.symm
    simp [h, h']
theorem isB_k1 {s : Bs} {ts : List Tk} (e : isB s ts = true) : ¬ (hd ts).kind = 1 := by
  unfold isB at e
  simp only [Bool.and_eq_true, Bool.or_eq_true, decide_eq_true_eq] at e
  omega
/-- What a word says of a lattice. -/
def latK (lo : LLo) (s : Bs) (at_ : Int) : PP Nd := fun ts =>
  if s = [102, 108, 97, 103] then .ok (.mk 10 [] 0 at_ [], ts.tail)
  else if s = [114, 101, 103, 105, 115, 116, 101, 114] then .ok (.mk 18 [] 0 at_ [], ts.tail)
  else if s = [115, 101, 116] then bd allowedP (fun l => ret (.mk 13 [] 0 at_ l)) ts.tail
  else if s = [102, 108, 97, 116] then bd allowedP (fun l => ret (.mk 17 [] 0 at_ l)) ts.tail
  else if s = [109, 97, 112] then entP lo [109, 97, 112] (fun x => bd allowedP fun l => bd x fun y => ret (.mk 14 [] 0 at_ (l ++ [y]))) ts
  else if s = [109, 97, 120] then bd (twoP intP) (fun l => ret (.mk 11 [] 0 at_ l)) ts.tail
  else if s = [109, 105, 110] then bd (twoP intP) (fun l => ret (.mk 12 [] 0 at_ l)) ts.tail
  else if s = [108, 101, 120] then entP lo [108, 101, 120] (fun x => bd (twoP x) fun l => ret (.mk 16 [] 0 at_ l)) ts
  else if s = [123] then entP lo [123] (fun x => bd (memsP x) fun l => ret (.mk 15 [] 0 at_ l)) ts
  else if s = [99, 108, 111, 115, 101, 100] then bd closedP (fun l => ret (.mk 19 [] 0 at_ l)) ts.tail
  else .error (2, at_)
theorem ite_dec {α : Type} {p : Prop} [Decidable p] {a b c : α} (h : b = c) : (if decide p = true then a else b) = if p then a else c := by
  subst h
  by_cases q : p <;> simp [q]
theorem latP_kw {lo : LLo} {s : Bs} {ts : List Tk} (e : isB s ts = true) : latP lo ts = latK lo s (hd ts).at_ ts := by
  have e2 := isB_kw e
  unfold latP latK
  rw [if_neg (isB_k1 e)]
  rw [e2, e2, e2, e2, e2, e2, e2, e2, e2, e2]
  have sym : ∀ a b : Bs, (a = b) = (b = a) := fun a b => propext ⟨Eq.symm, Eq.symm⟩
  simp only [decide_eq_true_eq, sym s]
theorem latX_kw {lo : LLo} {s : Bs} {σ : Sx} {ts : List Tk} (hσ : σ = .ok ts) (e : isB s ts = true) {R : Except Flt (Nd × List Tk)} (h : latK lo s (hd ts).at_ ts = R) : liX (latP lo) σ = R := by
  rw [hσ, ← h]; exact latP_kw e
theorem rdecU {X : Cx} {σ : Sx} {j k : Nat} {i o : Int} {b : Bool} {c a : Int} (h : RsC X σ j i o b c a) (hj : (k = j + 1 ∧ k ≤ 64) ∨ j = 65) : RsC X σ k i (IntKind.i64.wrap (o - 1)) b c a := by
  rcases hj with ⟨h1, h2⟩ | rfl
  · exact rdec h h1 h2
  · obtain ⟨n, rfl, hn, h1⟩ := h
    refine ⟨n, rfl, hn, ?_⟩
    cases σ with
    | error e => exact h1
    | ok ts => obtain ⟨_, _, h3, _⟩ := h1; omega
/-- `fail` leaves the place. -/
theorem rfail_at {X : Cx} {H : Heap} {ts : List Tk} {k : Nat} (hs : Rs X H (.ok ts) k) (cd : Int) : HCalls Tryz.prog 38 #[ptr X.b, .int .i64 cd] H fun v H' => (∃ (n : Nat) (o a : Int), Blk H' X.b 52 (cells X n o true cd a) ∧ RsC X (.error (cd, (hd ts).at_)) k n o true cd a ∧ ts = X.T.drop n) ∧ Rs X H' (.error (cd, (hd ts).at_)) k ∧ Fr [X.b] H H' := by
  refine calls_of_vc (args := [_, _]) Tryz.func38 c38ok (Nat.le_of_ble_eq_true rfl) ?_
  have L := hs.walk
  obtain ⟨i, o, b, c, a, hb, n, rfl, hn, rfl, rfl, hk, rfl⟩ := hs.ex
  have hc := hb.cell
  unfold cells at hc
  unfold ptr
  simp (implicitDefEqProofs := false) only [go_sem, c38, hc]
  refine rsto (σ' := .error (c, a)) (k' := k) (i' := n) (o' := ((64 - k : Nat) : Int)) (b' := true) (c' := c) (a' := a) hs L hb (by decide) rfl rfl ⟨n, rfl, hn, rfl, rfl, rfl⟩ fun H1 L hb1 => ?_
  have ht := rtoken_at L.rs hb1 hn
  unfold ptr at ht
  simp (implicitDefEqProofs := false) only [go_sem]
  refine ht.mono ?_
  rintro v H2 ⟨rfl, hf2⟩
  have L := L.ext hf2
  have hb2 := hb1.ext hf2
  simp (implicitDefEqProofs := false) only [go_sem, tkC]
  have he : (hd (X.T.drop n)).at_ = X.T[n].at_ := by rw [List.drop_eq_getElem_cons hn]; rfl
  refine Sto_blk [.int .i64 cd, .int .i64 X.T[n].at_] H2 _ 4 0 hb2 (by simp [cells]) (by simp [Value.oneCell']) fun H3 hn3 hf3 _ => ?_
  simp (implicitDefEqProofs := false) only [go_sem]
  simp only [cells, setL] at hn3
  have hr := L.rs
  have hC : RsC X (.error (cd, (hd (X.T.drop n)).at_)) k n ((64 - k : Nat) : Int) true cd X.T[n].at_ := ⟨n, rfl, hn, rfl, rfl, by rw [he]⟩
  exact ⟨⟨n, _, _, hn3, hC, rfl⟩, ⟨⟨n, _, true, cd, X.T[n].at_, hn3, hC⟩, hr.row.fr hf3 (fun b o e => by have := hr.ne b o e; simpa using this), hr.ne, hr.cap, hr.fin, hr.rng⟩, L.fr.trans hf3⟩
/-- `enter` before a step: in a state of fault too. -/
theorem enterU {X : Cx} {H0 H : Heap} {σ0 : Sx} {k0 : Nat} {ts : List Tk} {k : Nat} {l : List Ent} {ds : List (Dat × List Value)} {Q : Value → Heap → Prop} {E : Chain → Heap → Prop} {P0 : Except Flt (Nd × List Tk)} {s : Bs} {G : PP Nd → PP Nd}
    (h65 : ∀ p, ROk 65 35 [] p NdR) (hlat : ∀ j, k = j + 1 → ROk j 35 [] (levL j) NdR) (h0 : Rs X H0 σ0 k0) (L : RLv X H0 (.ok ts) k H l ds) (e : isB s ts = true) (hp : P0 = entP (loL k) s G ts)
    (hR : ∀ v H' σ j px σ2 i o b c a, RLv X H0 σ j H' l ds → ROk j 35 [] px NdR → Dn px → ((k = j + 1 ∧ k ≤ 64) ∨ j = 65) → Blk H' X.b 52 (cells X i o b c a) → IntKind.i64.wrap (i + 1) = i + 1 → RsC X σ2 j (i + 1) o b c a → P0 = liX (G px) σ2 → lenX σ2 ≤ 1048575 → Q v H') : PCalls Tryz.prog 55 #[ptr X.b] H Q E := by
  have hr := L.rs
  refine HCalls.mono (R := fun v H' => ((k = 0 ∧ ∃ (n : Nat) (o c a : Int), Blk H' X.b 52 (cells X n o true c a) ∧ RsC X (.error (6, (hd ts).at_)) 65 n o true c a ∧ ts = X.T.drop n ∧ Rs X H' (.error (6, (hd ts).at_)) 65) ∨ ∃ j, k = j + 1 ∧ Rs X H' (.ok ts) j) ∧ Fr [X.b] H H') ?_ ?_
  · refine calls_of_vc (args := [_]) Tryz.func55 c55ok (Nat.le_of_ble_eq_true rfl) ?_
    have hs := hr
    have L := hs.walk
    obtain ⟨i, o, b, c, a, hb, hC⟩ := hs.ex
    have hc := hb.cell
    unfold cells at hc
    obtain ⟨n, rfl, hn, rfl, rfl, hk, rfl⟩ := hC
    unfold ptr
    cases k with
    | zero =>
      have h1 : (64 : Int) ≤ ((64 - 0 : Nat) : Int) := by omega
      have hf := rfail_at hs 6
      unfold ptr at hf
      simp (implicitDefEqProofs := false) only [go_sem, c55, hc, h1]
      refine hf.mono ?_
      rintro v H1 ⟨⟨n', o, a', hb, hC, hd'⟩, hs1, hf1⟩
      have L := L.rto hs hf1 hs1
      have hc := hb.cell
      unfold cells at hc
      simp (implicitDefEqProofs := false) only [go_sem, hc]
      have hC65 : RsC X (.error (6, (hd (X.T.drop n)).at_)) 65 n' (IntKind.i64.wrap (o + 1)) true 6 a' := hC
      refine rsto (σ' := .error (6, (hd (X.T.drop n)).at_)) (k' := 65) (o' := IntKind.i64.wrap (o + 1)) hs L hb (by decide) rfl rfl hC65 fun HI L hbI => ?_
      simp (implicitDefEqProofs := false) only [go_sem]
      exact ⟨.inl ⟨n', _, _, _, hbI, hC65, hd', L.rs⟩, L.fr⟩
    | succ j =>
      have h1 : ¬ ((64 : Int) ≤ ((64 - (j + 1) : Nat) : Int)) := by omega
      have hw : IntKind.i64.wrap (((64 - (j + 1) : Nat) : Int) + 1) = ((64 - j : Nat) : Int) := by rw [wrap_i64_id _ (by omega) (by omega)]; omega
      simp (implicitDefEqProofs := false) only [go_sem, c55, hc, h1, hw]
      refine rsto (σ' := .ok (X.T.drop n)) (k' := j) (o' := ((64 - j : Nat) : Int)) hs L hb (by decide) rfl rfl ⟨n, rfl, hn, rfl, rfl, by omega, rfl⟩ fun HI L hbI => ?_
      simp (implicitDefEqProofs := false) only [go_sem]
      exact ⟨⟨j, rfl, L.rs⟩, L.fr⟩
  · rintro v H' ⟨h, hf⟩
    have hlen := hr.len
    have hpos := isB_pos e
    rcases h with ⟨hk, n, o, c, a, hb, hC, hd', hs'⟩ | ⟨j, hk, hs'⟩
    · subst hk
      obtain ⟨hw, hC'⟩ := rincE hC hr (isB_kind e) ⟨n, rfl, hd'⟩
      exact hR v H' _ 65 (levL 0) _ n o true c a (L.rto h0 hf hs') (h65 _) (levL_dn 0) (.inr rfl) hb hw hC' (hp.trans (entP_0 e)) (Nat.zero_le _)
    · obtain ⟨i, o, b, c, a, hb, hC⟩ := hs'.ex
      obtain ⟨hw, hC'⟩ := rinc hC hs' (isB_kind e)
      subst hk
      exact hR v H' _ j (levL j) _ i o b c a (L.rto h0 hf hs') (hlat j rfl) (levL_dn j) (.inl ⟨rfl, hr.k64⟩) hb hw hC' (by rw [hp]; exact entP_s e) (by show ts.tail.length ≤ _; rw [List.length_tail]; omega)

/-- In a state of fault nothing is read. -/
theorem lattice_E {X : Cx} {H : Heap} {er : Flt} {k : Nat} (p : PP Nd) (hs : Rs X H (.error er) k) : HCalls Tryz.prog 35 #[ptr X.b] H fun v H' => ∃ a σ', NdR a v H H' ∧ Rs X H' σ' k ∧ Fr [X.b] H H' ∧ LnX p (.error er) a σ' := by
  refine calls_of_vc (args := [_]) Tryz.func35 c35ok (Nat.le_of_ble_eq_true rfl) ?_
  have L := hs.walk
  simp (implicitDefEqProofs := false) only [go_sem, c35]
  refine L.newP fun b1 H1 L => ?_
  simp (implicitDefEqProofs := false) only [go_sem]
  refine rtoken_go L fun t H2 L ht hrng => ?_
  simp (implicitDefEqProofs := false) only [go_sem, tkC]
  refine L.newP fun b2 H3 L => ?_
  simp (implicitDefEqProofs := false) only [go_sem]
  refine L.stoAll 0 rfl rfl (one4' t) fun H4 L => ?_
  simp only [List.set_cons_zero, List.set_cons_succ, List.set_nil, List.eraseIdx_cons_zero, List.eraseIdx_cons_succ] at L
  have ct := L.cell 0 rfl
  simp (implicitDefEqProofs := false) only [go_sem, ct]
  refine L.newP fun b3 H5 L => ?_
  simp (implicitDefEqProofs := false) only [go_sem]
  refine L.stoAll 0 rfl rfl (one_agg (t := []) rfl) fun H6 L => ?_
  simp only [List.set_cons_zero, List.set_cons_succ, List.set_nil, List.eraseIdx_cons_zero, List.eraseIdx_cons_succ] at L
  have ct := L.cell 1 rfl
  have hP0 : liX p (Except.error er) = liX p (Except.error er) := rfl
  have hp : liX p (Except.error er) = .error er := rfl
  by_cases k1 : t.kind = 1
  · replace hp : liX p (Except.error er) = liX (bd (textP 1) fun s => ret (.mk 21 s 0 t.at_ [])) (.error er) := hp
    simp (implicitDefEqProofs := false) only [go_sem, ct, k1]
    refine L.stoOne 0 rfl (by simp) rfl fun H8 L => ?_
    simp only [List.set_cons_zero, List.set_cons_succ, List.set_nil, List.eraseIdx_cons_zero, List.eraseIdx_cons_succ] at L
    simp (implicitDefEqProofs := false) only [go_sem]
    refine (text_sp 1 (by decide)).go hs L hp fun s v σ1 H9 L hp _ hv => ?_
    cases hv
    simp (implicitDefEqProofs := false) only [go_sem, sv]
    refine L.stoOne 0 rfl (by simp) rfl fun H10 L => ?_
    simp only [List.set_cons_zero, List.set_cons_succ, List.set_nil, List.eraseIdx_cons_zero, List.eraseIdx_cons_succ] at L
    simp (implicitDefEqProofs := false) only [go_sem]
    have c := L.cell 0 rfl
    simp (implicitDefEqProofs := false) only [go_sem, c]
    refine L.stoAll 2 rfl rfl (one_agg rfl) fun HZ L => ?_
    simp only [List.set_cons_zero, List.set_cons_succ, List.set_nil, List.eraseIdx_cons_zero, List.eraseIdx_cons_succ] at L
    have c := L.cell 2 rfl
    simp (implicitDefEqProofs := false) only [go_sem, c]
    exact L.rfin (hP0 ▸ hp) (.inr ⟨rfl, rfl⟩)
  simp (implicitDefEqProofs := false) only [go_sem, ct, k1]
  refine ris_go L [102, 108, 97, 103] (fun ts H7 hσ e L => by cases hσ) fun H7 e L => ?_
  simp (implicitDefEqProofs := false) only [go_sem]
  refine ris_go L [114, 101, 103, 105, 115, 116, 101, 114] (fun ts H7 hσ e L => by cases hσ) fun H7 e L => ?_
  simp (implicitDefEqProofs := false) only [go_sem]
  refine ris_go L [115, 101, 116] (fun ts H7 hσ e L => by cases hσ) fun H7 e L => ?_
  simp (implicitDefEqProofs := false) only [go_sem]
  refine ris_go L [102, 108, 97, 116] (fun ts H7 hσ e L => by cases hσ) fun H7 e L => ?_
  simp (implicitDefEqProofs := false) only [go_sem]
  refine ris_go L [109, 97, 120] (fun ts H7 hσ e L => by cases hσ) fun H7 e L => ?_
  simp (implicitDefEqProofs := false) only [go_sem]
  refine ris_go L [109, 105, 110] (fun ts H7 hσ e L => by cases hσ) fun H7 e L => ?_
  simp (implicitDefEqProofs := false) only [go_sem]
  refine ris_go L [109, 97, 112] (fun ts H7 hσ e L => by cases hσ) fun H7 e L => ?_
  simp (implicitDefEqProofs := false) only [go_sem]
  refine ris_go L [108, 101, 120] (fun ts H7 hσ e L => by cases hσ) fun H7 e L => ?_
  simp (implicitDefEqProofs := false) only [go_sem]
  refine ris_go L [123] (fun ts H7 hσ e L => by cases hσ) fun H7 e L => ?_
  simp (implicitDefEqProofs := false) only [go_sem]
  refine ris_go L [99, 108, 111, 115, 101, 100] (fun ts H7 hσ e L => by cases hσ) fun H7 e L => ?_
  simp (implicitDefEqProofs := false) only [go_sem]
  refine rfail_go (cd := 2) (P0 := liX p (Except.error er)) hs L hp fun v e H9 L hp => ?_
  replace hp : liX p (Except.error er) = liX (ret (.mk 0 [] 0 t.at_ [])) (.error e) := hp
  simp (implicitDefEqProofs := false) only [go_sem]
  have c := L.cell 0 rfl
  simp (implicitDefEqProofs := false) only [go_sem, c]
  refine L.stoAll 2 rfl rfl (one_agg (t := []) rfl) fun HZ L => ?_
  simp only [List.set_cons_zero, List.set_cons_succ, List.set_nil, List.eraseIdx_cons_zero, List.eraseIdx_cons_succ] at L
  have c := L.cell 2 rfl
  simp (implicitDefEqProofs := false) only [go_sem, c]
  exact L.rfin (hP0 ▸ hp) (.inr ⟨rfl, rfl⟩)
theorem lattice_65 (p : PP Nd) : ROk 65 35 [] p NdR := by
  refine ⟨fun {X H σ} hs => ?_⟩
  cases σ with
  | error e => exact lattice_E p hs
  | ok ts => have := hs.k64; omega
theorem bd_bd' {α β γ : Type} (p : PP α) (f : α → PP β) (g : β → PP γ) : bd (bd p f) g = bd p fun a => bd (f a) g := funext (bd_bd p f g)
theorem twoP_bd {γ : Type} (p : PP Nd) (G : List Nd → PP γ) : bd (twoP p) G = bd (expP [40]) fun _ => bd p fun a => bd (expP [44]) fun _ => bd p fun b => bd (expP [41]) fun _ => G [a, b] := by
  unfold twoP
  simp only [bd_bd']
  rfl
theorem optQ_bd {γ : Type} (G : List Nd → PP γ) : bd optQ G = fun ts => if (hd ts).kind = 4 then bd quotesP G ts else G [] ts := by
  funext ts
  unfold bd optQ
  by_cases h : (hd ts).kind = 4
  · simp only [h, if_true]
  · simp only [h, if_false]
theorem closedP_bd {γ : Type} (G : List Nd → PP γ) : bd closedP G = bd (expP [40]) fun _ => bd optQ fun l ts => bd (rulesF ts.length l) (fun l => bd (expP [41]) fun _ => G l) ts := by
  unfold closedP
  simp only [bd_bd']
  congr 1; funext _; congr 1; funext l; funext ts
  show bd (bd (rulesF ts.length l) _) G ts = _
  rw [bd_bd']
  congr 1; funext l
  rw [bd_bd']; rfl
theorem ruleP_bdX {γ : Type} (G : Nd → PP γ) (ts : List Tk) : bd ruleP G ts = bd optQ (fun q => bd (expP [61, 62]) fun _ => bd quoteP fun c => G (.mk 20 [] 0 (hd ts).at_ (q ++ [c]))) ts := by
  show bd (bd optQ _) G ts = _
  rw [bd_bd']
  congr 1; funext q
  rw [bd_bd']
  congr 1; funext _
  rw [bd_bd']; rfl
theorem memsP_liX {γ : Type} (x : PP Nd) (G : List Nd → PP γ) (σ : Sx) : liX (bd (memsP x) G) σ = liX (bd (memF x (lenX σ + 1) []) fun l => bd (expP [125]) fun _ => G l) σ := by
  refine liX_eq fun ts h => ?_
  subst h
  show bd (bd (memF x (ts.length + 1) []) _) G ts = _
  rw [bd_bd']
  show _ = bd (memF x (ts.length + 1) []) _ ts
  congr 1; funext l
  rw [bd_bd']; rfl
theorem memF_bd {γ : Type} (x : PP Nd) (f : Nat) (l : List Nd) (G : List Nd → PP γ) : bd (memF x (f + 1) l) G = bd (takeP 1) fun t => bd (expP [58]) fun _ => bd x fun y => fun ts => if isB [44] ts then bd (memF x f (l ++ [.mk 22 t.text 0 t.at_ [y]])) G ts.tail else G (l ++ [.mk 22 t.text 0 t.at_ [y]]) ts := by
  simp only [memF, memP, bd_bd']
  congr 1; funext t; congr 1; funext _; congr 1; funext y; funext ts
  show bd (fun ts => if isB [44] ts then memF x f (l ++ [.mk 22 t.text 0 t.at_ [y]]) ts.tail else .ok (l ++ [.mk 22 t.text 0 t.at_ [y]], ts)) G ts = _
  unfold bd
  by_cases h : isB [44] ts = true
  · simp only [h, if_true]
  · have h' : isB [44] ts = false := by simpa using h
    simp only [h', Bool.false_eq_true, if_false]
theorem bd_at {α γ : Type} {p q : PP α} {K : α → PP γ} {ts ts' : List Tk} (h : p ts = q ts') : bd p K ts = bd q K ts' := by
  unfold bd; rw [h]
set_option maxHeartbeats 1000000 in
/-- A rule from its arrow on. -/
theorem rule_tail {X : Cx} {H H1 : Heap} {σ0 σ : Sx} {k b4 b3 b2 b1 c c' : Nat} {a a' : Option Addr} {g g' : Option Nat} {ns q : List Nd} {at1 at2 : Int} {cs2 cs1 : List Value} {γ : Type} {P0 : Except Flt (γ × List Tk)} {G : Nd → PP γ} {y4 y5 y6 y7 y8 y10 y11 y12 y13 y14 y15 y16 y17 y18 y19 y20 y21 y22 y23 y24 y25 : Option Value} {Q : Post}
    (hs : Rs X H σ0 k) (L : RLv X H σ k H1 [.row 25 5 (.slice a' q.length c') (q.map Nd.dat) g', .blk b4 25 [.int .i64 20, sv [], .int .i64 0, .int .i64 at2, .slice a' q.length c'], .row 25 5 (.slice a ns.length c) (ns.map Nd.dat) g, .blk b3 25 [.int .i64 19, sv [], .int .i64 0, .int .i64 at1, .slice a ns.length c], .blk b2 41 cs2, .blk b1 25 cs1] [])
    (hq : q.length ≤ 1048577) (hn : ns.length ≤ 1048577) (hp : P0 = liX (bd (expP [61, 62]) fun _ => bd quoteP fun c => G (.mk 20 [] 0 at2 (q ++ [c]))) σ)
    (hQ : ∀ r σ' a c g H' z10, RLv X H σ' k H' [.row 25 5 (.slice a (ns ++ [r]).length c) ((ns ++ [r]).map Nd.dat) g, .blk b3 25 [.int .i64 19, sv [], .int .i64 0, .int .i64 at1, .slice a (ns ++ [r]).length c], .blk b2 41 cs2, .blk b1 25 cs1] [] → P0 = liX (G r) σ' → lenX σ' ≤ lenX σ → Q .nrm [some (ptr X.b), some (.pointer (some ⟨b1, 0, none⟩)), some (.pointer (some ⟨b2, 0, none⟩)), some (.pointer (some ⟨b3, 0, none⟩)), y4, y5, y6, y7, y8, some (.pointer (some ⟨b4, 0, none⟩)), z10, y11, y12, y13, y14, y15, y16, y17, y18, y19, y20, y21, y22, y23, y24, y25] H') :
    vc Tryz.prog (fun _ _ => False) c35s141 [some (ptr X.b), some (.pointer (some ⟨b1, 0, none⟩)), some (.pointer (some ⟨b2, 0, none⟩)), some (.pointer (some ⟨b3, 0, none⟩)), y4, y5, y6, y7, y8, some (.pointer (some ⟨b4, 0, none⟩)), y10, y11, y12, y13, y14, y15, y16, y17, y18, y19, y20, y21, y22, y23, y24, y25] H1 Q := by
  rw [c35s141eq]
  simp (implicitDefEqProofs := false) only [go_sem]
  refine (take_sp [61, 62]).go hs L hp fun _ v σ1 H2 L hp he1 _ => ?_
  have hl1 := lenX_le (expP_dn _) he1
  simp (implicitDefEqProofs := false) only [go_sem]
  refine rtoken_go L fun t H3 L ht _ => ?_
  simp (implicitDefEqProofs := false) only [go_sem, tkC]
  refine L.newP fun b5 H4 L => ?_
  simp (implicitDefEqProofs := false) only [go_sem]
  refine L.stoAll 0 rfl rfl (one_agg (t := []) rfl) fun H5 L => ?_
  simp only [List.set_cons_zero, List.set_cons_succ, List.set_nil, List.eraseIdx_cons_zero, List.eraseIdx_cons_succ] at L
  unfold quoteP at hp
  rw [liX_bd, liX_take ht] at hp
  simp (implicitDefEqProofs := false) only [go_sem]
  refine (text_sp 4 (by decide)).go hs L hp fun s v σ2 H6 L hp he2 hv => ?_
  cases hv
  have hl2 : lenX σ2 ≤ lenX σ1 := lenX_le ((takeP_dn 4).bnd fun _ => Dn.ret _) he2
  replace hp := hp.trans liX_ret
  simp (implicitDefEqProofs := false) only [go_sem, sv]
  refine L.stoOne 0 rfl (by simp) rfl fun H7 L => ?_
  simp only [List.set_cons_zero, List.set_cons_succ, List.set_nil, List.eraseIdx_cons_zero, List.eraseIdx_cons_succ] at L
  have c5 := L.cell 0 rfl
  have c4 := L.cell 2 rfl
  simp (implicitDefEqProofs := false) only [go_sem, c4, c5]
  refine L.newS fun bA H8 L => ?_
  simp (implicitDefEqProofs := false) only [go_sem]
  refine L.appN' (ns := q) (ks := []) 1 rfl (.inr ⟨rfl, rfl⟩) (by omega) fun a' c' g' H9 L => ?_
  simp only [List.set_cons_zero, List.set_cons_succ, List.set_nil, List.eraseIdx_cons_zero, List.eraseIdx_cons_succ] at L
  simp (implicitDefEqProofs := false) only [go_sem]
  refine L.stoOne 2 rfl (by simp) rfl fun H10 L => ?_
  simp only [List.set_cons_zero, List.set_cons_succ, List.set_nil, List.eraseIdx_cons_zero, List.eraseIdx_cons_succ] at L
  have L := L.rowN' 1 (q ++ [.mk 47 s 0 t.at_ []]) rfl
  simp only [List.set_cons_zero, List.set_cons_succ, List.set_nil, List.eraseIdx_cons_zero, List.eraseIdx_cons_succ] at L
  have c3 := L.cell 3 rfl
  have c4 := L.cell 1 rfl
  simp (implicitDefEqProofs := false) only [go_sem, c3, c4]
  refine L.newS fun bB H11 L => ?_
  simp (implicitDefEqProofs := false) only [go_sem]
  refine L.appN' (ns := ns) (ks := q ++ [.mk 47 s 0 t.at_ []]) 2 rfl (.inl (by simp)) (by omega) fun a'' c'' g'' H12 L => ?_
  simp only [List.set_cons_zero, List.set_cons_succ, List.set_nil, List.eraseIdx_cons_zero, List.eraseIdx_cons_succ] at L
  simp (implicitDefEqProofs := false) only [go_sem]
  refine L.stoOne 3 rfl (by simp) rfl fun H13 L => ?_
  simp only [List.set_cons_zero, List.set_cons_succ, List.set_nil, List.eraseIdx_cons_zero, List.eraseIdx_cons_succ] at L
  simp (implicitDefEqProofs := false) only [go_sem]
  have L := L.drop (l' := [_, _, _, _]) (List.drop_sublist 2 [_, _, _, _, _, _]) (ds' := []) (by simp)
  exact hQ _ σ2 a'' c'' g'' H13 _ L hp (by omega)
set_option maxHeartbeats 1000000 in
/-- The rules of a closed lattice. -/
theorem rules_tail {X : Cx} {H H1 : Heap} {σ0 σ : Sx} {k b3 b2 b1 c : Nat} {a : Option Addr} {g : Option Nat} {ns : List Nd} {at1 : Int} {cs2 cs1 : List Value} {γ : Type} {P0 : Except Flt (γ × List Tk)} {G : List Nd → PP γ} {y4 y5 y6 y7 y8 y9 y10 y11 y12 y13 y14 y15 y16 y17 y18 y19 y20 y21 y22 y23 y24 y25 : Option Value} {Q : Post}
    (hs : Rs X H σ0 k) (L : RLv X H σ k H1 [.row 25 5 (.slice a ns.length c) (ns.map Nd.dat) g, .blk b3 25 [.int .i64 19, sv [], .int .i64 0, .int .i64 at1, .slice a ns.length c], .blk b2 41 cs2, .blk b1 25 cs1] [])
    (hn : ns.length + lenX σ ≤ 1048577) (hp : P0 = liX (bd (rulesF (lenX σ) ns) fun l => bd (expP [41]) fun _ => G l) σ)
    (hQ : ∀ ns σ' a c g H' z4 z5 z6 z7 z8 z9 z10 z11 z12 z13 z14 z15 z16 z17 z18 z19 z20 z21 z22 z23 z24 z25, RLv X H σ' k H' [.row 25 5 (.slice a ns.length c) (ns.map Nd.dat) g, .blk b3 25 [.int .i64 19, sv [], .int .i64 0, .int .i64 at1, .slice a ns.length c], .blk b2 41 cs2, .blk b1 25 cs1] [] → P0 = liX (G ns) σ' → Q .nrm [some (ptr X.b), some (.pointer (some ⟨b1, 0, none⟩)), some (.pointer (some ⟨b2, 0, none⟩)), some (.pointer (some ⟨b3, 0, none⟩)), z4, z5, z6, z7, z8, z9, z10, z11, z12, z13, z14, z15, z16, z17, z18, z19, z20, z21, z22, z23, z24, z25] H') :
    vc Tryz.prog (fun _ _ => False) c35s148 [some (ptr X.b), some (.pointer (some ⟨b1, 0, none⟩)), some (.pointer (some ⟨b2, 0, none⟩)), some (.pointer (some ⟨b3, 0, none⟩)), y4, y5, y6, y7, y8, y9, y10, y11, y12, y13, y14, y15, y16, y17, y18, y19, y20, y21, y22, y23, y24, y25] H1 Q := by
  rw [c35s148eq]
  have hnr : ∀ σ' : Sx, lenX σ' ≤ lenX σ' := fun _ => Nat.le_refl _
  simp (implicitDefEqProofs := false) only [go_sem]
  refine vc_loop (fun (s : Sx × List Nd × (Option Addr × Nat)) H' => ∃ g f, RLv X H s.1 k H' [.row 25 5 (.slice s.2.2.1 s.2.1.length s.2.2.2) (s.2.1.map Nd.dat) g, .blk b3 25 [.int .i64 19, sv [], .int .i64 0, .int .i64 at1, .slice s.2.2.1 s.2.1.length s.2.2.2], .blk b2 41 cs2, .blk b1 25 cs1] [] ∧
    P0 = liX (bd (rulesF f s.2.1) fun l => bd (expP [41]) fun _ => G l) s.1 ∧ lenX s.1 ≤ f ∧ s.2.1.length + lenX s.1 ≤ 1048577)
    (fun s => [(0, ptr X.b), (2, .pointer (some ⟨b1, 0, none⟩)), (3, .pointer (some ⟨b2, 0, none⟩)), (4, .pointer (some ⟨b3, 0, none⟩))]) (fun s => lenX s.1) (σ, ns, (a, c)) ?_ ?_ ?_
  · exact ⟨g, lenX σ, L, hp, Nat.le_refl _, hn⟩
  · simp (implicitDefEqProofs := false) only [go_sem, ptr]
  · rintro ⟨σ1, ns, va, vc⟩ H2 ⟨g, f, L, hp, hf, hle⟩
    simp only at L hp hf hle ⊢
    simp (implicitDefEqProofs := false) only [go_sem]
    refine ris_go L [59] (fun ts' H3 hσ e L => ?_) fun H3 e L => ?_
    · rw [hσ] at hp hf hle
      have hf1 : ts'.length ≤ f := hf
      have hle1 : ns.length + ts'.length ≤ 1048577 := hle
      have hpos := isB_pos e
      have hl3 := tl_lt e
      have hl4 : lenX (.ok ts'.tail) = ts'.tail.length := rfl
      obtain ⟨f, rfl⟩ : ∃ f', f = f' + 1 := ⟨f - 1, by omega⟩
      have hr : rulesF (f + 1) ns ts' = bd ruleP (fun r => rulesF f (ns ++ [r])) ts'.tail := by simp only [rulesF, e, if_true]
      replace hp : P0 = bd ruleP (fun r => bd (rulesF f (ns ++ [r])) fun l => bd (expP [41]) fun _ => G l) ts'.tail := by
        rw [hp, ← bd_bd']
        exact bd_at hr
      rw [ruleP_bdX] at hp
      replace hp : P0 = liX (bd optQ fun q => bd (expP [61, 62]) fun _ => bd quoteP fun c => bd (rulesF f (ns ++ [.mk 20 [] 0 (hd ts'.tail).at_ (q ++ [c])])) fun l => bd (expP [41]) fun _ => G l) (.ok ts'.tail) := hp
      simp (implicitDefEqProofs := false) only [go_sem]
      obtain ⟨iI, oI, bI, dI, aI, hbI, hCI⟩ := L.rs.ex
      have cI := hbI.cell
      unfold cells at cI
      obtain ⟨hwI, hCI'⟩ := rinc hCI L.rs (isB_kind e)
      first | unfold ptr | skip
      simp (implicitDefEqProofs := false) only [go_sem, cI, hwI]
      refine rsto hs L hbI (by decide) rfl rfl hCI' fun HI L hbI => ?_
      simp (implicitDefEqProofs := false) only [go_sem]
      refine rtoken_go L fun t2 H4 L ht2 _ => ?_
      rw [← ht2 _ rfl] at hp
      simp (implicitDefEqProofs := false) only [go_sem, tkC]
      refine L.newP fun b4 H5 L => ?_
      simp (implicitDefEqProofs := false) only [go_sem]
      refine L.stoAll 0 rfl rfl (one_agg (t := []) rfl) fun H6 L => ?_
      simp only [List.set_cons_zero, List.set_cons_succ, List.set_nil, List.eraseIdx_cons_zero, List.eraseIdx_cons_succ] at L
      simp (implicitDefEqProofs := false) only [go_sem]
      refine rtoken_go L fun t3 H7 L ht3 _ => ?_
      have e23 : t3 = t2 := (ht3 _ rfl).trans (ht2 _ rfl).symm
      rw [optQ_bd] at hp
      by_cases k4 : t2.kind = 4
      · replace hp := hp.trans (liX_if fun ts h => by cases h; rw [← ht2 _ rfl]; exact k4)
        simp (implicitDefEqProofs := false) only [go_sem, tkC, e23, k4]
        have c4 := L.cell 0 rfl
        simp (implicitDefEqProofs := false) only [go_sem, c4]
        refine (quotes_spB none).goB hs L hp fun q a' c' g' σ2 H8 L hp he hq => ?_
        have hl5 := lenX_le quotesP_dn he
        simp (implicitDefEqProofs := false) only [go_sem]
        refine L.stoOne 1 rfl (by simp) rfl fun H9 L => ?_
        simp only [List.set_cons_zero, List.set_cons_succ, List.set_nil, List.eraseIdx_cons_zero, List.eraseIdx_cons_succ] at L
        simp (implicitDefEqProofs := false) only [go_sem]
        refine rule_tail (G := fun r => bd (rulesF f (ns ++ [r])) fun l => bd (expP [41]) fun _ => G l) hs L hq (by omega) hp fun r σ' a c g H' z10 L hp hl => ?_
        simp (implicitDefEqProofs := false) only [go_sem]
        refine loopK_intro (σ', ns ++ [r], (a, c)) ?_ ?_ ⟨g, f, L, hp, ?_, ?_⟩
        · show lenX σ' < lenX σ1
          rw [hσ]; show _ < ts'.length; omega
        · simp (implicitDefEqProofs := false) only [go_sem, ptr]
        · show lenX σ' ≤ f; omega
        · show (ns ++ [r]).length + lenX σ' ≤ 1048577
          simp only [List.length_append, List.length_cons, List.length_nil]; omega
      · replace hp := hp.trans (liX_else fun ts h => by cases h; rw [← ht2 _ rfl]; exact k4)
        simp (implicitDefEqProofs := false) only [go_sem, tkC, e23, k4]
        have L := L.row0 25 5
        refine rule_tail (q := []) (a' := none) (c' := 0) (G := fun r => bd (rulesF f (ns ++ [r])) fun l => bd (expP [41]) fun _ => G l) hs L (by simp) (by omega) hp fun r σ' a c g H' z10 L hp hl => ?_
        simp (implicitDefEqProofs := false) only [go_sem]
        refine loopK_intro (σ', ns ++ [r], (a, c)) ?_ ?_ ⟨g, f, L, hp, ?_, ?_⟩
        · show lenX σ' < lenX σ1
          rw [hσ]; show _ < ts'.length; omega
        · simp (implicitDefEqProofs := false) only [go_sem, ptr]
        · show lenX σ' ≤ f; omega
        · show (ns ++ [r]).length + lenX σ' ≤ 1048577
          simp only [List.length_append, List.length_cons, List.length_nil]; omega
    · replace hp : P0 = liX (bd (expP [41]) fun _ => G ns) σ1 := by
        rw [hp]
        refine liX_eq fun ts h => ?_
        have e' := isX_of e ts h
        cases f with
        | zero => rfl
        | succ f =>
          have hr : rulesF (f + 1) ns ts = ret ns ts := by simp only [rulesF, e', Bool.false_eq_true, if_false]; rfl
          exact bd_at hr
      simp (implicitDefEqProofs := false) only [go_sem]
      refine (take_sp [41]).go hs L hp fun _ v σ2 H4 L hp _ _ => ?_
      simp (implicitDefEqProofs := false) only [go_sem]
      exact hQ ns σ2 va vc g H4 _ _ _ _ _ _ _ _ _ _ _ _ _ _ _ _ _ _ _ _ _ _ L hp
theorem quotes_bnd {σ σ' : Sx} {ns : List Nd} (he : LnX quotesP σ ns σ') (h1 : lenX σ ≤ 1048576) (h2 : ns.length ≤ 1048577) : ns.length + lenX σ' ≤ 1048577 := by
  cases σ' with
  | error e => exact h2
  | ok r =>
    obtain ⟨ts, rfl, hp⟩ := he.okd
    have := quotesP_len hp
    have h1' : ts.length ≤ 1048576 := h1
    show ns.length + r.length ≤ _
    omega
set_option maxHeartbeats 4000000 in
theorem lattice_sp {k : Nat} (hlat : ∀ j, k = j + 1 → ROk j 35 [] (levL j) NdR) : ROk k 35 [] (latP (loL k)) NdR := by
  refine ⟨fun {X H σ} hs => ?_⟩
  refine calls_of_vc (args := [_]) Tryz.func35 c35ok (Nat.le_of_ble_eq_true rfl) ?_
  have L := hs.walk
  obtain ⟨P0, hP0⟩ : ∃ P0, P0 = liX (latP (loL k)) σ := ⟨_, rfl⟩
  have hp := hP0
  simp (implicitDefEqProofs := false) only [go_sem, c35]
  refine L.newP fun b1 H1 L => ?_
  simp (implicitDefEqProofs := false) only [go_sem]
  refine rtoken_go L fun t H2 L ht hrng => ?_
  simp (implicitDefEqProofs := false) only [go_sem, tkC]
  refine L.newP fun b2 H3 L => ?_
  simp (implicitDefEqProofs := false) only [go_sem]
  refine L.stoAll 0 rfl rfl (one4' t) fun H4 L => ?_
  simp only [List.set_cons_zero, List.set_cons_succ, List.set_nil, List.eraseIdx_cons_zero, List.eraseIdx_cons_succ] at L
  have ct := L.cell 0 rfl
  simp (implicitDefEqProofs := false) only [go_sem, ct]
  refine L.newP fun b3 H5 L => ?_
  simp (implicitDefEqProofs := false) only [go_sem]
  refine L.stoAll 0 rfl rfl (one_agg (t := []) rfl) fun H6 L => ?_
  simp only [List.set_cons_zero, List.set_cons_succ, List.set_nil, List.eraseIdx_cons_zero, List.eraseIdx_cons_succ] at L
  have ct := L.cell 1 rfl
  by_cases k1 : t.kind = 1
  · unfold latP at hp
    replace hp : P0 = liX (namedP 21) σ := hp.trans (liX_if fun ts h => by rw [← ht ts h]; exact k1)
    unfold namedP at hp
    rw [liX_take ht] at hp
    simp (implicitDefEqProofs := false) only [go_sem, ct, k1]
    refine L.stoOne 0 rfl (by simp) rfl fun H8 L => ?_
    simp only [List.set_cons_zero, List.set_cons_succ, List.set_nil, List.eraseIdx_cons_zero, List.eraseIdx_cons_succ] at L
    simp (implicitDefEqProofs := false) only [go_sem]
    refine (text_sp 1 (by decide)).go hs L hp fun s v σ1 H9 L hp _ hv => ?_
    cases hv
    simp (implicitDefEqProofs := false) only [go_sem, sv]
    refine L.stoOne 0 rfl (by simp) rfl fun H10 L => ?_
    simp only [List.set_cons_zero, List.set_cons_succ, List.set_nil, List.eraseIdx_cons_zero, List.eraseIdx_cons_succ] at L
    simp (implicitDefEqProofs := false) only [go_sem]
    have c := L.cell 0 rfl
    simp (implicitDefEqProofs := false) only [go_sem, c]
    refine L.stoAll 2 rfl rfl (one_agg rfl) fun HZ L => ?_
    simp only [List.set_cons_zero, List.set_cons_succ, List.set_nil, List.eraseIdx_cons_zero, List.eraseIdx_cons_succ] at L
    have c := L.cell 2 rfl
    simp (implicitDefEqProofs := false) only [go_sem, c]
    exact L.rfin (hP0 ▸ hp) (.inr ⟨rfl, rfl⟩)
  simp (implicitDefEqProofs := false) only [go_sem, ct, k1]
  refine ris_go L [102, 108, 97, 103] (fun ts H7 hσ e L => ?_) fun H7 e1 L => ?_
  · replace hp : P0 = liX (ret (.mk 10 [] 0 t.at_ [])) (.ok ts.tail) := by
      rw [hp, ht ts hσ]
      exact latX_kw hσ e (by simp [latK, ret, liX])
    simp (implicitDefEqProofs := false) only [go_sem]
    refine L.stoOne 0 rfl (by simp) rfl fun H8 L => ?_
    simp only [List.set_cons_zero, List.set_cons_succ, List.set_nil, List.eraseIdx_cons_zero, List.eraseIdx_cons_succ] at L
    simp (implicitDefEqProofs := false) only [go_sem]
    obtain ⟨iI, oI, bI, dI, aI, hbI, hCI⟩ := L.rs.ex
    have cI := hbI.cell
    unfold cells at cI
    obtain ⟨hwI, hCI'⟩ := rinc hCI L.rs (isB_kind e)
    first | unfold ptr | skip
    simp (implicitDefEqProofs := false) only [go_sem, cI, hwI]
    refine rsto hs L hbI (by decide) rfl rfl hCI' fun HI L hbI => ?_
    simp (implicitDefEqProofs := false) only [go_sem]
    have c := L.cell 0 rfl
    simp (implicitDefEqProofs := false) only [go_sem, c]
    refine L.stoAll 2 rfl rfl (one_agg (t := []) rfl) fun HZ L => ?_
    simp only [List.set_cons_zero, List.set_cons_succ, List.set_nil, List.eraseIdx_cons_zero, List.eraseIdx_cons_succ] at L
    have c := L.cell 2 rfl
    simp (implicitDefEqProofs := false) only [go_sem, c]
    exact L.rfin (hP0 ▸ hp) (.inr ⟨rfl, rfl⟩)
  simp (implicitDefEqProofs := false) only [go_sem]
  refine ris_go L [114, 101, 103, 105, 115, 116, 101, 114] (fun ts H7 hσ e L => ?_) fun H7 e2 L => ?_
  · replace hp : P0 = liX (ret (.mk 18 [] 0 t.at_ [])) (.ok ts.tail) := by
      rw [hp, ht ts hσ]
      exact latX_kw hσ e (by simp [latK, ret, liX])
    simp (implicitDefEqProofs := false) only [go_sem]
    refine L.stoOne 0 rfl (by simp) rfl fun H8 L => ?_
    simp only [List.set_cons_zero, List.set_cons_succ, List.set_nil, List.eraseIdx_cons_zero, List.eraseIdx_cons_succ] at L
    simp (implicitDefEqProofs := false) only [go_sem]
    obtain ⟨iI, oI, bI, dI, aI, hbI, hCI⟩ := L.rs.ex
    have cI := hbI.cell
    unfold cells at cI
    obtain ⟨hwI, hCI'⟩ := rinc hCI L.rs (isB_kind e)
    first | unfold ptr | skip
    simp (implicitDefEqProofs := false) only [go_sem, cI, hwI]
    refine rsto hs L hbI (by decide) rfl rfl hCI' fun HI L hbI => ?_
    simp (implicitDefEqProofs := false) only [go_sem]
    have c := L.cell 0 rfl
    simp (implicitDefEqProofs := false) only [go_sem, c]
    refine L.stoAll 2 rfl rfl (one_agg (t := []) rfl) fun HZ L => ?_
    simp only [List.set_cons_zero, List.set_cons_succ, List.set_nil, List.eraseIdx_cons_zero, List.eraseIdx_cons_succ] at L
    have c := L.cell 2 rfl
    simp (implicitDefEqProofs := false) only [go_sem, c]
    exact L.rfin (hP0 ▸ hp) (.inr ⟨rfl, rfl⟩)
  simp (implicitDefEqProofs := false) only [go_sem]
  refine ris_go L [115, 101, 116] (fun ts H7 hσ e L => ?_) fun H7 e3 L => ?_
  · replace hp : P0 = liX (bd allowedP fun l => ret (.mk 13 [] 0 t.at_ l)) (.ok ts.tail) := by
      rw [hp, ht ts hσ]
      exact latX_kw hσ e (by simp [latK, liX])
    simp (implicitDefEqProofs := false) only [go_sem]
    refine L.stoOne 0 rfl (by simp) rfl fun H8 L => ?_
    simp only [List.set_cons_zero, List.set_cons_succ, List.set_nil, List.eraseIdx_cons_zero, List.eraseIdx_cons_succ] at L
    simp (implicitDefEqProofs := false) only [go_sem]
    obtain ⟨iI, oI, bI, dI, aI, hbI, hCI⟩ := L.rs.ex
    have cI := hbI.cell
    unfold cells at cI
    obtain ⟨hwI, hCI'⟩ := rinc hCI L.rs (isB_kind e)
    first | unfold ptr | skip
    simp (implicitDefEqProofs := false) only [go_sem, cI, hwI]
    refine rsto hs L hbI (by decide) rfl rfl hCI' fun HI L hbI => ?_
    simp (implicitDefEqProofs := false) only [go_sem]
    refine allowed_sp.goR hs L hp fun ns a c gb σ' H9 L hp _ => ?_
    simp (implicitDefEqProofs := false) only [go_sem]
    refine L.stoOne 1 rfl (by simp) rfl fun HA L => ?_
    simp only [List.set_cons_zero, List.set_cons_succ, List.set_nil, List.eraseIdx_cons_zero, List.eraseIdx_cons_succ] at L
    have L := L.rowN' 0 ns rfl
    simp only [List.set_cons_zero, List.set_cons_succ, List.set_nil, List.eraseIdx_cons_zero, List.eraseIdx_cons_succ] at L
    simp (implicitDefEqProofs := false) only [go_sem]
    have c := L.cell 0 rfl
    simp (implicitDefEqProofs := false) only [go_sem, c]
    refine L.stoAll 2 rfl rfl (one_agg (t := []) rfl) fun HZ L => ?_
    simp only [List.set_cons_zero, List.set_cons_succ, List.set_nil, List.eraseIdx_cons_zero, List.eraseIdx_cons_succ] at L
    have c := L.cell 2 rfl
    simp (implicitDefEqProofs := false) only [go_sem, c]
    exact L.rfin (hP0 ▸ hp) (.inl (by simp))
  simp (implicitDefEqProofs := false) only [go_sem]
  refine ris_go L [102, 108, 97, 116] (fun ts H7 hσ e L => ?_) fun H7 e4 L => ?_
  · replace hp : P0 = liX (bd allowedP fun l => ret (.mk 17 [] 0 t.at_ l)) (.ok ts.tail) := by
      rw [hp, ht ts hσ]
      exact latX_kw hσ e (by simp [latK, liX])
    simp (implicitDefEqProofs := false) only [go_sem]
    refine L.stoOne 0 rfl (by simp) rfl fun H8 L => ?_
    simp only [List.set_cons_zero, List.set_cons_succ, List.set_nil, List.eraseIdx_cons_zero, List.eraseIdx_cons_succ] at L
    simp (implicitDefEqProofs := false) only [go_sem]
    obtain ⟨iI, oI, bI, dI, aI, hbI, hCI⟩ := L.rs.ex
    have cI := hbI.cell
    unfold cells at cI
    obtain ⟨hwI, hCI'⟩ := rinc hCI L.rs (isB_kind e)
    first | unfold ptr | skip
    simp (implicitDefEqProofs := false) only [go_sem, cI, hwI]
    refine rsto hs L hbI (by decide) rfl rfl hCI' fun HI L hbI => ?_
    simp (implicitDefEqProofs := false) only [go_sem]
    refine allowed_sp.goR hs L hp fun ns a c gb σ' H9 L hp _ => ?_
    simp (implicitDefEqProofs := false) only [go_sem]
    refine L.stoOne 1 rfl (by simp) rfl fun HA L => ?_
    simp only [List.set_cons_zero, List.set_cons_succ, List.set_nil, List.eraseIdx_cons_zero, List.eraseIdx_cons_succ] at L
    have L := L.rowN' 0 ns rfl
    simp only [List.set_cons_zero, List.set_cons_succ, List.set_nil, List.eraseIdx_cons_zero, List.eraseIdx_cons_succ] at L
    simp (implicitDefEqProofs := false) only [go_sem]
    have c := L.cell 0 rfl
    simp (implicitDefEqProofs := false) only [go_sem, c]
    refine L.stoAll 2 rfl rfl (one_agg (t := []) rfl) fun HZ L => ?_
    simp only [List.set_cons_zero, List.set_cons_succ, List.set_nil, List.eraseIdx_cons_zero, List.eraseIdx_cons_succ] at L
    have c := L.cell 2 rfl
    simp (implicitDefEqProofs := false) only [go_sem, c]
    exact L.rfin (hP0 ▸ hp) (.inl (by simp))
  simp (implicitDefEqProofs := false) only [go_sem]
  refine ris_go L [109, 97, 120] (fun ts H7 hσ e L => ?_) fun H7 e5 L => ?_
  · replace hp : P0 = liX (bd (twoP intP) fun l => ret (.mk 11 [] 0 t.at_ l)) (.ok ts.tail) := by
      rw [hp, ht ts hσ]
      exact latX_kw hσ e (by simp [latK, liX])
    rw [twoP_bd] at hp
    simp (implicitDefEqProofs := false) only [go_sem]
    refine L.stoOne 0 rfl (by simp) rfl fun H8 L => ?_
    simp only [List.set_cons_zero, List.set_cons_succ, List.set_nil, List.eraseIdx_cons_zero, List.eraseIdx_cons_succ] at L
    simp (implicitDefEqProofs := false) only [go_sem]
    refine ris_go L [109, 97, 120] (fun ts' H9 hσ' e' L => ?_) fun H9 e' L => by
      have e'' : isB [109, 97, 120] ts = false := e'
      rw [e] at e''; cases e''
    cases hσ'
    simp (implicitDefEqProofs := false) only [go_sem]
    refine L.stoOne 0 rfl (by simp) rfl fun H10 L => ?_
    simp only [List.set_cons_zero, List.set_cons_succ, List.set_nil, List.eraseIdx_cons_zero, List.eraseIdx_cons_succ] at L
    simp (implicitDefEqProofs := false) only [go_sem]
    obtain ⟨iI, oI, bI, dI, aI, hbI, hCI⟩ := L.rs.ex
    have cI := hbI.cell
    unfold cells at cI
    obtain ⟨hwI, hCI'⟩ := rinc hCI L.rs (isB_kind e)
    first | unfold ptr | skip
    simp (implicitDefEqProofs := false) only [go_sem, cI, hwI]
    refine rsto hs L hbI (by decide) rfl rfl hCI' fun HI L hbI => ?_
    simp (implicitDefEqProofs := false) only [go_sem]
    refine (take_sp [40]).go hs L hp fun _ v σ2 H8 L hp _ _ => ?_
    simp (implicitDefEqProofs := false) only [go_sem]
    refine integer_sp.goN hs L hp fun kk tt nn aa ks kv σ3 H9 L hp _ => ?_
    simp (implicitDefEqProofs := false) only [go_sem]
    refine L.newP fun b4 H10 L => ?_
    simp (implicitDefEqProofs := false) only [go_sem]
    refine L.stoAll 0 rfl rfl (one_agg (L.one' (ks := ks) (by simp))) fun H11 L => ?_
    simp only [List.set_cons_zero, List.set_cons_succ, List.set_nil, List.eraseIdx_cons_zero, List.eraseIdx_cons_succ] at L
    simp (implicitDefEqProofs := false) only [go_sem]
    refine (take_sp [44]).go hs L hp fun _ v σ4 H12 L hp _ _ => ?_
    simp (implicitDefEqProofs := false) only [go_sem]
    refine integer_sp.goN hs L hp fun kk' tt' nn' aa' ks' kv' σ5 H13 L hp _ => ?_
    simp (implicitDefEqProofs := false) only [go_sem]
    refine L.newP fun b5 H14 L => ?_
    simp (implicitDefEqProofs := false) only [go_sem]
    refine L.stoAll 0 rfl rfl (one_agg (L.one' (ks := ks') (by simp))) fun H15 L => ?_
    simp only [List.set_cons_zero, List.set_cons_succ, List.set_nil, List.eraseIdx_cons_zero, List.eraseIdx_cons_succ] at L
    simp (implicitDefEqProofs := false) only [go_sem]
    refine (take_sp [41]).go hs L hp fun _ v σ6 H16 L hp _ _ => ?_
    have c4 := L.cell 1 rfl
    have c5 := L.cell 0 rfl
    simp (implicitDefEqProofs := false) only [go_sem, c4, c5]
    refine L.newS fun b6 H17 L => ?_
    have L := L.rowOwn (dl := [Nd.mk kk tt nn aa ks, Nd.mk kk' tt' nn' aa' ks'].map Nd.dat) (m := 5) (n := 2) (css := [[.int .i64 kk, sv tt, .int .i64 nn, .int .i64 aa, kv], [.int .i64 kk', sv tt', .int .i64 nn', .int .i64 aa', kv']]) (by simp only [List.flatten_cons, List.flatten_nil, List.append_nil, List.cons_append, List.nil_append]) (by simp) ((RepsP.nil.cons (L.ndr' (ks := ks') (by simp))).cons (L.ndr' (ks := ks) (by simp))) rfl (by simp [maxLen])
    have L := L.rowN' 0 [.mk kk tt nn aa ks, .mk kk' tt' nn' aa' ks'] rfl
    simp only [List.set_cons_zero, List.set_cons_succ, List.set_nil, List.eraseIdx_cons_zero, List.eraseIdx_cons_succ] at L
    simp (implicitDefEqProofs := false) only [go_sem]
    refine L.stoOne 2 rfl (by simp) rfl fun H18 L => ?_
    simp only [List.set_cons_zero, List.set_cons_succ, List.set_nil, List.eraseIdx_cons_zero, List.eraseIdx_cons_succ] at L
    simp (implicitDefEqProofs := false) only [go_sem]
    have c := L.cell 2 rfl
    simp (implicitDefEqProofs := false) only [go_sem, c]
    refine L.stoAll 4 rfl rfl (one_agg (t := []) rfl) fun HZ L => ?_
    simp only [List.set_cons_zero, List.set_cons_succ, List.set_nil, List.eraseIdx_cons_zero, List.eraseIdx_cons_succ] at L
    have c := L.cell 4 rfl
    simp (implicitDefEqProofs := false) only [go_sem, c]
    exact L.rfin (hP0 ▸ hp) (.inl (by simp))
  simp (implicitDefEqProofs := false) only [go_sem]
  refine ris_go L [109, 105, 110] (fun ts H7 hσ e L => ?_) fun H7 e6 L => ?_
  · replace hp : P0 = liX (bd (twoP intP) fun l => ret (.mk 12 [] 0 t.at_ l)) (.ok ts.tail) := by
      rw [hp, ht ts hσ]
      exact latX_kw hσ e (by simp [latK, liX])
    rw [twoP_bd] at hp
    simp (implicitDefEqProofs := false) only [go_sem]
    refine L.stoOne 0 rfl (by simp) rfl fun H8 L => ?_
    simp only [List.set_cons_zero, List.set_cons_succ, List.set_nil, List.eraseIdx_cons_zero, List.eraseIdx_cons_succ] at L
    simp (implicitDefEqProofs := false) only [go_sem]
    refine ris_go L [109, 97, 120] (fun ts' H9 hσ' e' L => by
      cases hσ'
      have := isB_kw e' [109, 105, 110]
      rw [e] at this; exact absurd this (by decide)) fun H9 e' L => ?_
    simp (implicitDefEqProofs := false) only [go_sem]
    obtain ⟨iI, oI, bI, dI, aI, hbI, hCI⟩ := L.rs.ex
    have cI := hbI.cell
    unfold cells at cI
    obtain ⟨hwI, hCI'⟩ := rinc hCI L.rs (isB_kind e)
    first | unfold ptr | skip
    simp (implicitDefEqProofs := false) only [go_sem, cI, hwI]
    refine rsto hs L hbI (by decide) rfl rfl hCI' fun HI L hbI => ?_
    simp (implicitDefEqProofs := false) only [go_sem]
    refine (take_sp [40]).go hs L hp fun _ v σ2 H8 L hp _ _ => ?_
    simp (implicitDefEqProofs := false) only [go_sem]
    refine integer_sp.goN hs L hp fun kk tt nn aa ks kv σ3 H9 L hp _ => ?_
    simp (implicitDefEqProofs := false) only [go_sem]
    refine L.newP fun b4 H10 L => ?_
    simp (implicitDefEqProofs := false) only [go_sem]
    refine L.stoAll 0 rfl rfl (one_agg (L.one' (ks := ks) (by simp))) fun H11 L => ?_
    simp only [List.set_cons_zero, List.set_cons_succ, List.set_nil, List.eraseIdx_cons_zero, List.eraseIdx_cons_succ] at L
    simp (implicitDefEqProofs := false) only [go_sem]
    refine (take_sp [44]).go hs L hp fun _ v σ4 H12 L hp _ _ => ?_
    simp (implicitDefEqProofs := false) only [go_sem]
    refine integer_sp.goN hs L hp fun kk' tt' nn' aa' ks' kv' σ5 H13 L hp _ => ?_
    simp (implicitDefEqProofs := false) only [go_sem]
    refine L.newP fun b5 H14 L => ?_
    simp (implicitDefEqProofs := false) only [go_sem]
    refine L.stoAll 0 rfl rfl (one_agg (L.one' (ks := ks') (by simp))) fun H15 L => ?_
    simp only [List.set_cons_zero, List.set_cons_succ, List.set_nil, List.eraseIdx_cons_zero, List.eraseIdx_cons_succ] at L
    simp (implicitDefEqProofs := false) only [go_sem]
    refine (take_sp [41]).go hs L hp fun _ v σ6 H16 L hp _ _ => ?_
    have c4 := L.cell 1 rfl
    have c5 := L.cell 0 rfl
    simp (implicitDefEqProofs := false) only [go_sem, c4, c5]
    refine L.newS fun b6 H17 L => ?_
    have L := L.rowOwn (dl := [Nd.mk kk tt nn aa ks, Nd.mk kk' tt' nn' aa' ks'].map Nd.dat) (m := 5) (n := 2) (css := [[.int .i64 kk, sv tt, .int .i64 nn, .int .i64 aa, kv], [.int .i64 kk', sv tt', .int .i64 nn', .int .i64 aa', kv']]) (by simp only [List.flatten_cons, List.flatten_nil, List.append_nil, List.cons_append, List.nil_append]) (by simp) ((RepsP.nil.cons (L.ndr' (ks := ks') (by simp))).cons (L.ndr' (ks := ks) (by simp))) rfl (by simp [maxLen])
    have L := L.rowN' 0 [.mk kk tt nn aa ks, .mk kk' tt' nn' aa' ks'] rfl
    simp only [List.set_cons_zero, List.set_cons_succ, List.set_nil, List.eraseIdx_cons_zero, List.eraseIdx_cons_succ] at L
    simp (implicitDefEqProofs := false) only [go_sem]
    refine L.stoOne 2 rfl (by simp) rfl fun H18 L => ?_
    simp only [List.set_cons_zero, List.set_cons_succ, List.set_nil, List.eraseIdx_cons_zero, List.eraseIdx_cons_succ] at L
    simp (implicitDefEqProofs := false) only [go_sem]
    have c := L.cell 2 rfl
    simp (implicitDefEqProofs := false) only [go_sem, c]
    refine L.stoAll 4 rfl rfl (one_agg (t := []) rfl) fun HZ L => ?_
    simp only [List.set_cons_zero, List.set_cons_succ, List.set_nil, List.eraseIdx_cons_zero, List.eraseIdx_cons_succ] at L
    have c := L.cell 4 rfl
    simp (implicitDefEqProofs := false) only [go_sem, c]
    exact L.rfin (hP0 ▸ hp) (.inl (by simp))
  simp (implicitDefEqProofs := false) only [go_sem]
  refine ris_go L [109, 97, 112] (fun ts H7 hσ e L => ?_) fun H7 e7 L => ?_
  · replace hp : P0 = entP (loL k) [109, 97, 112] (fun x => bd allowedP fun l => bd x fun y => ret (.mk 14 [] 0 t.at_ (l ++ [y]))) ts := by
      rw [hp, ht ts hσ]
      exact latX_kw hσ e (by simp [latK])
    simp (implicitDefEqProofs := false) only [go_sem]
    refine L.stoOne 0 rfl (by simp) rfl fun H8 L => ?_
    simp only [List.set_cons_zero, List.set_cons_succ, List.set_nil, List.eraseIdx_cons_zero, List.eraseIdx_cons_succ] at L
    simp (implicitDefEqProofs := false) only [go_sem]
    refine enterU lattice_65 hlat hs L e hp fun v H9 σ1 j px σ2 iI oI bI dI aI L hx hdn hj hbI hwI hCI' hp hlen => ?_
    have cI := hbI.cell
    unfold cells at cI
    first | unfold ptr | skip
    simp (implicitDefEqProofs := false) only [go_sem, cI, hwI]
    refine rsto hs L hbI (by decide) rfl rfl hCI' fun HI L hbI => ?_
    simp (implicitDefEqProofs := false) only [go_sem]
    refine allowed_spB.goB hs L hp fun ns a c gb σ3 H10 L hp he hns => ?_
    simp (implicitDefEqProofs := false) only [go_sem]
    refine L.stoOne 1 rfl (by simp) rfl fun HA L => ?_
    simp only [List.set_cons_zero, List.set_cons_succ, List.set_nil, List.eraseIdx_cons_zero, List.eraseIdx_cons_succ] at L
    have cn := L.cell 1 rfl
    simp (implicitDefEqProofs := false) only [go_sem, cn]
    refine hx.goN hs L hp fun kk tt nn aa ks kv σ4 H11 L hp _ => ?_
    have cn := L.cell 1 rfl
    simp (implicitDefEqProofs := false) only [go_sem, cn]
    refine L.newS fun b4 H12 L => ?_
    have cn := L.cell 2 rfl
    simp (implicitDefEqProofs := false) only [go_sem, cn]
    refine L.appN' (ns := ns) (ks := ks) 0 rfl (.inl (by simp)) (by omega) fun a c g' H13 L => ?_
    simp only [List.set_cons_zero, List.set_cons_succ, List.set_nil, List.eraseIdx_cons_zero, List.eraseIdx_cons_succ] at L
    simp (implicitDefEqProofs := false) only [go_sem]
    refine L.stoOne 1 rfl (by simp) rfl fun H14 L => ?_
    simp only [List.set_cons_zero, List.set_cons_succ, List.set_nil, List.eraseIdx_cons_zero, List.eraseIdx_cons_succ] at L
    have L := L.rowN' 0 (ns ++ [.mk kk tt nn aa ks]) rfl
    simp only [List.set_cons_zero, List.set_cons_succ, List.set_nil, List.eraseIdx_cons_zero, List.eraseIdx_cons_succ] at L
    simp (implicitDefEqProofs := false) only [go_sem]
    obtain ⟨iI, oI, bI, dI, aI, hbI, hCI⟩ := L.rs.ex
    have cI := hbI.cell
    unfold cells at cI
    have hCI' := rdecU hCI hj
    first | unfold ptr | skip
    simp (implicitDefEqProofs := false) only [go_sem, cI]
    refine rsto hs L hbI (by decide) rfl rfl hCI' fun HI L hbI => ?_
    simp (implicitDefEqProofs := false) only [go_sem]
    have c := L.cell 0 rfl
    simp (implicitDefEqProofs := false) only [go_sem, c]
    refine L.stoAll 2 rfl rfl (one_agg (t := []) rfl) fun HZ L => ?_
    simp only [List.set_cons_zero, List.set_cons_succ, List.set_nil, List.eraseIdx_cons_zero, List.eraseIdx_cons_succ] at L
    have c := L.cell 2 rfl
    simp (implicitDefEqProofs := false) only [go_sem, c]
    exact L.rfin (hP0 ▸ hp) (.inl (by simp))
  simp (implicitDefEqProofs := false) only [go_sem]
  refine ris_go L [108, 101, 120] (fun ts H7 hσ e L => ?_) fun H7 e8 L => ?_
  · replace hp : P0 = entP (loL k) [108, 101, 120] (fun x => bd (twoP x) fun l => ret (.mk 16 [] 0 t.at_ l)) ts := by
      rw [hp, ht ts hσ]
      exact latX_kw hσ e (by simp [latK])
    simp (implicitDefEqProofs := false) only [go_sem]
    refine L.stoOne 0 rfl (by simp) rfl fun H8 L => ?_
    simp only [List.set_cons_zero, List.set_cons_succ, List.set_nil, List.eraseIdx_cons_zero, List.eraseIdx_cons_succ] at L
    simp (implicitDefEqProofs := false) only [go_sem]
    refine enterU lattice_65 hlat hs L e hp fun v H9 σ1 j px σ2 iI oI bI dI aI L hx hdn hj hbI hwI hCI' hp hlen => ?_
    rw [twoP_bd] at hp
    have cI := hbI.cell
    unfold cells at cI
    first | unfold ptr | skip
    simp (implicitDefEqProofs := false) only [go_sem, cI, hwI]
    refine rsto hs L hbI (by decide) rfl rfl hCI' fun HI L hbI => ?_
    simp (implicitDefEqProofs := false) only [go_sem]
    refine (take_sp [40]).go hs L hp fun _ v σ2 H8 L hp _ _ => ?_
    simp (implicitDefEqProofs := false) only [go_sem]
    refine hx.goN hs L hp fun kk tt nn aa ks kv σ3 H9 L hp _ => ?_
    simp (implicitDefEqProofs := false) only [go_sem]
    refine L.newP fun b4 H10 L => ?_
    simp (implicitDefEqProofs := false) only [go_sem]
    refine L.stoAll 0 rfl rfl (one_agg (L.one' (ks := ks) (by simp))) fun H11 L => ?_
    simp only [List.set_cons_zero, List.set_cons_succ, List.set_nil, List.eraseIdx_cons_zero, List.eraseIdx_cons_succ] at L
    simp (implicitDefEqProofs := false) only [go_sem]
    refine (take_sp [44]).go hs L hp fun _ v σ4 H12 L hp _ _ => ?_
    simp (implicitDefEqProofs := false) only [go_sem]
    refine hx.goN hs L hp fun kk' tt' nn' aa' ks' kv' σ5 H13 L hp _ => ?_
    simp (implicitDefEqProofs := false) only [go_sem]
    refine L.newP fun b5 H14 L => ?_
    simp (implicitDefEqProofs := false) only [go_sem]
    refine L.stoAll 0 rfl rfl (one_agg (L.one' (ks := ks') (by simp))) fun H15 L => ?_
    simp only [List.set_cons_zero, List.set_cons_succ, List.set_nil, List.eraseIdx_cons_zero, List.eraseIdx_cons_succ] at L
    simp (implicitDefEqProofs := false) only [go_sem]
    refine (take_sp [41]).go hs L hp fun _ v σ6 H16 L hp _ _ => ?_
    have c4 := L.cell 1 rfl
    have c5 := L.cell 0 rfl
    simp (implicitDefEqProofs := false) only [go_sem, c4, c5]
    refine L.newS fun b6 H17 L => ?_
    have L := L.rowOwn (dl := [Nd.mk kk tt nn aa ks, Nd.mk kk' tt' nn' aa' ks'].map Nd.dat) (m := 5) (n := 2) (css := [[.int .i64 kk, sv tt, .int .i64 nn, .int .i64 aa, kv], [.int .i64 kk', sv tt', .int .i64 nn', .int .i64 aa', kv']]) (by simp only [List.flatten_cons, List.flatten_nil, List.append_nil, List.cons_append, List.nil_append]) (by simp) ((RepsP.nil.cons (L.ndr' (ks := ks') (by simp))).cons (L.ndr' (ks := ks) (by simp))) rfl (by simp [maxLen])
    have L := L.rowN' 0 [.mk kk tt nn aa ks, .mk kk' tt' nn' aa' ks'] rfl
    simp only [List.set_cons_zero, List.set_cons_succ, List.set_nil, List.eraseIdx_cons_zero, List.eraseIdx_cons_succ] at L
    simp (implicitDefEqProofs := false) only [go_sem]
    refine L.stoOne 2 rfl (by simp) rfl fun H18 L => ?_
    simp only [List.set_cons_zero, List.set_cons_succ, List.set_nil, List.eraseIdx_cons_zero, List.eraseIdx_cons_succ] at L
    simp (implicitDefEqProofs := false) only [go_sem]
    obtain ⟨iI, oI, bI, dI, aI, hbI, hCI⟩ := L.rs.ex
    have cI := hbI.cell
    unfold cells at cI
    have hCI' := rdecU hCI hj
    first | unfold ptr | skip
    simp (implicitDefEqProofs := false) only [go_sem, cI]
    refine rsto hs L hbI (by decide) rfl rfl hCI' fun HI L hbI => ?_
    simp (implicitDefEqProofs := false) only [go_sem]
    have c := L.cell 2 rfl
    simp (implicitDefEqProofs := false) only [go_sem, c]
    refine L.stoAll 4 rfl rfl (one_agg (t := []) rfl) fun HZ L => ?_
    simp only [List.set_cons_zero, List.set_cons_succ, List.set_nil, List.eraseIdx_cons_zero, List.eraseIdx_cons_succ] at L
    have c := L.cell 4 rfl
    simp (implicitDefEqProofs := false) only [go_sem, c]
    exact L.rfin (hP0 ▸ hp) (.inl (by simp))
  simp (implicitDefEqProofs := false) only [go_sem]
  refine ris_go L [123] (fun ts H7 hσ e L => ?_) fun H7 e9 L => ?_
  · replace hp : P0 = entP (loL k) [123] (fun x => bd (memsP x) fun l => ret (.mk 15 [] 0 t.at_ l)) ts := by
      rw [hp, ht ts hσ]
      exact latX_kw hσ e (by simp [latK])
    simp (implicitDefEqProofs := false) only [go_sem]
    refine L.stoOne 0 rfl (by simp) rfl fun H8 L => ?_
    simp only [List.set_cons_zero, List.set_cons_succ, List.set_nil, List.eraseIdx_cons_zero, List.eraseIdx_cons_succ] at L
    simp (implicitDefEqProofs := false) only [go_sem]
    refine enterU lattice_65 hlat hs L e hp fun v H9 σ1 j px σ2 iI oI bI dI aI L hx hdn hj hbI hwI hCI' hp hlen => ?_
    rw [memsP_liX] at hp
    have cI := hbI.cell
    unfold cells at cI
    first | unfold ptr | skip
    simp (implicitDefEqProofs := false) only [go_sem, cI, hwI]
    refine rsto hs L hbI (by decide) rfl rfl hCI' fun HI L hbI => ?_
    have L := L.row0 25 5
    simp (implicitDefEqProofs := false) only [go_sem]
    refine vc_loop (fun (s : Sx × List Nd × (Option Addr × Nat)) H' => ∃ g f, RLv X H s.1 j H' [.row 25 5 (.slice s.2.2.1 s.2.1.length s.2.2.2) (s.2.1.map Nd.dat) g, .blk b3 25 [.int .i64 15, sv [], .int .i64 0, .int .i64 t.at_, .slice s.2.2.1 s.2.1.length s.2.2.2], .blk b2 41 (tkC t), .blk b1 25 [.int .i64 0, sv [], .int .i64 0, .int .i64 0, .slice none 0 0]] [] ∧
      P0 = liX (bd (memF px (f + 1) s.2.1) fun l => bd (expP [125]) fun _ => ret (.mk 15 [] 0 t.at_ l)) s.1 ∧ lenX s.1 ≤ f ∧ s.2.1.length + lenX s.1 ≤ 1048576)
      (fun s => [(0, ptr X.b), (2, .pointer (some ⟨b1, 0, none⟩)), (3, .pointer (some ⟨b2, 0, none⟩)), (4, .pointer (some ⟨b3, 0, none⟩))]) (fun s => lenX s.1) (σ2, [], (none, 0)) ?_ ?_ ?_
    · exact ⟨none, lenX σ2, L, hp, Nat.le_refl _, by simp; omega⟩
    · simp (implicitDefEqProofs := false) only [go_sem, ptr]
    · rintro ⟨σ3, ns, va, vc⟩ H10 ⟨g, f, L, hp, hf, hle⟩
      simp only at L hp hf hle ⊢
      rw [memF_bd] at hp
      simp (implicitDefEqProofs := false) only [go_sem]
      refine rtoken_go L fun t2 H11 L ht2 _ => ?_
      simp (implicitDefEqProofs := false) only [go_sem, tkC]
      refine L.newP fun b4 H12 L => ?_
      simp (implicitDefEqProofs := false) only [go_sem]
      refine L.stoAll 0 rfl rfl (one_agg (t := []) rfl) fun H13 L => ?_
      simp only [List.set_cons_zero, List.set_cons_succ, List.set_nil, List.eraseIdx_cons_zero, List.eraseIdx_cons_succ] at L
      rw [liX_take ht2] at hp
      simp (implicitDefEqProofs := false) only [go_sem]
      refine (text_sp 1 (by decide)).go hs L hp fun s v σ4 H14 L hp he1 hv => ?_
      cases hv
      have hl1 : lenX σ4 ≤ lenX σ3 := lenX_le ((takeP_dn 1).bnd fun _ => Dn.ret _) he1
      simp (implicitDefEqProofs := false) only [go_sem, sv]
      refine L.stoOne 0 rfl (by simp) rfl fun H15 L => ?_
      simp only [List.set_cons_zero, List.set_cons_succ, List.set_nil, List.eraseIdx_cons_zero, List.eraseIdx_cons_succ] at L
      simp (implicitDefEqProofs := false) only [go_sem]
      refine (take_sp [58]).go hs L hp fun _ v σ5 H16 L hp he2 _ => ?_
      have hl2 := lenX_le (expP_dn _) he2
      simp (implicitDefEqProofs := false) only [go_sem]
      refine hx.goN hs L hp fun kk tt nn aa ks kv σ6 H17 L hp he3 => ?_
      have hl3 := lenX_le hdn he3
      simp (implicitDefEqProofs := false) only [go_sem]
      refine L.newS fun b5 H18 L => ?_
      have L := L.rowN1' (ks := ks) (by simp)
      have L := L.rowN' 0 [.mk kk tt nn aa ks] rfl
      simp only [List.set_cons_zero, List.set_cons_succ, List.set_nil, List.eraseIdx_cons_zero, List.eraseIdx_cons_succ] at L
      simp (implicitDefEqProofs := false) only [go_sem]
      refine L.stoOne 0 rfl (by simp) rfl fun H19 L => ?_
      simp only [List.set_cons_zero, List.set_cons_succ, List.set_nil, List.eraseIdx_cons_zero, List.eraseIdx_cons_succ] at L
      have c3 := L.cell 2 rfl
      have c4 := L.cell 0 rfl
      simp (implicitDefEqProofs := false) only [go_sem, c3, c4]
      refine L.newS fun b6 H20 L => ?_
      simp (implicitDefEqProofs := false) only [go_sem]
      refine L.appN' (ns := ns) (ks := [.mk kk tt nn aa ks]) 1 rfl (.inl (by simp)) (by omega) fun a c g' H21 L => ?_
      simp only [List.set_cons_zero, List.set_cons_succ, List.set_nil, List.eraseIdx_cons_zero, List.eraseIdx_cons_succ] at L
      simp (implicitDefEqProofs := false) only [go_sem]
      refine L.stoOne 2 rfl (by simp) rfl fun H22 L => ?_
      simp only [List.set_cons_zero, List.set_cons_succ, List.set_nil, List.eraseIdx_cons_zero, List.eraseIdx_cons_succ] at L
      simp (implicitDefEqProofs := false) only [go_sem]
      have L := L.drop (l' := [_, _, _, _]) (List.sublist_cons_self _ _) (ds' := []) (by simp)
      refine ris_go L [44] (fun ts' H23 hσ' e' L => ?_) fun H23 e' L => ?_
      · rw [hσ'] at hp hl3
        have hl4 : lenX (.ok ts') = ts'.length := rfl
        have hm := List.length_pos_iff.2 (L.rs.more (isB_kind e'))
        have hl5 := tl_lt e'
        obtain ⟨f, rfl⟩ : ∃ f', f = f' + 1 := ⟨f - 1, by omega⟩
        replace hp : P0 = liX (bd (memF px (f + 1) (ns ++ [.mk 22 s 0 t2.at_ [.mk kk tt nn aa ks]])) fun l => bd (expP [125]) fun _ => ret (.mk 15 [] 0 t.at_ l)) (.ok ts'.tail) := by
          rw [hp]; simp only [liX, e', if_true]
        simp (implicitDefEqProofs := false) only [go_sem]
        obtain ⟨iI, oI, bI, dI, aI, hbI, hCI⟩ := L.rs.ex
        have cI := hbI.cell
        unfold cells at cI
        obtain ⟨hwI, hCI'⟩ := rinc hCI L.rs (isB_kind e')
        first | unfold ptr | skip
        simp (implicitDefEqProofs := false) only [go_sem, cI, hwI]
        refine rsto hs L hbI (by decide) rfl rfl hCI' fun HI L hbI => ?_
        simp (implicitDefEqProofs := false) only [go_sem]
        refine loopK_intro (.ok ts'.tail, ns ++ [.mk 22 s 0 t2.at_ [.mk kk tt nn aa ks]], (a, c)) ?_ ?_ ⟨g', f, L, hp, ?_, ?_⟩
        · show ts'.tail.length < lenX σ3
          omega
        · simp (implicitDefEqProofs := false) only [go_sem, ptr]
        · show ts'.tail.length ≤ f
          omega
        · show (ns ++ [Nd.mk 22 s 0 t2.at_ [.mk kk tt nn aa ks]]).length + ts'.tail.length ≤ 1048576
          simp only [List.length_append, List.length_cons, List.length_nil]; omega
      · replace hp : P0 = liX (bd (expP [125]) fun _ => ret (.mk 15 [] 0 t.at_ (ns ++ [.mk 22 s 0 t2.at_ [.mk kk tt nn aa ks]]))) σ6 := hp.trans (liX_no e')
        simp (implicitDefEqProofs := false) only [go_sem]
        refine (take_sp [125]).go hs L hp fun _ v σ7 H24 L hp _ _ => ?_
        have L := L.rowN' 0 (ns ++ [.mk 22 s 0 t2.at_ [.mk kk tt nn aa ks]]) rfl
        simp only [List.set_cons_zero, List.set_cons_succ, List.set_nil, List.eraseIdx_cons_zero, List.eraseIdx_cons_succ] at L
        simp (implicitDefEqProofs := false) only [go_sem]
        obtain ⟨iI, oI, bI, dI, aI, hbI, hCI⟩ := L.rs.ex
        have cI := hbI.cell
        unfold cells at cI
        have hCI' := rdecU hCI hj
        first | unfold ptr | skip
        simp (implicitDefEqProofs := false) only [go_sem, cI]
        refine rsto hs L hbI (by decide) rfl rfl hCI' fun HI L hbI => ?_
        simp (implicitDefEqProofs := false) only [go_sem]
        have c := L.cell 0 rfl
        simp (implicitDefEqProofs := false) only [go_sem, c]
        refine L.stoAll 2 rfl rfl (one_agg (t := []) rfl) fun HZ L => ?_
        simp only [List.set_cons_zero, List.set_cons_succ, List.set_nil, List.eraseIdx_cons_zero, List.eraseIdx_cons_succ] at L
        have c := L.cell 2 rfl
        simp (implicitDefEqProofs := false) only [go_sem, c]
        exact L.rfin (hP0 ▸ hp) (.inl (by simp))
  simp (implicitDefEqProofs := false) only [go_sem]
  refine ris_go L [99, 108, 111, 115, 101, 100] (fun ts H7 hσ e L => ?_) fun H7 e10 L => ?_
  · replace hp : P0 = liX (bd closedP fun l => ret (.mk 19 [] 0 t.at_ l)) (.ok ts.tail) := by
      rw [hp, ht ts hσ]
      exact latX_kw hσ e (by simp [latK, liX])
    rw [closedP_bd] at hp
    simp (implicitDefEqProofs := false) only [go_sem]
    refine L.stoOne 0 rfl (by simp) rfl fun H8 L => ?_
    simp only [List.set_cons_zero, List.set_cons_succ, List.set_nil, List.eraseIdx_cons_zero, List.eraseIdx_cons_succ] at L
    simp (implicitDefEqProofs := false) only [go_sem]
    obtain ⟨iI, oI, bI, dI, aI, hbI, hCI⟩ := L.rs.ex
    have cI := hbI.cell
    unfold cells at cI
    obtain ⟨hwI, hCI'⟩ := rinc hCI L.rs (isB_kind e)
    first | unfold ptr | skip
    simp (implicitDefEqProofs := false) only [go_sem, cI, hwI]
    refine rsto hs L hbI (by decide) rfl rfl hCI' fun HI L hbI => ?_
    simp (implicitDefEqProofs := false) only [go_sem]
    refine (take_sp [40]).go hs L hp fun _ v σ1 H9 L hp he1 _ => ?_
    have hb1 := L.rs.lenX
    simp (implicitDefEqProofs := false) only [go_sem]
    refine rtoken_go L fun t2 H10 L ht2 _ => ?_
    rw [optQ_bd] at hp
    by_cases k4 : t2.kind = 4
    · replace hp := hp.trans (liX_if fun ts h => by rw [← ht2 ts h]; exact k4)
      simp (implicitDefEqProofs := false) only [go_sem, tkC, k4]
      have c3 := L.cell 0 rfl
      simp (implicitDefEqProofs := false) only [go_sem, c3]
      refine (quotes_spB none).goB hs L hp fun ns a c g σ2 H11 L hp he hns => ?_
      simp (implicitDefEqProofs := false) only [go_sem]
      refine L.stoOne 1 rfl (by simp) rfl fun H12 L => ?_
      simp only [List.set_cons_zero, List.set_cons_succ, List.set_nil, List.eraseIdx_cons_zero, List.eraseIdx_cons_succ] at L
      simp (implicitDefEqProofs := false) only [go_sem]
      refine rules_tail (G := fun l => ret (.mk 19 [] 0 t.at_ l)) hs L (quotes_bnd he hb1 hns) (hp.trans (liX_eq fun ts h => by subst h; rfl)) fun ns σ3 a c g H13 z4 z5 z6 z7 z8 z9 z10 z11 z12 z13 z14 z15 z16 z17 z18 z19 z20 z21 z22 z23 z24 z25 L hp => ?_
      have L := L.rowN' 0 ns rfl
      simp only [List.set_cons_zero, List.set_cons_succ, List.set_nil, List.eraseIdx_cons_zero, List.eraseIdx_cons_succ] at L
      simp (implicitDefEqProofs := false) only [go_sem]
      have c := L.cell 0 rfl
      simp (implicitDefEqProofs := false) only [go_sem, c]
      refine L.stoAll 2 rfl rfl (one_agg (t := []) rfl) fun HZ L => ?_
      simp only [List.set_cons_zero, List.set_cons_succ, List.set_nil, List.eraseIdx_cons_zero, List.eraseIdx_cons_succ] at L
      have c := L.cell 2 rfl
      simp (implicitDefEqProofs := false) only [go_sem, c]
      exact L.rfin (hP0 ▸ hp) (.inl (by simp))
    · replace hp := hp.trans (liX_else fun ts h => by rw [← ht2 ts h]; exact k4)
      simp (implicitDefEqProofs := false) only [go_sem, tkC, k4]
      have L := L.row0 25 5
      refine rules_tail (ns := []) (a := none) (c := 0) (G := fun l => ret (.mk 19 [] 0 t.at_ l)) hs L (by simp; omega) (hp.trans (liX_eq fun ts h => by subst h; rfl)) fun ns σ3 a c g H13 z4 z5 z6 z7 z8 z9 z10 z11 z12 z13 z14 z15 z16 z17 z18 z19 z20 z21 z22 z23 z24 z25 L hp => ?_
      have L := L.rowN' 0 ns rfl
      simp only [List.set_cons_zero, List.set_cons_succ, List.set_nil, List.eraseIdx_cons_zero, List.eraseIdx_cons_succ] at L
      simp (implicitDefEqProofs := false) only [go_sem]
      have c := L.cell 0 rfl
      simp (implicitDefEqProofs := false) only [go_sem, c]
      refine L.stoAll 2 rfl rfl (one_agg (t := []) rfl) fun HZ L => ?_
      simp only [List.set_cons_zero, List.set_cons_succ, List.set_nil, List.eraseIdx_cons_zero, List.eraseIdx_cons_succ] at L
      have c := L.cell 2 rfl
      simp (implicitDefEqProofs := false) only [go_sem, c]
      exact L.rfin (hP0 ▸ hp) (.inl (by simp))
  simp (implicitDefEqProofs := false) only [go_sem]
  unfold latP at hp
  replace hp := ((((((((((hp.trans (liX_else fun ts h => by rw [← ht ts h]; exact k1)).trans (liX_no e1)).trans (liX_no e2)).trans (liX_no e3)).trans (liX_no e4)).trans (liX_no e7)).trans (liX_no e5)).trans (liX_no e6)).trans (liX_no e8)).trans (liX_no e9)).trans (liX_no e10)
  refine rfail_go hs L hp fun v e H9 L hp => ?_
  replace hp : P0 = liX (ret (.mk 0 [] 0 t.at_ [])) (.error e) := hp
  simp (implicitDefEqProofs := false) only [go_sem]
  have c := L.cell 0 rfl
  simp (implicitDefEqProofs := false) only [go_sem, c]
  refine L.stoAll 2 rfl rfl (one_agg (t := []) rfl) fun HZ L => ?_
  simp only [List.set_cons_zero, List.set_cons_succ, List.set_nil, List.eraseIdx_cons_zero, List.eraseIdx_cons_succ] at L
  have c := L.cell 2 rfl
  simp (implicitDefEqProofs := false) only [go_sem, c]
  exact L.rfin (hP0 ▸ hp) (.inr ⟨rfl, rfl⟩)
theorem latS : ∀ k : Nat, ROk k 35 [] (latP (loL k)) NdR := by
  intro k
  induction k with
  | zero => exact lattice_sp fun j hj => by omega
  | succ k ih =>
    refine lattice_sp fun j hj => ?_
    obtain rfl : j = k := by omega
    rw [levL_eq]; exact ih
end Go.Proofs.YtbgjgaaobnbijaaGreatDoor
end
section
/- Declarations of the specification: contract. -/
set_option linter.unusedSimpArgs false
set_option linter.unusedVariables false
set_option maxRecDepth 8000
namespace Go.Proofs.YtbgjgaaobnbijaaGreatDoor
open Gx Go
theorem param_bd {γ : Type} (G : Nd → PP γ) : bd paramP G = bd (takeP 1) fun t => bd (expP [58]) fun _ => bd sortP fun s => G (.mk 6 t.text s t.at_ []) := by
  unfold paramP
  simp only [bd_bd']
  rfl
theorem listF_bd {γ : Type} (p : PP Nd) (f : Nat) (l : List Nd) (G : List Nd → PP γ) : bd (listF p (f + 1) l) G = bd p fun a => bd commaP fun m => bd (if m then listF p f (l ++ [a]) else ret (l ++ [a])) G := by
  simp only [listF, bd_bd']
set_option maxHeartbeats 1000000 in
/-- The last expression of an update or a query. -/
theorem func_endR {X : Cx} {H H1 : Heap} {σ0 σ : Sx} {b b1 c : Nat} {a : Option Addr} {g : Option Nat} {ns : List Nd} {K n aa : Int} {nm : Bs} {P0 : Except Flt (Nd × List Tk)} {y3 y4 y5 y6 y7 y8 y9 y10 y11 y12 : Option Value}
    (hs : Rs X H σ0 64) (hP0 : P0 = liX declP σ0) (L : RLv X H σ 64 H1 [.row 25 5 (.slice a ns.length c) (ns.map Nd.dat) g, .blk b 25 [.int .i64 K, sv nm, .int .i64 n, .int .i64 aa, .slice a ns.length c], .blk b1 25 [.int .i64 0, sv [], .int .i64 0, .int .i64 0, .slice none 0 0]] [])
    (hn : ns.length ≤ 1048578) (hp : P0 = liX (bd (expP [61]) fun _ => bd (exprP (loK 64)) fun e => bd (expP [59]) fun _ => ret (Nd.mk K nm n aa (ns ++ [e]))) σ) :
    vc Tryz.prog (fun _ _ => False) c37s73 [some (ptr X.b), some (.pointer (some ⟨b1, 0, none⟩)), some (.pointer (some ⟨b, 0, none⟩)), y3, y4, y5, y6, y7, y8, y9, y10, y11, y12] H1 (finQ c37.res fun v H' => ∃ a σ', NdR a v H H' ∧ Rs X H' σ' 64 ∧ Fr [X.b] H H' ∧ LnX declP σ0 a σ') := by
  rw [c37s73eq]
  simp (implicitDefEqProofs := false) only [go_sem, c37]
  refine (take_sp [61]).go hs L hp fun _ v σ1 H2 L hp _ _ => ?_
  have cn := L.cell 1 rfl
  simp (implicitDefEqProofs := false) only [go_sem, cn]
  refine (lev_sp 64).1.goN hs L hp fun kk tt nn aa' ks kv σ2 H3 L hp _ => ?_
  have cn := L.cell 1 rfl
  simp (implicitDefEqProofs := false) only [go_sem, cn]
  refine L.newS fun bA HA L => ?_
  have cn := L.cell 2 rfl
  simp (implicitDefEqProofs := false) only [go_sem, cn]
  refine L.appN' (ns := ns) (ks := ks) 0 rfl (.inl (by simp)) (by omega) fun a c g' HB L => ?_
  simp only [List.set_cons_zero, List.set_cons_succ, List.set_nil, List.eraseIdx_cons_zero, List.eraseIdx_cons_succ] at L
  simp (implicitDefEqProofs := false) only [go_sem]
  refine L.stoOne 1 rfl (by simp) rfl fun HC L => ?_
  simp only [List.set_cons_zero, List.set_cons_succ, List.set_nil, List.eraseIdx_cons_zero, List.eraseIdx_cons_succ] at L
  simp (implicitDefEqProofs := false) only [go_sem]
  refine (take_sp [59]).go hs L hp fun _ v σ3 HD L hp _ _ => ?_
  have L := L.rowN' 0 (ns ++ [.mk kk tt nn aa' ks]) rfl
  simp only [List.set_cons_zero, List.set_cons_succ, List.set_nil, List.eraseIdx_cons_zero, List.eraseIdx_cons_succ] at L
  simp (implicitDefEqProofs := false) only [go_sem]
  have c := L.cell 0 rfl
  simp (implicitDefEqProofs := false) only [go_sem, c]
  refine L.stoAll 1 rfl rfl (one_agg rfl) fun HZ L => ?_
  simp only [List.set_cons_zero, List.set_cons_succ, List.set_nil, List.eraseIdx_cons_zero, List.eraseIdx_cons_succ] at L
  have c := L.cell 1 rfl
  simp (implicitDefEqProofs := false) only [go_sem, c]
  exact L.rfin (hP0 ▸ hp) (.inl (by simp))
set_option maxHeartbeats 1000000 in
/-- Behind the parameters. -/
theorem func_after {X : Cx} {H H1 : Heap} {σ0 σ : Sx} {b b1 c : Nat} {a : Option Addr} {g : Option Nat} {ns : List Nd} {K aa : Int} {nm : Bs} {P0 : Except Flt (Nd × List Tk)} {y3 y4 y5 y6 y7 y8 y9 y10 y11 y12 : Option Value}
    (hs : Rs X H σ0 64) (hP0 : P0 = liX declP σ0) (L : RLv X H σ 64 H1 [.row 25 5 (.slice a ns.length c) (ns.map Nd.dat) g, .blk b 25 [.int .i64 K, sv nm, .int .i64 0, .int .i64 aa, .slice a ns.length c], .blk b1 25 [.int .i64 0, sv [], .int .i64 0, .int .i64 0, .slice none 0 0]] [])
    (hn : ns.length ≤ 1048577) (hp : P0 = liX (bd (expP [41]) fun _ => bd (expP [111, 110]) fun _ => bd (namedP 48) fun o => bd (if K = 5 then bd (expP [58]) fun _ => sortP else ret 0) fun n => bd (expP [61]) fun _ => bd (exprP (loK 64)) fun e => bd (expP [59]) fun _ => ret (Nd.mk K nm n aa (ns ++ [o] ++ [e]))) σ) :
    vc Tryz.prog (fun _ _ => False) c37s79 [some (ptr X.b), some (.pointer (some ⟨b1, 0, none⟩)), some (.pointer (some ⟨b, 0, none⟩)), y3, y4, y5, y6, y7, y8, y9, y10, y11, y12] H1 (finQ c37.res fun v H' => ∃ a σ', NdR a v H H' ∧ Rs X H' σ' 64 ∧ Fr [X.b] H H' ∧ LnX declP σ0 a σ') := by
  rw [c37s79eq]
  simp (implicitDefEqProofs := false) only [go_sem, c37]
  refine (take_sp [41]).go hs L hp fun _ v σ1 H2 L hp _ _ => ?_
  simp (implicitDefEqProofs := false) only [go_sem]
  refine (take_sp [111, 110]).go hs L hp fun _ v σ2 H3 L hp _ _ => ?_
  simp (implicitDefEqProofs := false) only [go_sem]
  refine rtoken_go L fun t H4 L ht _ => ?_
  simp (implicitDefEqProofs := false) only [go_sem, tkC]
  refine L.newP fun b4 H5 L => ?_
  simp (implicitDefEqProofs := false) only [go_sem]
  refine L.stoAll 0 rfl rfl (one_agg (t := []) rfl) fun H6 L => ?_
  simp only [List.set_cons_zero, List.set_cons_succ, List.set_nil, List.eraseIdx_cons_zero, List.eraseIdx_cons_succ] at L
  unfold namedP at hp
  rw [liX_bd, liX_take ht] at hp
  simp (implicitDefEqProofs := false) only [go_sem]
  refine (text_sp 1 (by decide)).go hs L hp fun s v σ3 H7 L hp _ hv => ?_
  cases hv
  replace hp := hp.trans liX_ret
  simp (implicitDefEqProofs := false) only [go_sem, sv]
  refine L.stoOne 0 rfl (by simp) rfl fun H8 L => ?_
  simp only [List.set_cons_zero, List.set_cons_succ, List.set_nil, List.eraseIdx_cons_zero, List.eraseIdx_cons_succ] at L
  have cb := L.cell 2 rfl
  have c4 := L.cell 0 rfl
  simp (implicitDefEqProofs := false) only [go_sem, cb, c4]
  refine L.newS fun bA H9 L => ?_
  simp (implicitDefEqProofs := false) only [go_sem]
  refine L.appN' (ns := ns) (ks := []) 1 rfl (.inr ⟨rfl, rfl⟩) (by omega) fun a c g' HB L => ?_
  simp only [List.set_cons_zero, List.set_cons_succ, List.set_nil, List.eraseIdx_cons_zero, List.eraseIdx_cons_succ] at L
  simp (implicitDefEqProofs := false) only [go_sem]
  refine L.stoOne 2 rfl (by simp) rfl fun HC L => ?_
  simp only [List.set_cons_zero, List.set_cons_succ, List.set_nil, List.eraseIdx_cons_zero, List.eraseIdx_cons_succ] at L
  have cb := L.cell 2 rfl
  by_cases hK : K = 5
  · rw [if_pos hK, bd_bd'] at hp
    simp (implicitDefEqProofs := false) only [go_sem, cb, hK]
    refine (take_sp [58]).go hs L hp fun _ v σ4 HD L hp _ _ => ?_
    simp (implicitDefEqProofs := false) only [go_sem]
    refine sort_sp.go hs L hp fun n v σ5 HE L hp _ hv => ?_
    cases hv
    simp (implicitDefEqProofs := false) only [go_sem]
    refine L.stoOne 2 rfl (by simp) rfl fun HF L => ?_
    simp only [List.set_cons_zero, List.set_cons_succ, List.set_nil, List.eraseIdx_cons_zero, List.eraseIdx_cons_succ] at L
    simp (implicitDefEqProofs := false) only [go_sem]
    have L := L.drop (l' := [_, _, _]) (List.sublist_cons_self _ _) (ds' := []) (by simp)
    exact func_endR (ns := ns ++ [.mk 48 s 0 t.at_ []]) hs hP0 L (by simp only [List.length_append, List.length_cons, List.length_nil]; omega) hp
  · rw [if_neg hK] at hp
    replace hp := hp.trans liX_ret
    simp (implicitDefEqProofs := false) only [go_sem, cb, hK]
    have L := L.drop (l' := [_, _, _]) (List.sublist_cons_self _ _) (ds' := []) (by simp)
    exact func_endR (ns := ns ++ [.mk 48 s 0 t.at_ []]) hs hP0 L (by simp only [List.length_append, List.length_cons, List.length_nil]; omega) hp
set_option maxHeartbeats 1000000 in
/-- An update or a query, from its word on. -/
theorem func_restR {X : Cx} {H H1 : Heap} {σ0 : Sx} {ts : List Tk} {b b1 : Nat} {K aa : Int} {P0 : Except Flt (Nd × List Tk)} {y3 y4 y5 y6 y7 y8 y9 y10 y11 y12 : Option Value}
    (hs : Rs X H σ0 64) (hP0 : P0 = liX declP σ0) (L : RLv X H (.ok ts) 64 H1 [.blk b 25 [.int .i64 K, sv [], .int .i64 0, .int .i64 aa, .slice none 0 0], .blk b1 25 [.int .i64 0, sv [], .int .i64 0, .int .i64 0, .slice none 0 0]] [])
    (hk : (hd ts).kind ≠ 6) (hp : P0 = liX (funcP aa K) (.ok ts.tail)) :
    vc Tryz.prog (fun _ _ => False) c37s83 [some (ptr X.b), some (.pointer (some ⟨b1, 0, none⟩)), some (.pointer (some ⟨b, 0, none⟩)), y3, y4, y5, y6, y7, y8, y9, y10, y11, y12] H1 (finQ c37.res fun v H' => ∃ a σ', NdR a v H H' ∧ Rs X H' σ' 64 ∧ Fr [X.b] H H' ∧ LnX declP σ0 a σ') := by
  rw [c37s83eq]
  simp (implicitDefEqProofs := false) only [go_sem, c37]
  obtain ⟨iI, oI, bI, dI, aI, hbI, hCI⟩ := L.rs.ex
  have cI := hbI.cell
  unfold cells at cI
  obtain ⟨hwI, hCI'⟩ := rinc hCI L.rs hk
  first | unfold ptr | skip
  simp (implicitDefEqProofs := false) only [go_sem, cI, hwI]
  refine rsto hs L hbI (by decide) rfl rfl hCI' fun HI L hbI => ?_
  unfold funcP at hp
  replace hp := hp.trans (liX_text (G := fun nm => bd (expP [40]) fun _ => bd (listP paramP) fun ps => bd (expP [111, 110]) fun _ => bd (namedP 48) fun o => bd (if K = 5 then bd (expP [58]) fun _ => sortP else ret 0) fun n => bd (expP [61]) fun _ => bd (exprP (loK 64)) fun e => bd (expP [59]) fun _ => ret (Nd.mk K nm n aa (ps ++ [o] ++ [e]))))
  simp (implicitDefEqProofs := false) only [go_sem]
  refine (text_sp 1 (by decide)).go hs L hp fun nm v σ1 H2 L hp _ hv => ?_
  cases hv
  simp (implicitDefEqProofs := false) only [go_sem, sv]
  refine L.stoOne 0 rfl (by simp) rfl fun H3 L => ?_
  simp only [List.set_cons_zero, List.set_cons_succ, List.set_nil, List.eraseIdx_cons_zero, List.eraseIdx_cons_succ] at L
  simp (implicitDefEqProofs := false) only [go_sem]
  refine (take_sp [40]).go hs L hp fun _ v σ2 H4 L hp _ _ => ?_
  have L := L.row0 25 5
  have hb2 := L.rs.lenX
  simp (implicitDefEqProofs := false) only [go_sem]
  refine ris_go L [41] (fun ts' H5 hσ e L => ?_) fun H5 e L => ?_
  · replace hp : P0 = liX (bd (expP [41]) fun _ => (fun ps => bd (expP [111, 110]) fun _ => bd (namedP 48) fun o => bd (if K = 5 then bd (expP [58]) fun _ => sortP else ret 0) fun n => bd (expP [61]) fun _ => bd (exprP (loK 64)) fun e => bd (expP [59]) fun _ => ret (Nd.mk K nm n aa (ps ++ [o] ++ [e]))) []) (.ok ts') := by
      rw [hp, hσ]
      unfold bd listP expP
      simp only [liX, e, if_true]
    simp (implicitDefEqProofs := false) only [go_sem]
    exact func_after (ns := []) hs hP0 L (by simp) hp
  · obtain ⟨f0, hp, hf0⟩ : ∃ f0, P0 = liX (bd (listF paramP (f0 + 1) []) (fun ps => bd (expP [111, 110]) fun _ => bd (namedP 48) fun o => bd (if K = 5 then bd (expP [58]) fun _ => sortP else ret 0) fun n => bd (expP [61]) fun _ => bd (exprP (loK 64)) fun e => bd (expP [59]) fun _ => ret (Nd.mk K nm n aa (ps ++ [o] ++ [e])))) σ2 ∧ lenX σ2 ≤ f0 + 1 := by
      cases σ2 with
      | error er => exact ⟨0, hp, Nat.zero_le _⟩
      | ok ts2 =>
        have := List.length_pos_iff.2 L.rs.nil
        refine ⟨ts2.length - 1, ?_, by show ts2.length ≤ _; omega⟩
        rw [hp, show ts2.length - 1 + 1 = ts2.length by omega]
        have e' : isB [41] ts2 = false := e
        show bd (listP paramP) _ ts2 = bd (listF paramP ts2.length []) _ ts2
        exact bd_at (by simp only [listP, e', Bool.false_eq_true, if_false])
    simp (implicitDefEqProofs := false) only [go_sem]
    refine vc_loop (fun (s : Sx × List Nd × (Option Addr × Nat)) H' => ∃ g f, RLv X H s.1 64 H' [.row 25 5 (.slice s.2.2.1 s.2.1.length s.2.2.2) (s.2.1.map Nd.dat) g, .blk b 25 [.int .i64 K, sv nm, .int .i64 0, .int .i64 aa, .slice s.2.2.1 s.2.1.length s.2.2.2], .blk b1 25 [.int .i64 0, sv [], .int .i64 0, .int .i64 0, .slice none 0 0]] [] ∧
      P0 = liX (bd (listF paramP (f + 1) s.2.1) (fun ps => bd (expP [111, 110]) fun _ => bd (namedP 48) fun o => bd (if K = 5 then bd (expP [58]) fun _ => sortP else ret 0) fun n => bd (expP [61]) fun _ => bd (exprP (loK 64)) fun e => bd (expP [59]) fun _ => ret (Nd.mk K nm n aa (ps ++ [o] ++ [e])))) s.1 ∧ lenX s.1 ≤ f + 1 ∧ s.2.1.length + lenX s.1 ≤ 1048576)
      (fun s => [(0, ptr X.b), (2, .pointer (some ⟨b1, 0, none⟩)), (3, .pointer (some ⟨b, 0, none⟩))]) (fun s => lenX s.1) (σ2, [], (none, 0)) ?_ ?_ ?_
    · exact ⟨none, f0, L, hp, hf0, by simp only [List.length_nil]; omega⟩
    · simp (implicitDefEqProofs := false) only [go_sem, ptr]
    · rintro ⟨σ3, ns, va, vc⟩ H6 ⟨g, f, L, hp, hf, hle⟩
      simp only at L hp hf hle ⊢
      rw [listF_bd, param_bd] at hp
      simp (implicitDefEqProofs := false) only [go_sem]
      refine rtoken_go L fun t2 H7 L ht2 _ => ?_
      simp (implicitDefEqProofs := false) only [go_sem, tkC]
      refine L.newP fun b4 H8 L => ?_
      simp (implicitDefEqProofs := false) only [go_sem]
      refine L.stoAll 0 rfl rfl (one_agg (t := []) rfl) fun H9 L => ?_
      simp only [List.set_cons_zero, List.set_cons_succ, List.set_nil, List.eraseIdx_cons_zero, List.eraseIdx_cons_succ] at L
      rw [liX_take ht2] at hp
      simp (implicitDefEqProofs := false) only [go_sem]
      refine (text_sp 1 (by decide)).go hs L hp fun s v σ4 H10 L hp he1 hv => ?_
      cases hv
      have hl1 : lenX σ4 ≤ lenX σ3 := lenX_le ((takeP_dn 1).bnd fun _ => Dn.ret _) he1
      simp (implicitDefEqProofs := false) only [go_sem, sv]
      refine L.stoOne 0 rfl (by simp) rfl fun H11 L => ?_
      simp only [List.set_cons_zero, List.set_cons_succ, List.set_nil, List.eraseIdx_cons_zero, List.eraseIdx_cons_succ] at L
      simp (implicitDefEqProofs := false) only [go_sem]
      refine (take_sp [58]).go hs L hp fun _ v σ5 H12 L hp he2 _ => ?_
      have hl2 := lenX_le (expP_dn _) he2
      simp (implicitDefEqProofs := false) only [go_sem]
      refine sort_sp.go hs L hp fun n v σ6 H13 L hp he3 hv => ?_
      have hl3 := lenX_le sortP_dn he3
      cases hv
      simp (implicitDefEqProofs := false) only [go_sem]
      refine L.stoOne 0 rfl (by simp) rfl fun H14 L => ?_
      simp only [List.set_cons_zero, List.set_cons_succ, List.set_nil, List.eraseIdx_cons_zero, List.eraseIdx_cons_succ] at L
      have cb := L.cell 2 rfl
      have c4 := L.cell 0 rfl
      simp (implicitDefEqProofs := false) only [go_sem, cb, c4]
      refine L.newS fun b6 H15 L => ?_
      simp (implicitDefEqProofs := false) only [go_sem]
      refine L.appN' (ns := ns) (ks := []) 1 rfl (.inr ⟨rfl, rfl⟩) (by omega) fun a c g' H16 L => ?_
      simp only [List.set_cons_zero, List.set_cons_succ, List.set_nil, List.eraseIdx_cons_zero, List.eraseIdx_cons_succ] at L
      simp (implicitDefEqProofs := false) only [go_sem]
      refine L.stoOne 2 rfl (by simp) rfl fun H17 L => ?_
      simp only [List.set_cons_zero, List.set_cons_succ, List.set_nil, List.eraseIdx_cons_zero, List.eraseIdx_cons_succ] at L
      simp (implicitDefEqProofs := false) only [go_sem]
      have L := L.drop (l' := [_, _, _]) (List.sublist_cons_self _ _) (ds' := []) (by simp)
      refine ris_go L [44] (fun ts' H18 hσ' e' L => ?_) fun H18 e' L => ?_
      · rw [hσ'] at hp hl3
        have hl4 : lenX (.ok ts') = ts'.length := rfl
        have hm := List.length_pos_iff.2 (L.rs.more (isB_kind e'))
        have hl5 := tl_lt e'
        obtain ⟨f, rfl⟩ : ∃ f', f = f' + 1 := ⟨f - 1, by omega⟩
        replace hp : P0 = liX (bd (listF paramP (f + 1) (ns ++ [.mk 6 s n t2.at_ []])) (fun ps => bd (expP [111, 110]) fun _ => bd (namedP 48) fun o => bd (if K = 5 then bd (expP [58]) fun _ => sortP else ret 0) fun n => bd (expP [61]) fun _ => bd (exprP (loK 64)) fun e => bd (expP [59]) fun _ => ret (Nd.mk K nm n aa (ps ++ [o] ++ [e])))) (.ok ts'.tail) := by
          rw [hp]
          show bd commaP _ ts' = _
          rw [bd_ok (a := true) (r := ts'.tail) (by simp [commaP, e'])]
          rfl
        simp (implicitDefEqProofs := false) only [go_sem]
        obtain ⟨iI, oI, bI, dI, aI, hbI, hCI⟩ := L.rs.ex
        have cI := hbI.cell
        unfold cells at cI
        obtain ⟨hwI, hCI'⟩ := rinc hCI L.rs (isB_kind e')
        first | unfold ptr | skip
        simp (implicitDefEqProofs := false) only [go_sem, cI, hwI]
        refine rsto hs L hbI (by decide) rfl rfl hCI' fun HI L hbI => ?_
        simp (implicitDefEqProofs := false) only [go_sem]
        refine loopK_intro (.ok ts'.tail, ns ++ [.mk 6 s n t2.at_ []], (a, c)) ?_ ?_ ⟨g', f, L, hp, ?_, ?_⟩
        · show ts'.tail.length < lenX σ3
          omega
        · simp (implicitDefEqProofs := false) only [go_sem, ptr]
        · show ts'.tail.length ≤ f + 1
          omega
        · show (ns ++ [Nd.mk 6 s n t2.at_ []]).length + ts'.tail.length ≤ 1048576
          simp only [List.length_append, List.length_cons, List.length_nil]; omega
      · replace hp : P0 = liX (bd (expP [41]) fun _ => (fun ps => bd (expP [111, 110]) fun _ => bd (namedP 48) fun o => bd (if K = 5 then bd (expP [58]) fun _ => sortP else ret 0) fun n => bd (expP [61]) fun _ => bd (exprP (loK 64)) fun e => bd (expP [59]) fun _ => ret (Nd.mk K nm n aa (ps ++ [o] ++ [e]))) (ns ++ [.mk 6 s n t2.at_ []])) σ6 := by
          rw [hp]
          refine liX_eq fun ts' hσ' => ?_
          have e'' := isX_of e' ts' hσ'
          have hc : commaP ts' = bd (expP [41]) (fun _ => ret false) ts' := by simp only [commaP, e'', Bool.false_eq_true, if_false]
          rw [bd_at (q := bd (expP [41]) fun _ => ret false) (ts' := ts') hc, bd_bd']
          rfl
        simp (implicitDefEqProofs := false) only [go_sem]
        have hn2 : (ns ++ [Nd.mk 6 s n t2.at_ []]).length ≤ 1048577 := by simp only [List.length_append, List.length_cons, List.length_nil]; omega
        generalize ns ++ [Nd.mk 6 s n t2.at_ []] = ns2 at L hp hn2
        exact func_after hs hP0 L hn2 hp
theorem declX_kw {s : Bs} {σ : Sx} {ts : List Tk} (hσ : σ = .ok ts) (e : isB s ts = true) {R : Except Flt (Nd × List Tk)} (h : (if s = [108, 97, 116, 116, 105, 99, 101] then latD (hd ts).at_ 2 [61] ts.tail else if s = [111, 98, 106, 101, 99, 116] then latD (hd ts).at_ 3 [58] ts.tail else if s = [117, 112, 100, 97, 116, 101] then funcP (hd ts).at_ 4 ts.tail else if s = [113, 117, 101, 114, 121] then funcP (hd ts).at_ 5 ts.tail else .error (2, (hd ts).at_)) = R) : liX declP σ = R := by
  rw [hσ, ← h]
  show declP ts = _
  have e2 := isB_kw e
  unfold declP
  rw [e2, e2, e2, e2]
  have sym : ∀ a b : Bs, (a = b) = (b = a) := fun a b => propext ⟨Eq.symm, Eq.symm⟩
  simp only [decide_eq_true_eq, sym s]
set_option maxHeartbeats 2000000 in
theorem decl_sp : ROk 64 37 [] declP NdR := by
  refine ⟨fun {X H σ} hs => ?_⟩
  refine calls_of_vc (args := [_]) Tryz.func37 c37ok (Nat.le_of_ble_eq_true rfl) ?_
  have L := hs.walk
  obtain ⟨P0, hP0⟩ : ∃ P0, P0 = liX declP σ := ⟨_, rfl⟩
  have hp := hP0
  simp (implicitDefEqProofs := false) only [go_sem, c37]
  refine L.newP fun b1 H1 L => ?_
  simp (implicitDefEqProofs := false) only [go_sem]
  refine rtoken_go L fun t H2 L ht hrng => ?_
  simp (implicitDefEqProofs := false) only [go_sem, tkC]
  refine L.newP fun b H3 L => ?_
  simp (implicitDefEqProofs := false) only [go_sem]
  refine L.stoAll 0 rfl rfl (one_agg (t := []) rfl) fun H4 L => ?_
  simp only [List.set_cons_zero, List.set_cons_succ, List.set_nil, List.eraseIdx_cons_zero, List.eraseIdx_cons_succ] at L
  simp (implicitDefEqProofs := false) only [go_sem]
  refine ris_go L [108, 97, 116, 116, 105, 99, 101] (fun ts H5 hσ e L => ?_) fun H5 e1 L => ?_
  · replace hp : P0 = liX (latD t.at_ 2 [61]) (.ok ts.tail) := by
      rw [hp, ht ts hσ]
      exact declX_kw hσ e (by simp [liX])
    simp (implicitDefEqProofs := false) only [go_sem]
    refine L.stoOne 0 rfl (by simp) rfl fun H6 L => ?_
    simp only [List.set_cons_zero, List.set_cons_succ, List.set_nil, List.eraseIdx_cons_zero, List.eraseIdx_cons_succ] at L
    simp (implicitDefEqProofs := false) only [go_sem]
    refine ris_go L [108, 97, 116, 116, 105, 99, 101] (fun ts' H7 hσ' e' L => ?_) fun H7 e' L => by
      have e'' : isB [108, 97, 116, 116, 105, 99, 101] ts = false := e'
      rw [e] at e''; cases e''
    cases hσ'
    simp (implicitDefEqProofs := false) only [go_sem]
    refine L.stoOne 0 rfl (by simp) rfl fun H8 L => ?_
    simp only [List.set_cons_zero, List.set_cons_succ, List.set_nil, List.eraseIdx_cons_zero, List.eraseIdx_cons_succ] at L
    simp (implicitDefEqProofs := false) only [go_sem]
    obtain ⟨iI, oI, bI, dI, aI, hbI, hCI⟩ := L.rs.ex
    have cI := hbI.cell
    unfold cells at cI
    obtain ⟨hwI, hCI'⟩ := rinc hCI L.rs (isB_kind e)
    first | unfold ptr | skip
    simp (implicitDefEqProofs := false) only [go_sem, cI, hwI]
    refine rsto hs L hbI (by decide) rfl rfl hCI' fun HI L hbI => ?_
    simp (implicitDefEqProofs := false) only [go_sem]
    unfold latD at hp
    replace hp := hp.trans (liX_text (G := fun nm => bd (expP [61]) fun _ => bd (levL 64) fun x => bd (expP [59]) fun _ => ret (Nd.mk 2 nm 0 t.at_ [x])))
    refine (text_sp 1 (by decide)).go hs L hp fun nm v σ1 HA L hp _ hv => ?_
    cases hv
    simp (implicitDefEqProofs := false) only [go_sem, sv]
    refine L.stoOne 0 rfl (by simp) rfl fun HB L => ?_
    simp only [List.set_cons_zero, List.set_cons_succ, List.set_nil, List.eraseIdx_cons_zero, List.eraseIdx_cons_succ] at L
    simp (implicitDefEqProofs := false) only [go_sem]
    refine (take_sp [61]).go hs L hp fun _ v σ2 HC L hp _ _ => ?_
    simp (implicitDefEqProofs := false) only [go_sem]
    refine (levL_eq 64 ▸ latS 64).goN hs L hp fun kk tt nn aa ks kv σ3 HD L hp _ => ?_
    simp (implicitDefEqProofs := false) only [go_sem]
    refine L.newS fun b5 HE L => ?_
    have L := L.rowN1' (ks := ks) (by simp)
    have L := L.rowN' 0 [.mk kk tt nn aa ks] rfl
    simp only [List.set_cons_zero, List.set_cons_succ, List.set_nil, List.eraseIdx_cons_zero, List.eraseIdx_cons_succ] at L
    simp (implicitDefEqProofs := false) only [go_sem]
    refine L.stoOne 0 rfl (by simp) rfl fun HF L => ?_
    simp only [List.set_cons_zero, List.set_cons_succ, List.set_nil, List.eraseIdx_cons_zero, List.eraseIdx_cons_succ] at L
    simp (implicitDefEqProofs := false) only [go_sem]
    refine (take_sp [59]).go hs L hp fun _ v σ4 HG L hp _ _ => ?_
    simp (implicitDefEqProofs := false) only [go_sem]
    have c := L.cell 0 rfl
    simp (implicitDefEqProofs := false) only [go_sem, c]
    refine L.stoAll 1 rfl rfl (one_agg rfl) fun HZ L => ?_
    simp only [List.set_cons_zero, List.set_cons_succ, List.set_nil, List.eraseIdx_cons_zero, List.eraseIdx_cons_succ] at L
    have c := L.cell 1 rfl
    simp (implicitDefEqProofs := false) only [go_sem, c]
    exact L.rfin (hP0 ▸ hp) (.inl (by simp))
  simp (implicitDefEqProofs := false) only [go_sem]
  refine ris_go L [111, 98, 106, 101, 99, 116] (fun ts H5 hσ e L => ?_) fun H5 e2 L => ?_
  · replace hp : P0 = liX (latD t.at_ 3 [58]) (.ok ts.tail) := by
      rw [hp, ht ts hσ]
      exact declX_kw hσ e (by simp [liX])
    simp (implicitDefEqProofs := false) only [go_sem]
    refine L.stoOne 0 rfl (by simp) rfl fun H6 L => ?_
    simp only [List.set_cons_zero, List.set_cons_succ, List.set_nil, List.eraseIdx_cons_zero, List.eraseIdx_cons_succ] at L
    simp (implicitDefEqProofs := false) only [go_sem]
    refine ris_go L [108, 97, 116, 116, 105, 99, 101] (fun ts' H7 hσ' e' L => by
      cases hσ'
      have := isB_kw e' [111, 98, 106, 101, 99, 116]
      rw [e] at this; exact absurd this (by decide)) fun H7 e' L => ?_
    simp (implicitDefEqProofs := false) only [go_sem]
    obtain ⟨iI, oI, bI, dI, aI, hbI, hCI⟩ := L.rs.ex
    have cI := hbI.cell
    unfold cells at cI
    obtain ⟨hwI, hCI'⟩ := rinc hCI L.rs (isB_kind e)
    first | unfold ptr | skip
    simp (implicitDefEqProofs := false) only [go_sem, cI, hwI]
    refine rsto hs L hbI (by decide) rfl rfl hCI' fun HI L hbI => ?_
    simp (implicitDefEqProofs := false) only [go_sem]
    unfold latD at hp
    replace hp := hp.trans (liX_text (G := fun nm => bd (expP [58]) fun _ => bd (levL 64) fun x => bd (expP [59]) fun _ => ret (Nd.mk 3 nm 0 t.at_ [x])))
    refine (text_sp 1 (by decide)).go hs L hp fun nm v σ1 HA L hp _ hv => ?_
    cases hv
    simp (implicitDefEqProofs := false) only [go_sem, sv]
    refine L.stoOne 0 rfl (by simp) rfl fun HB L => ?_
    simp only [List.set_cons_zero, List.set_cons_succ, List.set_nil, List.eraseIdx_cons_zero, List.eraseIdx_cons_succ] at L
    simp (implicitDefEqProofs := false) only [go_sem]
    refine (take_sp [58]).go hs L hp fun _ v σ2 HC L hp _ _ => ?_
    simp (implicitDefEqProofs := false) only [go_sem]
    refine (levL_eq 64 ▸ latS 64).goN hs L hp fun kk tt nn aa ks kv σ3 HD L hp _ => ?_
    simp (implicitDefEqProofs := false) only [go_sem]
    refine L.newS fun b5 HE L => ?_
    have L := L.rowN1' (ks := ks) (by simp)
    have L := L.rowN' 0 [.mk kk tt nn aa ks] rfl
    simp only [List.set_cons_zero, List.set_cons_succ, List.set_nil, List.eraseIdx_cons_zero, List.eraseIdx_cons_succ] at L
    simp (implicitDefEqProofs := false) only [go_sem]
    refine L.stoOne 0 rfl (by simp) rfl fun HF L => ?_
    simp only [List.set_cons_zero, List.set_cons_succ, List.set_nil, List.eraseIdx_cons_zero, List.eraseIdx_cons_succ] at L
    simp (implicitDefEqProofs := false) only [go_sem]
    refine (take_sp [59]).go hs L hp fun _ v σ4 HG L hp _ _ => ?_
    simp (implicitDefEqProofs := false) only [go_sem]
    have c := L.cell 0 rfl
    simp (implicitDefEqProofs := false) only [go_sem, c]
    refine L.stoAll 1 rfl rfl (one_agg rfl) fun HZ L => ?_
    simp only [List.set_cons_zero, List.set_cons_succ, List.set_nil, List.eraseIdx_cons_zero, List.eraseIdx_cons_succ] at L
    have c := L.cell 1 rfl
    simp (implicitDefEqProofs := false) only [go_sem, c]
    exact L.rfin (hP0 ▸ hp) (.inl (by simp))
  simp (implicitDefEqProofs := false) only [go_sem]
  refine ris_go L [117, 112, 100, 97, 116, 101] (fun ts H5 hσ e L => ?_) fun H5 e3 L => ?_
  · replace hp : P0 = liX (funcP t.at_ 4) (.ok ts.tail) := by
      rw [hp, ht ts hσ]
      exact declX_kw hσ e (by simp [liX])
    simp (implicitDefEqProofs := false) only [go_sem]
    refine L.stoOne 0 rfl (by simp) rfl fun H6 L => ?_
    simp only [List.set_cons_zero, List.set_cons_succ, List.set_nil, List.eraseIdx_cons_zero, List.eraseIdx_cons_succ] at L
    simp (implicitDefEqProofs := false) only [go_sem]
    refine ris_go L [113, 117, 101, 114, 121] (fun ts' H7 hσ' e' L => by
      cases hσ'
      have := isB_kw e' [117, 112, 100, 97, 116, 101]
      rw [e] at this; exact absurd this (by decide)) fun H7 e' L => ?_
    simp (implicitDefEqProofs := false) only [go_sem]
    exact func_restR hs hP0 L (isB_kind e) hp
  simp (implicitDefEqProofs := false) only [go_sem]
  refine ris_go L [113, 117, 101, 114, 121] (fun ts H5 hσ e L => ?_) fun H5 e4 L => ?_
  · replace hp : P0 = liX (funcP t.at_ 5) (.ok ts.tail) := by
      rw [hp, ht ts hσ]
      exact declX_kw hσ e (by simp [liX])
    simp (implicitDefEqProofs := false) only [go_sem]
    refine L.stoOne 0 rfl (by simp) rfl fun H6 L => ?_
    simp only [List.set_cons_zero, List.set_cons_succ, List.set_nil, List.eraseIdx_cons_zero, List.eraseIdx_cons_succ] at L
    simp (implicitDefEqProofs := false) only [go_sem]
    refine ris_go L [113, 117, 101, 114, 121] (fun ts' H7 hσ' e' L => ?_) fun H7 e' L => by
      have e'' : isB [113, 117, 101, 114, 121] ts = false := e'
      rw [e] at e''; cases e''
    cases hσ'
    simp (implicitDefEqProofs := false) only [go_sem]
    refine L.stoOne 0 rfl (by simp) rfl fun H8 L => ?_
    simp only [List.set_cons_zero, List.set_cons_succ, List.set_nil, List.eraseIdx_cons_zero, List.eraseIdx_cons_succ] at L
    simp (implicitDefEqProofs := false) only [go_sem]
    exact func_restR hs hP0 L (isB_kind e) hp
  unfold declP at hp
  replace hp := (((hp.trans (liX_no e1)).trans (liX_no e2)).trans (liX_no e3)).trans (liX_no e4)
  simp (implicitDefEqProofs := false) only [go_sem]
  refine rfail_go hs L hp fun v e H9 L hp => ?_
  replace hp : P0 = liX (ret (.mk 0 [] 0 t.at_ [])) (.error e) := hp
  simp (implicitDefEqProofs := false) only [go_sem]
  have c := L.cell 0 rfl
  simp (implicitDefEqProofs := false) only [go_sem, c]
  refine L.stoAll 1 rfl rfl (one_agg (t := []) rfl) fun HZ L => ?_
  simp only [List.set_cons_zero, List.set_cons_succ, List.set_nil, List.eraseIdx_cons_zero, List.eraseIdx_cons_succ] at L
  have c := L.cell 1 rfl
  simp (implicitDefEqProofs := false) only [go_sem, c]
  exact L.rfin (hP0 ▸ hp) (.inr ⟨rfl, rfl⟩)
end Go.Proofs.YtbgjgaaobnbijaaGreatDoor
end
section
/- The law of programs. -/
set_option linter.unusedSimpArgs false
set_option linter.unusedVariables false
set_option maxRecDepth 8000
namespace Go.Proofs.YtbgjgaaobnbijaaGreatDoor
open Gx Go
theorem appG {O0 O : List Nat} {S : Heap → Prop} {H0 H : Heap} {l : List Ent} {ds : List (Dat × List Value)} {nb tn : Nat} {R : Value → Heap → Prop} {kk nn aa : Int} {tt : Bs} {ks : List Nd} {kv v : Value} {g : Option Nat} {ns : List Nd} (L : Lv O0 H0 O S H (.blk nb tn [.int .i64 kk, sv tt, .int .i64 nn, .int .i64 aa, kv] :: l) ds)
    (i : Nat) (hi : l[i]? = some (.row 25 5 v (ns.map Nd.dat) g)) (hk : (kidsD ks, [kv]) ∈ ds) (h63 : ns.length + 1 ≤ 2097152)
    (hR : ∀ a c g' H', Lv O0 H0 O S H' (l.set i (.row 25 5 (.slice a (ns ++ [Nd.mk kk tt nn aa ks]).length c) ((ns ++ [Nd.mk kk tt nn aa ks]).map Nd.dat) g')) ds → R (.slice a (ns ++ [Nd.mk kk tt nn aa ks]).length c) H') :
    App Tryz.prog 23 23 23 H v (.slice (some ⟨nb, 0, none⟩) 1 1) R := by
  have L1 : Lv O0 H0 O S H l ds := Lv.drop L (List.sublist_cons_self _ _) fun p hp => hp
  have hq : RepP H (Lk H0.size O l) (kidsD ks) [kv] := L1.dat _ hk
  refine Lv.app L ENd i hi Tryz.underlying23 rfl (one_agg (nd_one hq)) (d := Nd.dat (.mk kk tt nn aa ks)) (RepP.nd hq) rfl (by simp [maxLen]; omega) (by simp; omega) fun a c g' H' L' => ?_
  have e : ns.map Nd.dat ++ [Nd.dat (.mk kk tt nn aa ks)] = (ns ++ [Nd.mk kk tt nn aa ks]).map Nd.dat := by simp
  have e2 : (ns.map Nd.dat).length + 1 = (ns ++ [Nd.mk kk tt nn aa ks]).length := by simp
  rw [e, e2] at L'
  rw [e2]
  exact hR a c g' H' L'
set_option maxHeartbeats 1000000 in
theorem sw0_ok : SwOk 0 progP := by
  intro H X O rb H1 b5 b3 b2 b1 xs T y0 y4 y5 y8 y9 y10 y11 y12 y13 y14 Q hP L hQ
  unfold pP' at *
  have hb1 : lenX (.ok T) ≤ 1048576 := Rs.lenX L.st
  have L := L.row0 25 5
  have hp : liX progP (.ok T) = liX (bd (progF (T.length + 1) []) fun l => ret (.mk 1 [] 0 0 l)) (.ok T) := rfl
  generalize hPP : liX progP (.ok T) = P0 at hp
  simp (implicitDefEqProofs := false) only [go_sem]
  refine vc_loop (fun (s : Sx × List Nd × (Option Addr × Nat)) H' => ∃ g f, Lv [] H O (fun A => Rs X A s.1 64) H' [.row 25 5 (.slice s.2.2.1 s.2.1.length s.2.2.2) (s.2.1.map Nd.dat) g, .blk b5 25 [.int .i64 1, sv [], .int .i64 0, .int .i64 0, .slice s.2.2.1 s.2.1.length s.2.2.2], .blk b3 28 xs, .blk b2 28 [.int .i64 0, .int .i64 0], .blk b1 25 [.int .i64 0, sv [], .int .i64 0, .int .i64 0, .slice none 0 0]] [] ∧
    P0 = liX (bd (progF (f + 1) s.2.1) fun l => ret (.mk 1 [] 0 0 l)) s.1 ∧ lenX s.1 ≤ f ∧ s.2.1.length + lenX s.1 ≤ 1048577)
    (fun s => [(4, .pointer (some ⟨b1, 0, none⟩)), (5, .pointer (some ⟨b2, 0, none⟩)), (8, ptr X.b), (9, .pointer (some ⟨b5, 0, none⟩))]) (fun s => lenX s.1) (.ok T, [], (none, 0)) ?_ ?_ ?_
  · exact ⟨none, T.length, L, hp, Nat.le_refl _, by simp only [List.length_nil]; omega⟩
  · simp (implicitDefEqProofs := false) only [go_sem, ptr]
  · rintro ⟨σ, ns, va, vc⟩ H2 ⟨g, f, L, hp, hf, hle⟩
    simp only at L hp hf hle ⊢
    obtain ⟨i, o, b, c, a, hb, hC⟩ := L.st.ex
    have hc := hb.cell
    unfold cells at hc
    cases σ with
    | error e =>
      obtain ⟨n, _, _, rfl, rfl, rfl⟩ := hC
      unfold ptr at hQ ⊢
      simp (implicitDefEqProofs := false) only [go_sem, hc]
      have L := Lv.rowDone L 0 rfl
      simp only [List.set_cons_zero, List.set_cons_succ, List.set_nil, List.eraseIdx_cons_zero, List.eraseIdx_cons_succ] at L
      exact hQ (.error e) 1 [] 0 0 ns _ H2 _ _ _ _ _ _ _ _ _ _ _ L (hPP.trans hp)
    | ok ts =>
      obtain ⟨n, rfl, hn, rfl, rfl, _, hr⟩ := hC
      have ht := rtoken_at L.st hb hn
      have he : X.T[n] = hd ts := by rw [hr, List.drop_eq_getElem_cons hn]; rfl
      rw [he] at ht
      have hne : ts ≠ [] := Rs.nil L.st
      have hpos := List.length_pos_iff.2 hne
      unfold ptr at ht hQ ⊢
      simp (implicitDefEqProofs := false) only [go_sem, hc]
      refine ht.mono ?_
      rintro v H3 ⟨rfl, hf3⟩
      have L := L.ext hf3
      by_cases k6 : (hd ts).kind = 6
      · simp (implicitDefEqProofs := false) only [go_sem, tkC, k6]
        have L := Lv.rowDone L 0 rfl
        simp only [List.set_cons_zero, List.set_cons_succ, List.set_nil, List.eraseIdx_cons_zero, List.eraseIdx_cons_succ] at L
        refine hQ (.ok ts) 1 [] 0 0 ns _ H3 _ _ _ _ _ _ _ _ _ _ _ L (hPP.trans (hp.trans ?_))
        have hq : progF (f + 1) ns ts = ret ns ts := by simp only [progF, k6, if_true]; rfl
        exact bd_at hq
      · replace hp : P0 = liX (bd declP fun d => bd (progF f (ns ++ [d])) fun l => ret (.mk 1 [] 0 0 l)) (.ok ts) := by
          have hq : progF (f + 1) ns ts = bd declP (fun d => progF f (ns ++ [d])) ts := by simp only [progF, k6, if_false]
          rw [hp, ← bd_bd']
          exact bd_at hq
        have cn := L.cell 1 rfl
        simp (implicitDefEqProofs := false) only [go_sem, tkC, k6, cn]
        have hdc := decl_sp.ok L.st
        unfold ptr at hdc
        refine hdc.mono ?_
        rintro v H4 ⟨d, σ', ⟨cs, rfl, hrr⟩, hs2, hf2, he2⟩
        obtain ⟨kk, tt, nn, aa, ks⟩ := d
        obtain ⟨kv, rfl, hkv⟩ := RepP.nd_open hrr
        have L := (hP.step L hf2 hs2).add (L.built hkv)
        replace hp := hp.trans (liX_step he2)
        have hl0 : lenX (.ok ts) = ts.length := rfl
        have hlt : lenX σ' < ts.length := by
          cases σ' with
          | error e => exact hpos
          | ok r =>
            obtain ⟨ts', e', hp'⟩ := he2.okd
            cases e'
            exact declP_lt hp' hne
        obtain ⟨f, rfl⟩ : ∃ f', f = f' + 1 := ⟨f - 1, by omega⟩
        have cn := L.cell 1 rfl
        simp (implicitDefEqProofs := false) only [go_sem, cn]
        refine L.newS fun b6 H5 L => ?_
        have cn := L.cell 2 rfl
        simp (implicitDefEqProofs := false) only [go_sem, cn]
        refine appG (ns := ns) (ks := ks) L 0 rfl (by simp) (by omega) fun a c g' H6 L => ?_
        simp only [List.set_cons_zero, List.set_cons_succ, List.set_nil, List.eraseIdx_cons_zero, List.eraseIdx_cons_succ] at L
        simp (implicitDefEqProofs := false) only [go_sem]
        refine L.stoOne 1 rfl (by simp) rfl fun H7 L => ?_
        simp only [List.set_cons_zero, List.set_cons_succ, List.set_nil, List.eraseIdx_cons_zero, List.eraseIdx_cons_succ] at L
        simp (implicitDefEqProofs := false) only [go_sem]
        refine loopK_intro (σ', ns ++ [.mk kk tt nn aa ks], (a, c)) ?_ ?_ ⟨g', f, L.drop (List.Sublist.refl _) (by simp), hp, ?_, ?_⟩
        · show lenX σ' < ts.length
          exact hlt
        · simp (implicitDefEqProofs := false) only [go_sem, ptr]
        · show lenX σ' ≤ f
          omega
        · show (ns ++ [Nd.mk kk tt nn aa ks]).length + lenX σ' ≤ 1048577
          simp only [List.length_append, List.length_cons, List.length_nil]; omega
section
variable (s : Bs) (hl : s.length ≤ maxLen) {H : Heap} (hG : GlobH H)
include hl hG
theorem rprog_ok : HCalls Tryz.prog 13 #[sv s] H fun v H' => ResR (srcP progP s) v H H' ∧ Fr [] H H' := by
  refine calls_of_vc (args := [_]) Tryz.func13 c13ok (Nat.le_of_ble_eq_true rfl) ?_
  have L := L0 H
  simp (implicitDefEqProofs := false) only [go_sem, c13]
  refine L.newP fun b1 H1 L => ?_
  simp (implicitDefEqProofs := false) only [go_sem]
  refine L.newP fun b2 H2 L => ?_
  simp (implicitDefEqProofs := false) only [go_sem]
  refine (rparse_ok sw0_ok s hl (hG.ext L.fr)).mono ?_
  rintro v H3 ⟨hv, hf3⟩
  cases e : srcP progP s with
  | error e =>
    rw [e] at hv
    simp only [ResR] at hv
    subst hv
    have L := L.ext hf3
    simp (implicitDefEqProofs := false) only [go_sem, zeroN, sv]
    refine L.stoAll 1 rfl rfl (by simp [Value.oneCell']) fun H4 L => ?_
    simp only [List.set_cons_zero, List.set_cons_succ, List.set_nil, List.eraseIdx_cons_zero, List.eraseIdx_cons_succ] at L
    simp (implicitDefEqProofs := false) only [go_sem]
    refine L.stoAll 0 rfl rfl (by simp [Value.oneCell']) fun H5 L => ?_
    simp only [List.set_cons_zero, List.set_cons_succ, List.set_nil, List.eraseIdx_cons_zero, List.eraseIdx_cons_succ] at L
    have c0 := L.cell 0 rfl
    have c1 := L.cell 1 rfl
    simp (implicitDefEqProofs := false) only [go_sem, c0, c1]
    exact ⟨by simp [ResR, zeroN, sv], L.fr⟩
  | ok n =>
    rw [e] at hv
    simp only [ResR] at hv
    obtain ⟨cs, rfl, hr⟩ := hv
    obtain ⟨kk, tt, nn, aa, ks⟩ := n
    obtain ⟨kv, rfl, hkv⟩ := RepP.nd_open hr
    have L := (L.ext hf3).add (L.built hkv)
    simp (implicitDefEqProofs := false) only [go_sem]
    refine L.stoAll 1 rfl rfl (one_agg (nd_one (L.dat (kidsD ks, [kv]) (by simp)))) fun H4 L => ?_
    simp only [List.set_cons_zero, List.set_cons_succ, List.set_nil, List.eraseIdx_cons_zero, List.eraseIdx_cons_succ] at L
    simp (implicitDefEqProofs := false) only [go_sem]
    refine L.stoAll 0 rfl rfl (by simp [Value.oneCell']) fun H5 L => ?_
    simp only [List.set_cons_zero, List.set_cons_succ, List.set_nil, List.eraseIdx_cons_zero, List.eraseIdx_cons_succ] at L
    have c0 := L.cell 0 rfl
    have c1 := L.cell 1 rfl
    simp (implicitDefEqProofs := false) only [go_sem, c0, c1]
    exact ⟨⟨_, rfl, RepP.nd ((L.dat (kidsD ks, [kv]) (by simp)).more fun x hx => .inl (.inl hx))⟩, L.fr⟩
theorem programs_law : HCalls Tryz.prog 5 #[sv s] H fun v H' => v = .bool true ∧ Fr [] H H' := by
  refine calls_of_vc (args := [_]) Tryz.func5 c5ok (Nat.le_of_ble_eq_true rfl) ?_
  have L := L0 H
  simp (implicitDefEqProofs := false) only [go_sem, c5]
  refine (awake_ok (hG.ext L.fr)).mono ?_
  rintro v H1 ⟨rfl, hf1⟩
  have L := L.ext hf1
  simp (implicitDefEqProofs := false) only [go_sem]
  refine (pparse_ok s hl (hG.ext L.fr)).mono ?_
  rintro v H2 ⟨hv, hf2⟩
  obtain ⟨k1, t1, n1, a1, ks1, kv1, e1, rfl, hk1⟩ := hv.out
  have L := (L.ext hf2).add (L.built hk1)
  simp (implicitDefEqProofs := false) only [go_sem]
  refine L.newP fun b1 H3 L => ?_
  simp (implicitDefEqProofs := false) only [go_sem]
  refine L.newP fun b2 H4 L => ?_
  simp (implicitDefEqProofs := false) only [go_sem]
  refine L.stoAll 1 rfl rfl (one_agg (nd_one (L.dat (kidsD ks1, [kv1]) (by simp)))) fun H5 L => ?_
  simp only [List.set_cons_zero, List.set_cons_succ, List.set_nil, List.eraseIdx_cons_zero, List.eraseIdx_cons_succ] at L
  simp (implicitDefEqProofs := false) only [go_sem]
  refine L.stoAll 0 rfl rfl (by simp [Value.oneCell']) fun H6 L => ?_
  simp only [List.set_cons_zero, List.set_cons_succ, List.set_nil, List.eraseIdx_cons_zero, List.eraseIdx_cons_succ] at L
  simp (implicitDefEqProofs := false) only [go_sem]
  refine (rprog_ok s hl (hG.ext L.fr)).mono ?_
  rintro v H7 ⟨hv, hf7⟩
  obtain ⟨k2, t2, n2, a2, ks2, kv2, e2, rfl, hk2⟩ := hv.out
  have L := (L.ext hf7).add (L.built hk2)
  simp (implicitDefEqProofs := false) only [go_sem]
  refine L.newP fun b3 H8 L => ?_
  simp (implicitDefEqProofs := false) only [go_sem]
  refine L.newP fun b4 H9 L => ?_
  simp (implicitDefEqProofs := false) only [go_sem]
  refine L.stoAll 1 rfl rfl (one_agg (nd_one (L.dat (kidsD ks2, [kv2]) (by simp)))) fun H10 L => ?_
  simp only [List.set_cons_zero, List.set_cons_succ, List.set_nil, List.eraseIdx_cons_zero, List.eraseIdx_cons_succ] at L
  simp (implicitDefEqProofs := false) only [go_sem]
  refine L.stoAll 0 rfl rfl (by simp [Value.oneCell']) fun H11 L => ?_
  simp only [List.set_cons_zero, List.set_cons_succ, List.set_nil, List.eraseIdx_cons_zero, List.eraseIdx_cons_succ] at L
  have c0 := L.cell 0 rfl
  have c1 := L.cell 1 rfl
  have c2 := L.cell 2 rfl
  have c3 := L.cell 3 rfl
  have hA := agree_ok (.mk k1 t1 n1 a1 ks1) (.mk k2 t2 n2 a2 ks2) (fltOf (srcP progP s)) (fltOf (srcP progP s)) (H := H11) (NA.mk (L.dat (kidsD ks1, [kv1]) (by simp)).rep) (NA.mk (L.dat (kidsD ks2, [kv2]) (by simp)).rep)
  have heq : eqN (.mk k1 t1 n1 a1 ks1) (.mk k2 t2 n2 a2 ks2) = true := by rw [← e1, ← e2]; exact eqN_refl _
  rw [heq, decide_eq_true rfl] at hA
  simp (implicitDefEqProofs := false) only [go_sem, c0, c1, c2, c3]
  refine hA.mono ?_
  rintro v H12 ⟨rfl, hf12⟩
  simp (implicitDefEqProofs := false) only [go_sem]
  exact L.fr.trans hf12
end
end Go.Proofs.YtbgjgaaobnbijaaGreatDoor
end
section
/- From a call on heaps to a row that lists variables. -/
set_option linter.unusedSimpArgs false
set_option linter.unusedVariables false
set_option maxRecDepth 8000
namespace Go.Proofs.YtbgjgaaobnbijaaGreatDoor
open Gx Go Go.ChangeShapes Go.WideShapes Go.ChangeAt Go.RowKit

def laidL : List (String × DataW Unit) := Rows.parserExpressionsRow.laid
theorem own : ownKnob Tryz.prog.godebug = none := by kernel_rfl
theorem laidOut : laidOutB Tryz.prog = true := by kernel_rfl
theorem plainLaid : (laidL.filter fun x => x.2.handleName?.isSome) = [] := by kernel_rfl

theorem heap_of_var {P : Program} {W : World} {name : String} {g : Nat} {cs : Array Value} (hg : P.globalNamed name = some g) (h : W.var? P name = some cs) : ∃ t fr, W.heap[g]? = some (.cells cs t fr) := by
  unfold World.var? at h
  rw [hg, Option.bind_some] at h
  split at h
  · rename_i c t fr he
    simp only [Option.some.injEq] at h
    subst h
    exact ⟨t, fr, he⟩
  · cases h

theorem glob_of_laid {W : World} (h : laidMetH Tryz.prog laidL W) : GlobH W.heap := by
  rw [MakeChecks.laidMetH_plain _ _ _ (by kernel_rfl)] at h
  obtain ⟨ps, ⟨g0, t0, cs0, f0, p0, q0, hg0, ht0, hv0, hd0, ⟨g1, t1, cs1, f1, p1, q1, hg1, ht1, hv1, hd1, ⟨g2, t2, cs2, f2, p2, q2, hg2, ht2, hv2, hd2, ⟨g3, t3, cs3, f3, p3, q3, hg3, ht3, hv3, hd3, _, _⟩, _⟩, _⟩, _⟩, _, _⟩ := h
  obtain rfl := Option.some.inj (gTab.symm.trans hg2)
  obtain rfl := Option.some.inj (gErr.symm.trans hg3)
  have e2 : (Tryz.prog.globals[2]?).map (·.type) = some 110 := by kernel_rfl
  have e3 : (Tryz.prog.globals[1]?).map (·.type) = some 77 := by kernel_rfl
  obtain rfl := Option.some.inj (e2.symm.trans ht2)
  obtain rfl := Option.some.inj (e3.symm.trans ht3)
  obtain ⟨t2', fr2, hh2⟩ := heap_of_var hg2 hv2
  obtain ⟨t3', fr3, hh3⟩ := heap_of_var hg3 hv3
  have hc := Lib.cells_of_tab (k := .u64) (zs := Lib.pow10Tab) Tryz.underlying110 Tryz.underlying86 (by kernel_rfl) (by kernel_rfl) hd2
  obtain ⟨_, u, v, hcs3, _, _⟩ := iface_of_trod Tryz.underlying77 hd3
  refine ⟨⟨.iface u v, ?_, .inr ⟨u, v, rfl⟩⟩, t2', fr2, ?_⟩
  · unfold cellB
    rw [hh3]
    show cs3[0]? = _
    rw [← Array.getElem?_toList, hcs3]; rfl
  · rw [hh2, ← hc]

/-- The door's own heap meets the condition. -/
theorem door_met (os : Os) (args : Array Value) : laidMetH Tryz.prog laidL ((World.doorLaid Tryz.prog 400 os).forCall (fun _ _ => 0) ⟨#[], args, []⟩).memory :=
  laidMetH_of_parts3 (fuel := 8) (laidMet_of_run' 8 (by kernel_rfl) (by kernel_rfl)) (by kernel_rfl) (by kernel_rfl)

theorem law_row_laid {H : Type} {enc : TypeId × Value → H} {os : Os} {f : FuncId} {fn : Func} {s : ChangeSpec} {tb : TypeId} (started : os.Started) (noInit : Tryz.prog.inits.idxOf? f = none) (hf : Tryz.prog.funcs[f]? = some fn)
    (hpar : fn.params.toList.all (fun t => Tryz.prog.readableRec t && decide (t < Tryz.prog.types.size)) = true) (hres : fn.resultTypes = #[tb]) (htb : Tryz.prog.underlying tb = some .bool) (hv : s.vars = [])
    (hfn : ∀ (K : Type) (ds : List (DataW K)), ds.length = fn.params.size → s.fn K ds = { results := [.lit (.bool true)], args := ds })
    (witness : ∃ (w : World) (tape : Tape) (i : Input), w.os = os ∧ (w.forCall tape i).Shaped Tryz.prog ∧ i.vars = [] ∧ Input.okWide Tryz.prog (w.forCall tape i) .any w.heap.size f i ∧
      ((s.pre enc Tryz.prog fn [] false (w.forCall tape i).memory i.args ∧ laidMetH Tryz.prog laidL (w.forCall tape i).memory) ∧ sizedMet enc Tryz.prog fn (OpenSpec.ofChange s) false (w.forCall tape i).memory i.args) ∧
      Assume.holds {} Tryz.prog (lone (Frame.enter Tryz.prog f i.args .normal) [] (w.forCall tape i)))
    (contract : ∀ (W : World) (base : Nat) (args : Array Value) (ds : List (DataW H)) (ps : List MemPlace),
      (∀ (j : Nat) t v, fn.params[j]? = some t → args[j]? = some v → Value.okWide Tryz.prog W .any base t v) →
      DataW.TrodAll enc Tryz.prog W 0 (fun _ => true) true fn.params.toList args.toList ds ps → GlobH W.heap → HCalls Tryz.prog f args W.heap fun v H' => v = .bool true ∧ Fr [] W.heap H') :
    ReturnsInHanded {} Tryz.checked os f .any (fun w args => (s.pre enc Tryz.prog fn [] false w args ∧ laidMetH Tryz.prog laidL w) ∧ sizedMet enc Tryz.prog fn (OpenSpec.ofChange s) false w args) (s.post enc Tryz.prog fn false true false false) := by
  refine returnsInHanded_of_change_and (C := Tryz.checked) (X := fun w _ => laidMetH Tryz.prog laidL w) (fun _ _ _ hh h => h.of_heap hh) own started noInit hf witness ?_
  intro W base args ds gs before hval hW _ _ hL _
  have hW' := hW
  obtain ⟨p, q, hA, hV, rfl, hz, hn⟩ := hW
  have hV' := hV
  rw [hv] at hV'
  obtain ⟨rfl, rfl⟩ := trodVars_none hV'
  refine ((contract W base args ds p hval hA (glob_of_laid hL)).out W rfl).mono fun e W' ⟨v, he, ⟨hvt, hfr⟩, hs⟩ => ?_
  subst hvt
  refine ⟨_, he, law_post laidOut hpar hres htb hv ?_ hW' (below_of hs hfr)⟩
  rw [List.append_nil]
  exact hfn H ds (by have := trodAll_len hA; simpa using this)
end Go.Proofs.YtbgjgaaobnbijaaGreatDoor
end
