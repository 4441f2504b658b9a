/- Lattices: contracts. -/
import Derived.Test.YtbgjgaaobnbijaaDoorPi
set_option linter.unusedSimpArgs false
set_option linter.unusedVariables false
set_option maxRecDepth 8000
namespace Go.Proofs.YtbgjgaaobnbijaaDoor
open Gx Go

theorem takeP_eq {k : Int} {ts r : List Tk} {t : Tk} (h : takeP k ts = .ok (t, r)) : t = hd ts ∧ t.kind = k ∧ r = ts.tail := by
  unfold takeP at h
  split at h
  · cases h; exact ⟨rfl, by assumption, rfl⟩
  · cases h
theorem quoteP_eq {ts r : List Tk} {n : Nd} (h : quoteP ts = .ok (n, r)) : n = .mk 47 (hd ts).text 0 (hd ts).at_ [] ∧ (hd ts).kind = 4 ∧ r = ts.tail := by
  unfold quoteP bd at h
  split at h
  · cases h
  · rename_i t q hq
    obtain ⟨rfl, h2, rfl⟩ := takeP_eq hq
    cases h; exact ⟨rfl, h2, rfl⟩
theorem hd_pos {ts : List Tk} {k : Int} (h : (hd ts).kind = k) (hk : k ≠ 6) : 0 < ts.length := by
  cases ts with
  | nil => exact absurd h.symm hk
  | cons t r => simp
theorem quotesF_len : ∀ (f : Nat) (l ns : List Nd) (ts r : List Tk), quotesF f l ts = .ok (ns, r) → ns.length + r.length ≤ l.length + ts.length
  | 0, l, ns, ts, r, h => by
    simp only [quotesF, ret, Except.ok.injEq, Prod.mk.injEq] at h
    obtain ⟨rfl, rfl⟩ := h; exact Nat.le_refl _
  | f + 1, l, ns, ts, r, h => by
    simp only [quotesF] at h
    split at h
    · unfold bd at h
      split at h
      · cases h
      · rename_i a q hq
        have h1 := quotesF_len f _ _ _ _ h
        have h2 := (quoteP_eq hq).2
        have h3 := hd_pos h2.1 (by decide)
        rw [h2.2] at h1
        simp only [List.length_append, List.length_cons, List.length_nil, List.length_tail] at h1 h3
        omega
    · cases h; exact Nat.le_refl _
theorem quotesP_len {ns : List Nd} {ts r : List Tk} (h : quotesP ts = .ok (ns, r)) : ns.length + r.length ≤ ts.length := by
  unfold quotesP bd at h
  split at h
  · cases h
  · rename_i a q hq
    have h1 := quotesF_len _ _ _ _ _ h
    have h2 := (quoteP_eq hq).2
    have h3 := hd_pos h2.1 (by decide)
    rw [h2.2] at h1
    simp only [List.length_cons, List.length_nil, List.length_tail] at h1
    omega
theorem _root_.Gx.Lv.len {X : Cx} {H0 H : Heap} {ts : List Tk} {k : Nat} {l : List Ent} {ds : List (Dat × List Value)} (L : PLv X H0 ts k H l ds) : ts.length ≤ 1048576 := by
  obtain ⟨i', _, e', _⟩ := L.ps.ex
  have := L.ps.cap
  rw [e', List.length_drop]; omega

theorem param_ok {k : Nat} : POk k 46 [] paramP NdR := by
  refine ⟨fun {X H ts} hs => ?_⟩
  refine pcalls_of_vc (args := [_]) Tryd.func46 c46ok (Nat.le_of_ble_eq_true rfl) ?_
  have L := hs.walk
  have hp : paramP ts = bd (namedP 6) (fun n => match n with | .mk kk tt nn aa ks => bd (expP [58]) fun _ => bd sortP fun s => ret (.mk kk tt s aa ks)) ts := by
    unfold paramP namedP
    rw [bd_bd]; rfl
  simp (implicitDefEqProofs := false) only [go_sem, c46]
  refine L.newP fun b1 H1 L => ?_
  simp (implicitDefEqProofs := false) only [go_sem]
  refine (named_ok 6).goN hs L hp fun kk tt nn aa ks kv r H2 L hp _ => ?_
  simp only at hp
  simp (implicitDefEqProofs := false) only [go_sem]
  refine L.newP fun b2 H3 L => ?_
  simp (implicitDefEqProofs := false) only [go_sem]
  refine L.stoAll 0 rfl rfl (one_agg (L.one (ks := ks) (by simp))) fun H4 L => ?_
  simp only [List.set_cons_zero, List.set_cons_succ, List.set_nil, List.eraseIdx_cons_zero, List.eraseIdx_cons_succ] at L
  simp (implicitDefEqProofs := false) only [go_sem]
  refine (expect_ok [58]).go hs L hp fun _ r v H5 L hp _ _ => ?_
  simp (implicitDefEqProofs := false) only [go_sem]
  refine sort_ok.go hs L hp fun n r v H6 L hp _ hv => ?_
  cases hv
  simp (implicitDefEqProofs := false) only [go_sem]
  refine L.stoOne 0 rfl (by simp) rfl fun H7 L => ?_
  simp only [List.set_cons_zero, List.set_cons_succ, List.set_nil, List.eraseIdx_cons_zero, List.eraseIdx_cons_succ] at L
  have c := L.cell 0 rfl
  simp (implicitDefEqProofs := false) only [go_sem, c]
  refine L.stoAll 1 rfl rfl (one_agg (L.one (ks := ks) (by simp))) fun HZ L => ?_
  simp only [List.set_cons_zero, List.set_cons_succ, List.set_nil, List.eraseIdx_cons_zero, List.eraseIdx_cons_succ] at L
  have c := L.cell 1 rfl
  simp (implicitDefEqProofs := false) only [go_sem, c]
  exact L.fin hp (.inl (by simp))

/-- A rule, behind its premises. -/
theorem rule_rest {k : Nat} {X : Cx} {H H1 : Heap} {ts r : List Tk} {b : Nat} {ns qs : List Nd} {v w : Value} {g gq : Option Nat} {aa : Int} {γ : Type} {P0 : Except Flt (γ × List Tk)} {G : Nd → PP γ} {x1 x4 x5 x6 : Option Value} {Q : Post} (hs : Ps X H ts k)
    (L : PLv X H r k H1 [.row 24 5 w (qs.map Nd.dat) gq, .blk b 24 [.int .i64 20, sv [], .int .i64 0, .int .i64 aa, w], .row 24 5 v (ns.map Nd.dat) g] []) (hl : qs.length + 1 ≤ 1048576) (hl2 : ns.length + 1 ≤ 1048576)
    (hp : P0 = bd (bd (expP [61, 62]) fun _ => bd quoteP fun c => ret (.mk 20 [] 0 aa (qs ++ [c]))) G r)
    (hQ : ∀ a c g' H' r' n, PLv X H r' k H' [.row 24 5 (.slice a (ns.length + 1) c) ((ns ++ [n]).map Nd.dat) g'] [] → P0 = G n r' → r'.length ≤ r.length → Q .nrm [some (ptr X.b), x1, some (.slice a (ns.length + 1) c), some (.pointer (some ⟨b, 0, none⟩)), x4, x5, x6] H') :
    vc Tryd.prog (PEr X H P0) c68s17 [some (ptr X.b), x1, some v, some (.pointer (some ⟨b, 0, none⟩)), x4, x5, x6] H1 Q := by
  rw [c68s17eq]
  simp only [bd_bd] at hp
  simp (implicitDefEqProofs := false) only [go_sem]
  refine (expect_ok [61, 62]).go hs L hp fun _ r1 v H2 L hp he _ => ?_
  have hle1 := (expP_dn _).of he
  rw [bd_bd] at hp
  have c := L.cell 1 rfl
  simp (implicitDefEqProofs := false) only [go_sem, c]
  refine quote_ok.goN hs L hp fun kk tt nn aa' ks kv r2 H3 L hp he => ?_
  have hle2 := quoteP_dn.of he
  have c := L.cell 1 rfl
  simp (implicitDefEqProofs := false) only [go_sem, c]
  refine L.newS fun bA HA L => ?_
  have c := L.cell 2 rfl
  simp (implicitDefEqProofs := false) only [go_sem, c]
  refine L.appN (ns := qs) (ks := ks) 0 rfl (by simp) hl fun a c g' HB L => ?_
  simp only [List.set_cons_zero, List.set_cons_succ, List.set_nil, List.eraseIdx_cons_zero, List.eraseIdx_cons_succ] at L
  simp (implicitDefEqProofs := false) only [go_sem]
  refine L.stoOne 1 rfl (by simp) rfl fun HC L => ?_
  simp only [List.set_cons_zero, List.set_cons_succ, List.set_nil, List.eraseIdx_cons_zero, List.eraseIdx_cons_succ] at L
  have L := L.rowN 0 (qs ++ [.mk kk tt nn aa' ks]) rfl
  simp only [List.set_cons_zero, List.set_cons_succ, List.set_nil, List.eraseIdx_cons_zero, List.eraseIdx_cons_succ] at L
  have c := L.cell 0 rfl
  simp (implicitDefEqProofs := false) only [go_sem, c]
  refine L.newS fun bD HD L => ?_
  simp (implicitDefEqProofs := false) only [go_sem]
  refine L.appN (kk := 20) (tt := []) (nn := 0) (aa := aa) (ns := ns) (ks := qs ++ [.mk kk tt nn aa' ks]) 1 rfl (by simp) hl2 fun a c g' HB L => ?_
  simp only [List.set_cons_zero, List.set_cons_succ, List.set_nil, List.eraseIdx_cons_zero, List.eraseIdx_cons_succ] at L
  have e : (ns ++ [Nd.mk 20 [] 0 aa (qs ++ [.mk kk tt nn aa' ks])]).length = ns.length + 1 := by simp
  rw [e] at L ⊢
  simp (implicitDefEqProofs := false) only [go_sem]
  exact hQ a c g' HB r2 _ (L.drop (by simp) (by simp)) hp (by omega)

theorem ruleP_bd {γ : Type} {G : Nd → PP γ} {ts : List Tk} : bd ruleP G ts = bd optQ (fun q => bd (bd (expP [61, 62]) fun _ => bd quoteP fun c => ret (.mk 20 [] 0 (hd ts).at_ (q ++ [c]))) G) ts := by
  have e : ruleP ts = bd optQ (fun q => bd (expP [61, 62]) fun _ => bd quoteP fun c => ret (.mk 20 [] 0 (hd ts).at_ (q ++ [c]))) ts := rfl
  rw [← bd_bd]
  unfold bd at e ⊢
  rw [e]
theorem optQ_y {γ : Type} {G : List Nd → PP γ} {ts : List Tk} (h : (hd ts).kind = 4) : bd optQ G ts = bd quotesP G ts := by
  unfold bd optQ; rw [if_pos h]
theorem optQ_n {γ : Type} {G : List Nd → PP γ} {ts : List Tk} (h : (hd ts).kind ≠ 4) : bd optQ G ts = G [] ts := by
  unfold bd optQ; rw [if_neg h]
set_option maxHeartbeats 1000000 in
theorem closed_rest {k : Nat} {X : Cx} {H H1 : Heap} {ts r : List Tk} {ns : List Nd} {v : Value} {g : Option Nat} {P0 : Except Flt (List Nd × List Tk)} {x1 x3 x4 x5 x6 : Option Value} (hs : Ps X H ts k)
    (L : PLv X H r k H1 [.row 24 5 v (ns.map Nd.dat) g] []) (hl : ns.length + r.length ≤ 1048577)
    (hp : P0 = bd (rulesF r.length ns) (fun l => bd (expP [41]) fun _ => ret l) r) :
    vc Tryd.prog (PEr X H P0) c68s25 [some (ptr X.b), x1, some v, x3, x4, x5, x6] H1 (finQ c68.res fun v H' => ∃ a r, P0 = .ok (a, r) ∧ KdR a v H H' ∧ Ps X H' r k ∧ Fr [X.b] H H') := by
  rw [c68s25eq]
  simp (implicitDefEqProofs := false) only [go_sem, c68]
  refine vc_loop (fun (s : List Tk × List Nd × Value) H' => ∃ g f, PLv X H s.1 k H' [.row 24 5 s.2.2 (s.2.1.map Nd.dat) g] [] ∧ P0 = bd (rulesF f s.2.1) (fun l => bd (expP [41]) fun _ => ret l) s.1 ∧ s.1.length ≤ f ∧ s.2.1.length + s.1.length ≤ 1048577)
    (fun s => [(0, ptr X.b), (3, s.2.2)]) (fun s => s.1.length) (r, ns, v) ?_ ?_ ?_
  · exact ⟨g, _, L, hp, Nat.le_refl _, hl⟩
  · simp (implicitDefEqProofs := false) only [go_sem]
  · rintro ⟨cur, ns, v⟩ H3 ⟨g, f, L, hp, hf, hle⟩
    simp only at L hp hf hle ⊢
    have hcur := List.length_pos_iff.2 L.ps.nil
    obtain ⟨f, rfl⟩ : ∃ f', f = f' + 1 := ⟨f - 1, by omega⟩
    have htl : cur.tail.length = cur.length - 1 := by simp
    have hp : P0 = if isB [59] cur then bd ruleP (fun x => bd (rulesF f (ns ++ [x])) (fun l => bd (expP [41]) fun _ => ret l)) cur.tail else bd (expP [41]) (fun _ => ret ns) cur := by
      rw [hp]
      conv => lhs; unfold bd rulesF
      by_cases e : isB [59] cur = true
      · simp only [e, if_true]
        rw [← bd_bd]; rfl
      · simp only [e, if_false]; rfl
    simp (implicitDefEqProofs := false) only [go_sem]
    refine accept_go hs L [59] (fun e H4 L => ?_) fun e H4 L => ?_
    · rw [if_pos e, ruleP_bd] at hp
      have hct := List.length_pos_iff.2 L.ps.nil
      simp (implicitDefEqProofs := false) only [go_sem]
      refine look_go L fun H5 L => ?_
      simp (implicitDefEqProofs := false) only [go_sem, tkC]
      refine L.newP fun b H6 L => ?_
      simp (implicitDefEqProofs := false) only [go_sem]
      refine L.stoAll 0 rfl rfl (one_agg (t := []) rfl) fun H7 L => ?_
      simp only [List.set_cons_zero, List.set_cons_succ, List.set_nil, List.eraseIdx_cons_zero, List.eraseIdx_cons_succ] at L
      simp (implicitDefEqProofs := false) only [go_sem]
      refine look_go L fun H8 L => ?_
      by_cases k4 : (hd cur.tail).kind = 4
      · rw [optQ_y k4] at hp
        simp (implicitDefEqProofs := false) only [go_sem, tkC, k4]
        refine quotes_ok.goR hs L hp fun qs aw cw gq r1 H9 L hp he => ?_
        have hql := quotesP_len he
        simp (implicitDefEqProofs := false) only [go_sem]
        refine L.stoOne 1 rfl (by simp) rfl fun H10 L => ?_
        simp only [List.set_cons_zero, List.set_cons_succ, List.set_nil, List.eraseIdx_cons_zero, List.eraseIdx_cons_succ] at L
        simp (implicitDefEqProofs := false) only [go_sem]
        refine rule_rest hs L (by have := List.length_pos_iff.2 L.ps.nil; omega) (by omega) hp fun a c g' H' r' n L hp hle' => ?_
        simp (implicitDefEqProofs := false) only [go_sem]
        refine loopK_intro (r', ns ++ [n], .slice a (ns.length + 1) c) ?_ ?_ ⟨g', f, L, hp, show r'.length ≤ f by omega, ?_⟩
        · show r'.length < cur.length
          omega
        · simp (implicitDefEqProofs := false) only [go_sem]
        · simp only [List.length_append, List.length_cons, List.length_nil]; omega
      · rw [optQ_n k4] at hp
        simp (implicitDefEqProofs := false) only [go_sem, tkC, k4]
        have L := L.row0 24 5
        refine rule_rest hs (qs := []) L (by decide) (by omega) hp fun a c g' H' r' n L hp hle' => ?_
        simp (implicitDefEqProofs := false) only [go_sem]
        refine loopK_intro (r', ns ++ [n], .slice a (ns.length + 1) c) ?_ ?_ ⟨g', f, L, hp, show r'.length ≤ f by omega, ?_⟩
        · show r'.length < cur.length
          omega
        · simp (implicitDefEqProofs := false) only [go_sem]
        · simp only [List.length_append, List.length_cons, List.length_nil]; omega
    · rw [if_neg (nb e)] at hp
      simp (implicitDefEqProofs := false) only [go_sem]
      refine (expect_ok [41]).go hs L hp fun _ r v H3 L hp _ _ => ?_
      simp (implicitDefEqProofs := false) only [go_sem]
      exact L.finR hp 0 rfl
theorem closed_ok {k : Nat} : POk k 68 [] closedP KdR := by
  refine ⟨fun {X H ts} hs => ?_⟩
  refine pcalls_of_vc (args := [_]) Tryd.func68 c68ok (Nat.le_of_ble_eq_true rfl) ?_
  have L := hs.walk
  simp (implicitDefEqProofs := false) only [go_sem, c68]
  refine (expect_ok [40]).go hs L (P0 := closedP ts) rfl fun _ r v H1 L hp _ _ => ?_
  have hlen := L.len
  simp (implicitDefEqProofs := false) only [go_sem]
  refine look_go L fun H2 L => ?_
  by_cases k4 : (hd r).kind = 4
  · rw [optQ_y k4] at hp
    simp (implicitDefEqProofs := false) only [go_sem, tkC, k4]
    refine quotes_ok.goR hs L hp fun qs aw cw gq r1 H3 L hp he => ?_
    have hql := quotesP_len he
    simp (implicitDefEqProofs := false) only [go_sem]
    exact closed_rest hs L (by omega) hp
  · rw [optQ_n k4] at hp
    simp (implicitDefEqProofs := false) only [go_sem, tkC, k4]
    exact closed_rest (ns := []) hs (L.row0 24 5) (by simp; omega) hp
end Go.Proofs.YtbgjgaaobnbijaaDoor
