/- Declarations: contract. -/
import Derived.Test.YtbgjgaaobnbijaaDoorPk
set_option linter.unusedSimpArgs false
set_option linter.unusedVariables false
set_option maxRecDepth 8000
namespace Go.Proofs.YtbgjgaaobnbijaaDoor
open Gx Go

theorem lat_ok : ∀ k : Nat, POk k 44 [] (latP (loL k)) NdR := by
  intro k
  induction k with
  | zero => exact lattice_ok fun j hj => by omega
  | succ k ih =>
    refine lattice_ok fun j hj => ?_
    obtain rfl : j = k := by omega
    rw [levL_eq]; exact ih
theorem isB_pos {s : Bs} {ts : List Tk} (h : isB s ts = true) : 0 < ts.length := by
  cases ts with
  | nil => exact absurd rfl (isB_kind h)
  | cons t r => simp
theorem expP_lt {s : Bs} {ts r : List Tk} {a : Int} (h : expP s ts = .ok (a, r)) : r.length < ts.length := by
  unfold expP at h
  split at h
  · rename_i e
    cases h
    have := isB_pos e
    rw [List.length_tail]; omega
  · cases h
theorem comma_lt' {ts r : List Tk} {b : Bool} (h : commaP ts = .ok (b, r)) : r.length < ts.length := by
  unfold commaP at h
  split at h
  · rename_i e
    cases h
    have := isB_pos e
    rw [List.length_tail]; omega
  · unfold bd at h
    split at h
    · cases h
    · rename_i a q hq
      have := expP_lt hq
      simp only [ret, Except.ok.injEq, Prod.mk.injEq] at h
      rw [← h.2]; exact this
theorem namedP_lt {k : Int} {ts r : List Tk} {a : Nd} (h : namedP k ts = .ok (a, r)) : r.length < ts.length := by
  unfold namedP bd at h
  split at h
  · cases h
  · rename_i t q hq
    obtain ⟨rfl, h2, rfl⟩ := takeP_eq hq
    have := hd_pos h2 (by decide)
    simp only [ret, Except.ok.injEq, Prod.mk.injEq] at h
    rw [← h.2, List.length_tail]; omega

/-- The last expression of an update or a query. -/
theorem func_end {X : Cx} {H H1 : Heap} {ts r : List Tk} {b b1 : Nat} {ns : List Nd} {v : Value} {g : Option Nat} {K n aa : Int} {nm : Bs} {γ : Type} {P0 : Except Flt (γ × List Tk)} {G : List Nd → PP γ} {x3 x4 x5 x6 x7 x8 x9 x10 x11 x12 : Option Value} {Q : Post} {cs1 : List Value} (hs : Ps X H ts 64)
    (L : PLv X H r 64 H1 [.row 24 5 v (ns.map Nd.dat) g, .blk b 24 [.int .i64 K, sv nm, .int .i64 n, .int .i64 aa, v], .blk b1 24 cs1] []) (hl : ns.length + 1 ≤ 1048576)
    (hp : P0 = bd (expP [61]) (fun _ => bd (exprP (loK 64)) fun e => G (ns ++ [e])) r)
    (hQ : ∀ a c g' H' r' m, PLv X H r' 64 H' [.row 24 5 (.slice a (ns ++ [m]).length c) ((ns ++ [m]).map Nd.dat) g', .blk b 24 [.int .i64 K, sv nm, .int .i64 n, .int .i64 aa, .slice a (ns ++ [m]).length c], .blk b1 24 cs1] [] → P0 = G (ns ++ [m]) r' →
      Q .nrm [some (ptr X.b), some (.pointer (some ⟨b1, 0, none⟩)), some (.pointer (some ⟨b, 0, none⟩)), x3, x4, x5, x6, x7, x8, x9, x10, x11, x12] H') :
    vc Tryd.prog (PEr X H P0) c30s51 [some (ptr X.b), some (.pointer (some ⟨b1, 0, none⟩)), some (.pointer (some ⟨b, 0, none⟩)), x3, x4, x5, x6, x7, x8, x9, x10, x11, x12] H1 Q := by
  rw [c30s51eq]
  simp (implicitDefEqProofs := false) only [go_sem]
  refine (expect_ok [61]).go hs L hp fun _ r1 v H2 L hp he _ => ?_
  have c := L.cell 1 rfl
  simp (implicitDefEqProofs := false) only [go_sem, c]
  refine (lev_ok 64).1.goN hs L hp fun kk tt nn aa' ks kv r2 H3 L hp he => ?_
  have c := L.cell 1 rfl
  simp (implicitDefEqProofs := false) only [go_sem, c]
  refine L.newS fun bA HA L => ?_
  have c := L.cell 2 rfl
  simp (implicitDefEqProofs := false) only [go_sem, c]
  refine L.appN (ns := ns) (ks := ks) 0 rfl (by simp) hl fun a c g' HB L => ?_
  simp only [List.set_cons_zero, List.set_cons_succ, List.set_nil, List.eraseIdx_cons_zero, List.eraseIdx_cons_succ] at L
  simp (implicitDefEqProofs := false) only [go_sem]
  refine L.stoOne 1 rfl (by simp) rfl fun HC L => ?_
  simp only [List.set_cons_zero, List.set_cons_succ, List.set_nil, List.eraseIdx_cons_zero, List.eraseIdx_cons_succ] at L
  simp (implicitDefEqProofs := false) only [go_sem]
  exact hQ a c g' HC r2 _ (L.drop (List.Sublist.refl _) (by simp)) hp

/-- An update or a query, behind its name. -/
theorem func_rest {X : Cx} {H H1 : Heap} {ts r : List Tk} {b b1 : Nat} {K aa : Int} {nm : Bs} {γ : Type} {P0 : Except Flt (γ × List Tk)} {G : List Nd → Int → PP γ} {x3 x4 x5 x6 x7 x8 x9 x10 x11 x12 : Option Value} {Q : Post} {cs1 : List Value} (hs : Ps X H ts 64)
    (L : PLv X H r 64 H1 [.blk b 24 [.int .i64 K, sv nm, .int .i64 0, .int .i64 aa, .slice none 0 0], .blk b1 24 cs1] [])
    (hp : P0 = bd (expP [40]) (fun _ => bd (listP paramP) fun ps => bd (expP [111, 110]) fun _ => bd (namedP 48) fun o => bd (if K = 5 then bd (expP [58]) fun _ => sortP else ret 0) fun n => bd (expP [61]) fun _ => bd (exprP (loK 64)) fun e => G (ps ++ [o] ++ [e]) n) r)
    (hQ : ∀ a c g' H' r' ns n x3 x4 x5 x6 x7 x8 x9 x10 x11 x12, PLv X H r' 64 H' [.row 24 5 (.slice a ns.length c) (ns.map Nd.dat) g', .blk b 24 [.int .i64 K, sv nm, .int .i64 n, .int .i64 aa, .slice a ns.length c], .blk b1 24 cs1] [] → P0 = G ns n r' →
      Q .nrm [some (ptr X.b), some (.pointer (some ⟨b1, 0, none⟩)), some (.pointer (some ⟨b, 0, none⟩)), x3, x4, x5, x6, x7, x8, x9, x10, x11, x12] H') :
    vc Tryd.prog (PEr X H P0) c30s56 [some (ptr X.b), some (.pointer (some ⟨b1, 0, none⟩)), some (.pointer (some ⟨b, 0, none⟩)), x3, x4, x5, x6, x7, x8, x9, x10, x11, x12] H1 Q := by
  rw [c30s56eq]
  simp (implicitDefEqProofs := false) only [go_sem]
  refine (expect_ok [40]).go hs L hp fun _ r1 v H2 L hp he _ => ?_
  have hlen := L.len
  obtain ⟨cur0, hcur0⟩ : ∃ cur, cur = r1 := ⟨_, rfl⟩
  rw [← hcur0] at L hp hlen
  have L := L.row0 24 5
  simp (implicitDefEqProofs := false) only [go_sem]
  refine accept_u hs L [41] fun H3 L => ?_
  simp (implicitDefEqProofs := false) only [go_sem]
  refine vc_loop (fun (s : Bool × List Tk × List Nd × (Option Addr × Nat)) H' => ∃ g f, PLv X H s.2.1 64 H' [.row 24 5 (.slice s.2.2.2.1 s.2.2.1.length s.2.2.2.2) (s.2.2.1.map Nd.dat) g, .blk b 24 [.int .i64 K, sv nm, .int .i64 0, .int .i64 aa, .slice s.2.2.2.1 s.2.2.1.length s.2.2.2.2], .blk b1 24 cs1] [] ∧ s.2.2.1.length + s.2.1.length ≤ 1048576 ∧
    (s.1 = true → P0 = bd (listF paramP f s.2.2.1) (fun ps => bd (expP [111, 110]) (fun _ => bd (namedP 48) fun o => bd (if K = 5 then bd (expP [58]) fun _ => sortP else ret 0) fun n => bd (expP [61]) fun _ => bd (exprP (loK 64)) fun e => G (ps ++ [o] ++ [e]) n)) s.2.1 ∧ s.2.1.length ≤ f) ∧
    (s.1 = false → P0 = bd (expP [111, 110]) (fun _ => bd (namedP 48) fun o => bd (if K = 5 then bd (expP [58]) fun _ => sortP else ret 0) fun n => bd (expP [61]) fun _ => bd (exprP (loK 64)) fun e => G (s.2.2.1 ++ [o] ++ [e]) n) s.2.1))
    (fun s => [(0, ptr X.b), (2, .pointer (some ⟨b1, 0, none⟩)), (3, .pointer (some ⟨b, 0, none⟩)), (4, .bool s.1)]) (fun s => if s.1 then s.2.1.length + 1 else 0) (!(isB [41] cur0), (if isB [41] cur0 then cur0.tail else cur0), [], (none, 0)) ?_ ?_ ?_
  · refine ⟨none, cur0.length, L, ?_, fun h => ?_, fun h => ?_⟩
    · simp only [List.length_nil, Nat.zero_add]
      split
      · rw [List.length_tail]; omega
      · exact hlen
    · have e : isB [41] cur0 = false := by simpa using h
      simp only [e, Bool.false_eq_true, if_false]
      rw [hp]
      refine ⟨?_, Nat.le_refl _⟩
      conv => lhs; unfold bd listP
      simp only [e, Bool.false_eq_true, if_false]; rfl
    · have e : isB [41] cur0 = true := by simpa using h
      simp only [e, if_true]
      rw [hp]
      conv => lhs; unfold bd listP
      simp only [e, if_true]; rfl
  · simp (implicitDefEqProofs := false) only [go_sem, ptr]
  · rintro ⟨more, cur, ns, va, vc⟩ H4 ⟨g, f, L, hle, hT, hF⟩
    simp only at L hT hF hle ⊢
    cases more with
    | false =>
      have hp := hF rfl
      simp (implicitDefEqProofs := false) only [go_sem]
      refine (expect_ok [111, 110]).go hs L hp fun _ r1 v H5 L hp he _ => ?_
      have hl1 := expP_lt he
      have c := L.cell 1 rfl
      simp (implicitDefEqProofs := false) only [go_sem, c]
      refine (named_ok 48).goN hs L hp fun kk tt nn aa' ks kv r2 H6 L hp he => ?_
      have hl2 := namedP_lt he
      have c := L.cell 1 rfl
      simp (implicitDefEqProofs := false) only [go_sem, c]
      refine L.newS fun bA HA L => ?_
      have c := L.cell 2 rfl
      simp (implicitDefEqProofs := false) only [go_sem, c]
      refine L.appN (ns := ns) (ks := ks) 0 rfl (by simp) (by omega) fun a c g' HB L => ?_
      simp only [List.set_cons_zero, List.set_cons_succ, List.set_nil, List.eraseIdx_cons_zero, List.eraseIdx_cons_succ] at L
      simp (implicitDefEqProofs := false) only [go_sem]
      refine L.stoOne 1 rfl (by simp) rfl fun HC L => ?_
      simp only [List.set_cons_zero, List.set_cons_succ, List.set_nil, List.eraseIdx_cons_zero, List.eraseIdx_cons_succ] at L
      have c := L.cell 1 rfl
      have L := L.drop (List.Sublist.refl _) (ds' := []) (by simp)
      by_cases hK : K = 5
      · rw [if_pos hK, bd_bd] at hp
        simp (implicitDefEqProofs := false) only [go_sem, c, hK]
        refine (expect_ok [58]).go hs L hp fun _ r3 v H7 L hp he _ => ?_
        have hl3 := expP_lt he
        simp (implicitDefEqProofs := false) only [go_sem]
        refine sort_ok.go hs L hp fun n r4 v H8 L hp he hv => ?_
        have hl4 := sortP_dn.of he
        cases hv
        simp (implicitDefEqProofs := false) only [go_sem]
        refine L.stoOne 1 rfl (by simp) rfl fun H9 L => ?_
        simp only [List.set_cons_zero, List.set_cons_succ, List.set_nil, List.eraseIdx_cons_zero, List.eraseIdx_cons_succ] at L
        simp (implicitDefEqProofs := false) only [go_sem]
        refine func_end (G := fun l => G l n) hs L (by simp; omega) hp fun a c g' H' r' m L hp => ?_
        exact hQ a c g' H' r' _ n _ _ _ _ _ _ _ _ _ _ L hp
      · rw [if_neg hK] at hp
        replace hp : P0 = bd (expP [61]) (fun _ => bd (exprP (loK 64)) fun e => G (ns ++ [.mk kk tt nn aa' ks] ++ [e]) 0) r2 := hp
        simp (implicitDefEqProofs := false) only [go_sem, c, hK]
        refine func_end (G := fun l => G l 0) hs L (by simp; omega) hp fun a c g' H' r' m L hp => ?_
        exact hQ a c g' H' r' _ 0 _ _ _ _ _ _ _ _ _ _ L hp
    | true =>
      obtain ⟨hp, hf⟩ := hT rfl
      have hcur := List.length_pos_iff.2 L.ps.nil
      obtain ⟨f, rfl⟩ : ∃ f', f = f' + 1 := ⟨f - 1, by omega⟩
      simp only [listF, bd_bd] at hp
      have c := L.cell 1 rfl
      simp (implicitDefEqProofs := false) only [go_sem, c]
      refine param_ok.goN hs L hp fun kk tt nn aa' ks kv r1 H5 L hp he => ?_
      have hl1 := paramP_dn.of he
      rw [bd_bd] at hp
      have c := L.cell 1 rfl
      simp (implicitDefEqProofs := false) only [go_sem, c]
      refine L.newS fun bA HA L => ?_
      have c := L.cell 2 rfl
      simp (implicitDefEqProofs := false) only [go_sem, c]
      refine L.appN (ns := ns) (ks := ks) 0 rfl (by simp) (by omega) fun a c g' HB L => ?_
      simp only [List.set_cons_zero, List.set_cons_succ, List.set_nil, List.eraseIdx_cons_zero, List.eraseIdx_cons_succ] at L
      simp (implicitDefEqProofs := false) only [go_sem]
      refine L.stoOne 1 rfl (by simp) rfl fun HC L => ?_
      simp only [List.set_cons_zero, List.set_cons_succ, List.set_nil, List.eraseIdx_cons_zero, List.eraseIdx_cons_succ] at L
      simp (implicitDefEqProofs := false) only [go_sem]
      refine comma_ok.go hs L hp fun m r2 v HD L hp hcm hv => ?_
      cases hv
      have hl2 := comma_lt' hcm
      have L := L.drop (ds' := []) (List.Sublist.refl _) (by simp)
      simp (implicitDefEqProofs := false) only [go_sem]
      refine loopK_intro (m, r2, ns ++ [.mk kk tt nn aa' ks], (a, c)) ?_ ?_ ⟨g', f, L, ?_, fun h => ?_, fun h => ?_⟩
      · cases m
        · show 0 < cur.length + 1
          omega
        · show r2.length + 1 < cur.length + 1
          omega
      · simp (implicitDefEqProofs := false) only [go_sem]
      · simp only [List.length_append, List.length_cons, List.length_nil]; omega
      · simp only at h; subst h
        exact ⟨hp, show r2.length ≤ f by omega⟩
      · simp only at h; subst h
        exact hp

set_option maxHeartbeats 1000000 in
theorem declaration_ok : POk 64 30 [] declP NdR := by
  refine ⟨fun {X H ts} hs => ?_⟩
  refine pcalls_of_vc (args := [_]) Tryd.func30 c30ok (Nat.le_of_ble_eq_true rfl) ?_
  have L := hs.walk
  obtain ⟨hp, _⟩ : declP ts = declP ts ∧ True := ⟨rfl, trivial⟩
  conv at hp => rhs; unfold declP
  simp (implicitDefEqProofs := false) only [go_sem, c30]
  refine L.newP fun b1 H1 L => ?_
  simp (implicitDefEqProofs := false) only [go_sem]
  refine look_go L fun H2 L => ?_
  simp (implicitDefEqProofs := false) only [go_sem, tkC]
  refine L.newP fun b H3 L => ?_
  simp (implicitDefEqProofs := false) only [go_sem]
  refine L.stoAll 0 rfl rfl (one_agg (t := []) rfl) fun H4 L => ?_
  simp only [List.set_cons_zero, List.set_cons_succ, List.set_nil, List.eraseIdx_cons_zero, List.eraseIdx_cons_succ] at L
  simp (implicitDefEqProofs := false) only [go_sem]
  refine accept_go hs L [108, 97, 116, 116, 105, 99, 101] (fun e H5 L => ?_) fun e H5 L => ?_
  · rw [if_pos e] at hp
    simp (implicitDefEqProofs := false) only [go_sem]
    refine L.stoOne 0 rfl (by simp) rfl fun H6 L => ?_
    simp only [List.set_cons_zero, List.set_cons_succ, List.set_nil, List.eraseIdx_cons_zero, List.eraseIdx_cons_succ] at L
    simp (implicitDefEqProofs := false) only [go_sem]
    refine (take_ok 1 (by decide)).go hs L hp fun t r v H7 L hp _ hv => ?_
    cases hv
    simp (implicitDefEqProofs := false) only [go_sem, tkC, sv]
    refine L.stoOne 0 rfl (by simp) rfl fun H8 L => ?_
    simp only [List.set_cons_zero, List.set_cons_succ, List.set_nil, List.eraseIdx_cons_zero, List.eraseIdx_cons_succ] at L
    have c := L.cell 0 rfl
    simp (implicitDefEqProofs := false) only [go_sem, c]
    refine (expect_ok [61]).go hs L hp fun _ r v H9 L hp _ _ => ?_
    simp (implicitDefEqProofs := false) only [go_sem]
    refine (levL_eq 64 ▸ lat_ok 64).goN hs L hp fun kk tt nn aa ks kv r HA L hp _ => ?_
    simp (implicitDefEqProofs := false) only [go_sem]
    refine L.newS fun b5 HB L => ?_
    have L := L.rowN1 (ks := ks) (by simp)
    have L := L.rowN 0 [.mk kk tt nn aa ks] rfl
    simp only [List.set_cons_zero, List.set_cons_succ, List.set_nil, List.eraseIdx_cons_zero, List.eraseIdx_cons_succ] at L
    simp (implicitDefEqProofs := false) only [go_sem]
    refine L.stoOne 0 rfl (by simp) rfl fun HC L => ?_
    simp only [List.set_cons_zero, List.set_cons_succ, List.set_nil, List.eraseIdx_cons_zero, List.eraseIdx_cons_succ] at L
    simp (implicitDefEqProofs := false) only [go_sem]
    refine (expect_ok [59]).go hs L hp fun _ r v HD L hp _ _ => ?_
    have c := L.cell 0 rfl
    simp (implicitDefEqProofs := false) only [go_sem, c]
    refine L.stoAll 1 rfl rfl (one_agg rfl) fun HZ L => ?_
    simp only [List.set_cons_zero, List.set_cons_succ, List.set_nil, List.eraseIdx_cons_zero, List.eraseIdx_cons_succ] at L
    have c := L.cell 1 rfl
    simp (implicitDefEqProofs := false) only [go_sem, c]
    exact L.fin hp (.inl (by simp))
  rw [if_neg (nb e)] at hp
  simp (implicitDefEqProofs := false) only [go_sem]
  refine accept_go hs L [111, 98, 106, 101, 99, 116] (fun e H5 L => ?_) fun e H5 L => ?_
  · rw [if_pos e] at hp
    simp (implicitDefEqProofs := false) only [go_sem]
    refine L.stoOne 0 rfl (by simp) rfl fun H6 L => ?_
    simp only [List.set_cons_zero, List.set_cons_succ, List.set_nil, List.eraseIdx_cons_zero, List.eraseIdx_cons_succ] at L
    simp (implicitDefEqProofs := false) only [go_sem]
    refine (take_ok 1 (by decide)).go hs L hp fun t r v H7 L hp _ hv => ?_
    cases hv
    simp (implicitDefEqProofs := false) only [go_sem, tkC, sv]
    refine L.stoOne 0 rfl (by simp) rfl fun H8 L => ?_
    simp only [List.set_cons_zero, List.set_cons_succ, List.set_nil, List.eraseIdx_cons_zero, List.eraseIdx_cons_succ] at L
    have c := L.cell 0 rfl
    simp (implicitDefEqProofs := false) only [go_sem, c]
    refine (expect_ok [58]).go hs L hp fun _ r v H9 L hp _ _ => ?_
    simp (implicitDefEqProofs := false) only [go_sem]
    refine (levL_eq 64 ▸ lat_ok 64).goN hs L hp fun kk tt nn aa ks kv r HA L hp _ => ?_
    simp (implicitDefEqProofs := false) only [go_sem]
    refine L.newS fun b5 HB L => ?_
    have L := L.rowN1 (ks := ks) (by simp)
    have L := L.rowN 0 [.mk kk tt nn aa ks] rfl
    simp only [List.set_cons_zero, List.set_cons_succ, List.set_nil, List.eraseIdx_cons_zero, List.eraseIdx_cons_succ] at L
    simp (implicitDefEqProofs := false) only [go_sem]
    refine L.stoOne 0 rfl (by simp) rfl fun HC L => ?_
    simp only [List.set_cons_zero, List.set_cons_succ, List.set_nil, List.eraseIdx_cons_zero, List.eraseIdx_cons_succ] at L
    simp (implicitDefEqProofs := false) only [go_sem]
    refine (expect_ok [59]).go hs L hp fun _ r v HD L hp _ _ => ?_
    have c := L.cell 0 rfl
    simp (implicitDefEqProofs := false) only [go_sem, c]
    refine L.stoAll 1 rfl rfl (one_agg rfl) fun HZ L => ?_
    simp only [List.set_cons_zero, List.set_cons_succ, List.set_nil, List.eraseIdx_cons_zero, List.eraseIdx_cons_succ] at L
    have c := L.cell 1 rfl
    simp (implicitDefEqProofs := false) only [go_sem, c]
    exact L.fin hp (.inl (by simp))
  rw [if_neg (nb e)] at hp
  simp (implicitDefEqProofs := false) only [go_sem]
  refine accept_go hs L [117, 112, 100, 97, 116, 101] (fun e H5 L => ?_) fun e H5 L => ?_
  · rw [if_pos e] at hp
    simp (implicitDefEqProofs := false) only [go_sem]
    refine L.stoOne 0 rfl (by simp) rfl fun H6 L => ?_
    simp only [List.set_cons_zero, List.set_cons_succ, List.set_nil, List.eraseIdx_cons_zero, List.eraseIdx_cons_succ] at L
    simp (implicitDefEqProofs := false) only [go_sem]
    refine (take_ok 1 (by decide)).go hs L hp fun t r v H7 L hp _ hv => ?_
    cases hv
    simp (implicitDefEqProofs := false) only [go_sem, tkC, sv]
    refine L.stoOne 0 rfl (by simp) rfl fun H8 L => ?_
    simp only [List.set_cons_zero, List.set_cons_succ, List.set_nil, List.eraseIdx_cons_zero, List.eraseIdx_cons_succ] at L
    have c := L.cell 0 rfl
    simp (implicitDefEqProofs := false) only [go_sem, c]
    refine func_rest (nm := t.text) (G := fun l n => bd (expP [59]) fun _ => ret (.mk 4 t.text n (hd ts).at_ l)) hs L hp fun a c g' H' r' ns n x3 x4 x5 x6 x7 x8 x9 x10 x11 x12 L hp => ?_
    simp (implicitDefEqProofs := false) only [go_sem]
    refine (expect_ok [59]).go hs L hp fun _ r v HD L hp _ _ => ?_
    have L := L.rowN 0 ns rfl
    simp only [List.set_cons_zero, List.set_cons_succ, List.set_nil, List.eraseIdx_cons_zero, List.eraseIdx_cons_succ] at L
    have c := L.cell 0 rfl
    simp (implicitDefEqProofs := false) only [go_sem, c]
    refine L.stoAll 1 rfl rfl (one_agg rfl) fun HZ L => ?_
    simp only [List.set_cons_zero, List.set_cons_succ, List.set_nil, List.eraseIdx_cons_zero, List.eraseIdx_cons_succ] at L
    have c := L.cell 1 rfl
    simp (implicitDefEqProofs := false) only [go_sem, c]
    exact L.fin hp (.inl (by simp))
  rw [if_neg (nb e)] at hp
  simp (implicitDefEqProofs := false) only [go_sem]
  refine accept_go hs L [113, 117, 101, 114, 121] (fun e H5 L => ?_) fun e H5 L => ?_
  · rw [if_pos e] at hp
    simp (implicitDefEqProofs := false) only [go_sem]
    refine L.stoOne 0 rfl (by simp) rfl fun H6 L => ?_
    simp only [List.set_cons_zero, List.set_cons_succ, List.set_nil, List.eraseIdx_cons_zero, List.eraseIdx_cons_succ] at L
    simp (implicitDefEqProofs := false) only [go_sem]
    refine (take_ok 1 (by decide)).go hs L hp fun t r v H7 L hp _ hv => ?_
    cases hv
    simp (implicitDefEqProofs := false) only [go_sem, tkC, sv]
    refine L.stoOne 0 rfl (by simp) rfl fun H8 L => ?_
    simp only [List.set_cons_zero, List.set_cons_succ, List.set_nil, List.eraseIdx_cons_zero, List.eraseIdx_cons_succ] at L
    have c := L.cell 0 rfl
    simp (implicitDefEqProofs := false) only [go_sem, c]
    refine func_rest (nm := t.text) (G := fun l n => bd (expP [59]) fun _ => ret (.mk 5 t.text n (hd ts).at_ l)) hs L hp fun a c g' H' r' ns n x3 x4 x5 x6 x7 x8 x9 x10 x11 x12 L hp => ?_
    simp (implicitDefEqProofs := false) only [go_sem]
    refine (expect_ok [59]).go hs L hp fun _ r v HD L hp _ _ => ?_
    have L := L.rowN 0 ns rfl
    simp only [List.set_cons_zero, List.set_cons_succ, List.set_nil, List.eraseIdx_cons_zero, List.eraseIdx_cons_succ] at L
    have c := L.cell 0 rfl
    simp (implicitDefEqProofs := false) only [go_sem, c]
    refine L.stoAll 1 rfl rfl (one_agg rfl) fun HZ L => ?_
    simp only [List.set_cons_zero, List.set_cons_succ, List.set_nil, List.eraseIdx_cons_zero, List.eraseIdx_cons_succ] at L
    have c := L.cell 1 rfl
    simp (implicitDefEqProofs := false) only [go_sem, c]
    exact L.fin hp (.inl (by simp))
  rw [if_neg (nb e)] at hp
  simp (implicitDefEqProofs := false) only [go_sem]
  exact fail_go L hp
end Go.Proofs.YtbgjgaaobnbijaaDoor
