/- Arguments; primaries: contracts. -/
import Derived.Test.YtbgjgaaobnbijaaDoorPv
set_option linter.unusedSimpArgs false
set_option linter.unusedVariables false
set_option maxRecDepth 8000
namespace Go.Proofs.YtbgjgaaobnbijaaDoor
open Gx Go

section
variable {X : Cx} {H0 H H' : Heap} {ts0 ts r : List Tk} {k0 k : Nat} {l : List Ent} {ds : List (Dat × List Value)}
/-- A tree more in a row of trees. -/
theorem _root_.Gx.Lv.appN {nb tn : Nat} {R : Value → Heap → Prop} {kk nn aa : Int} {tt : Bs} {ks : List Nd} {kv v : Value} {g : Option Nat} {ns : List Nd} (L : PLv X H0 ts k H (.blk nb tn [.int .i64 kk, sv tt, .int .i64 nn, .int .i64 aa, kv] :: l) ds)
    (i : Nat) (hi : l[i]? = some (.row 24 5 v (ns.map Nd.dat) g)) (hk : (kidsD ks, [kv]) ∈ ds) (h63 : ns.length + 1 ≤ 1048576)
    (hR : ∀ a c g' H', PLv X H0 ts k H' (l.set i (.row 24 5 (.slice a (ns ++ [Nd.mk kk tt nn aa ks]).length c) ((ns ++ [Nd.mk kk tt nn aa ks]).map Nd.dat) g')) ds → R (.slice a (ns ++ [Nd.mk kk tt nn aa ks]).length c) H') :
    App Tryd.prog 22 22 22 H v (.slice (some ⟨nb, 0, none⟩) 1 1) R := by
  have L1 : PLv X H0 ts k H l ds := Lv.drop L (List.sublist_cons_self _ _) fun p hp => hp
  refine Lv.app L ENd i hi Tryd.underlying22 rfl (one_agg (L.one hk)) (d := Nd.dat (.mk kk tt nn aa ks)) (L1.ndr hk) rfl (by simp [maxLen]; omega) (by simp; omega) fun a c g' H' L' => ?_
  have e : ns.map Nd.dat ++ [Nd.dat (.mk kk tt nn aa ks)] = (ns ++ [Nd.mk kk tt nn aa ks]).map Nd.dat := by simp
  have e2 : (ns.map Nd.dat).length + 1 = (ns ++ [Nd.mk kk tt nn aa ks]).length := by simp
  rw [e, e2] at L'
  rw [e2]
  exact hR a c g' H' L'
end

theorem argument_ok {k : Nat} {e : PP Nd} (hex : POk k 26 [] e NdR) (fn : Bs) : POk k 110 [sv fn] (argP e fn) NdR := by
  refine ⟨fun {X H ts} hs => ?_⟩
  refine pcalls_of_vc (args := [_, _]) Tryd.func110 c110ok (Nat.le_of_ble_eq_true rfl) ?_
  have L := hs.walk
  unfold sv
  simp (implicitDefEqProofs := false) only [go_sem, c110]
  refine L.newP fun b1 H1 L => ?_
  simp (implicitDefEqProofs := false) only [go_sem]
  refine look_go L fun H2 L => ?_
  simp (implicitDefEqProofs := false) only [go_sem, tkC]
  refine L.newP fun b2 H3 L => ?_
  simp (implicitDefEqProofs := false) only [go_sem]
  refine L.stoAll 0 rfl rfl (one_agg (t := []) rfl) fun H4 L => ?_
  simp only [List.set_cons_zero, List.set_cons_succ, List.set_nil, List.eraseIdx_cons_zero, List.eraseIdx_cons_succ] at L
  by_cases e1 : fn = [114, 101, 99]
  · subst e1
    have hp : argP e [114, 101, 99] ts = bd (takeP 1) (fun t => bd (expP [58]) fun _ => bd e fun x => ret (.mk 52 t.text 0 (hd ts).at_ [x])) ts := by simp only [argP, if_true]
    simp (implicitDefEqProofs := false) only [go_sem, ba_eq]
    refine (take_ok 1 (by decide)).go hs L hp fun t r v H5 L hp _ hv => ?_
    cases hv
    simp (implicitDefEqProofs := false) only [go_sem, tkC, sv]
    refine L.stoOne 0 rfl (by simp) rfl fun H6 L => ?_
    simp only [List.set_cons_zero, List.set_cons_succ, List.set_nil, List.eraseIdx_cons_zero, List.eraseIdx_cons_succ] at L
    simp (implicitDefEqProofs := false) only [go_sem]
    refine (expect_ok [58]).go hs L hp fun _ r v H7 L hp _ _ => ?_
    have L := L.row0 24 5
    have c := L.cell 1 rfl
    simp (implicitDefEqProofs := false) only [go_sem, c]
    refine hex.goN hs L hp fun kk tt nn aa ks kv r H8 L hp he => ?_
    have c := L.cell 1 rfl
    simp (implicitDefEqProofs := false) only [go_sem, c]
    refine L.newS fun b3 H9 L => ?_
    have c := L.cell 2 rfl
    simp (implicitDefEqProofs := false) only [go_sem, c]
    refine L.appN (ns := []) (ks := ks) 0 rfl (by simp) (by decide) fun a c g' H10 L => ?_
    simp only [List.set_cons_zero, List.set_cons_succ, List.set_nil, List.eraseIdx_cons_zero, List.eraseIdx_cons_succ] at L
    simp (implicitDefEqProofs := false) only [go_sem]
    refine L.stoOne 1 rfl (by simp) rfl fun H11 L => ?_
    simp only [List.set_cons_zero, List.set_cons_succ, List.set_nil, List.eraseIdx_cons_zero, List.eraseIdx_cons_succ] at L
    have L := L.rowN 0 [.mk kk tt nn aa ks] rfl
    simp only [List.set_cons_zero, List.set_cons_succ, List.set_nil, List.eraseIdx_cons_zero, List.eraseIdx_cons_succ] at L
    have c := L.cell 0 rfl
    simp (implicitDefEqProofs := false) only [go_sem, c]
    refine L.stoAll 1 rfl rfl (one_agg rfl) fun HZ L => ?_
    simp only [List.set_cons_zero, List.set_cons_succ, List.set_nil, List.eraseIdx_cons_zero, List.eraseIdx_cons_succ] at L
    have c := L.cell 1 rfl
    simp (implicitDefEqProofs := false) only [go_sem, c]
    exact L.fin hp (.inl (by simp))
  · by_cases e2 : fn = [109, 97, 112]
    · subst e2
      have hp : argP e [109, 97, 112] ts = bd e (fun x => bd (expP [58]) fun _ => bd e fun y => ret (.mk 52 [] 0 (hd ts).at_ [x, y])) ts := by simp [argP]
      simp (implicitDefEqProofs := false) only [go_sem, ba_eq, e1]
      refine hex.goN hs L hp fun kk tt nn aa ks kv r H5 L hp _ => ?_
      simp (implicitDefEqProofs := false) only [go_sem]
      refine L.newS fun b3 H6 L => ?_
      have L := L.rowN1 (ks := ks) (by simp)
      simp (implicitDefEqProofs := false) only [go_sem]
      refine L.stoOne 1 rfl (by simp) rfl fun H7 L => ?_
      simp only [List.set_cons_zero, List.set_cons_succ, List.set_nil, List.eraseIdx_cons_zero, List.eraseIdx_cons_succ] at L
      simp (implicitDefEqProofs := false) only [go_sem]
      refine (expect_ok [58]).go hs L hp fun _ r v H8 L hp _ _ => ?_
      have c := L.cell 1 rfl
      simp (implicitDefEqProofs := false) only [go_sem, c]
      refine hex.goN hs L hp fun kk' tt' nn' aa' ks' kv' r H9 L hp _ => ?_
      have c := L.cell 1 rfl
      simp (implicitDefEqProofs := false) only [go_sem, c]
      refine L.newS fun b4 H10 L => ?_
      have c := L.cell 2 rfl
      simp (implicitDefEqProofs := false) only [go_sem, c]
      refine L.appN (ns := [.mk kk tt nn aa ks]) (ks := ks') 0 rfl (by simp) (by simp) fun a c g' H11 L => ?_
      simp only [List.set_cons_zero, List.set_cons_succ, List.set_nil, List.eraseIdx_cons_zero, List.eraseIdx_cons_succ] at L
      simp (implicitDefEqProofs := false) only [go_sem]
      refine L.stoOne 1 rfl (by simp) rfl fun H12 L => ?_
      simp only [List.set_cons_zero, List.set_cons_succ, List.set_nil, List.eraseIdx_cons_zero, List.eraseIdx_cons_succ] at L
      have L := L.rowN 0 [.mk kk tt nn aa ks, .mk kk' tt' nn' aa' ks'] rfl
      simp only [List.set_cons_zero, List.set_cons_succ, List.set_nil, List.eraseIdx_cons_zero, List.eraseIdx_cons_succ] at L
      have c := L.cell 0 rfl
      simp (implicitDefEqProofs := false) only [go_sem, c]
      refine L.stoAll 1 rfl rfl (one_agg (t := []) rfl) fun HZ L => ?_
      simp only [List.set_cons_zero, List.set_cons_succ, List.set_nil, List.eraseIdx_cons_zero, List.eraseIdx_cons_succ] at L
      have c := L.cell 1 rfl
      simp (implicitDefEqProofs := false) only [go_sem, c]
      exact L.fin hp (.inl (by simp))
    · have hp : argP e fn ts = e ts := by simp only [argP, e1, e2, if_false]
      simp (implicitDefEqProofs := false) only [go_sem, ba_eq, e1, e2]
      refine hex.goL hs L hp fun kk tt nn aa ks kv r H5 L hp => ?_
      simp (implicitDefEqProofs := false) only [go_sem]
      refine L.stoAll 1 rfl rfl (one_agg (L.one (ks := ks) (by simp))) fun H6 L => ?_
      simp only [List.set_cons_zero, List.set_cons_succ, List.set_nil, List.eraseIdx_cons_zero, List.eraseIdx_cons_succ] at L
      have c := L.cell 1 rfl
      simp (implicitDefEqProofs := false) only [go_sem, c]
      exact L.fin hp (.inl (by simp))

theorem functions_ok (s : Bs) (H : Heap) : HCalls Tryd.prog 109 #[sv s] H fun v H' => v = .bool (decide (s ∈ fnList)) ∧ Fr [] H H' := by
  refine calls_of_vc (args := [_]) Tryd.func109 c109ok (Nat.le_of_ble_eq_true rfl) ?_
  unfold sv
  by_cases h : s ∈ fnList
  · rw [decide_eq_true h]
    simp only [fnList, List.mem_cons, List.not_mem_nil, or_false] at h
    rcases h with rfl | rfl | rfl | rfl | rfl | rfl | rfl | rfl | rfl | rfl | rfl | rfl | rfl | rfl | rfl | rfl | rfl <;>
      · simp (implicitDefEqProofs := false) only [go_sem, c109, ba_eq]
        simp [Fr.refl]
  · rw [decide_eq_false h]
    simp only [fnList, List.mem_cons, List.not_mem_nil, or_false, not_or] at h
    obtain ⟨h1, h2, h3, h4, h5, h6, h7, h8, h9, h10, h11, h12, h13, h14, h15, h16, h17⟩ := h
    simp (implicitDefEqProofs := false) only [go_sem, c109, ba_eq, h1, h2, h3, h4, h5, h6, h7, h8, h9, h10, h11, h12, h13, h14, h15, h16, h17]
    exact Fr.refl _ _

theorem comma_lt {ts r : List Tk} (h : commaP ts = .ok (true, r)) (hn : ts ≠ []) : r.length < ts.length := by
  unfold commaP at h
  split at h
  · cases h
    have := List.length_pos_iff.2 hn
    simp; omega
  · unfold bd at h
    split at h
    · cases h
    · simp [ret] at h
theorem lo_0 : loK 0 = none := rfl
theorem lo_s (j : Nat) : ∃ x, loK (j + 1) = some x := ⟨_, rfl⟩
set_option maxHeartbeats 2000000 in
theorem primary_ok {k : Nat} (hex : ∀ j, k = j + 1 → POk j 26 [] (lev j).1 NdR) : POk k 108 [] (primP (loK k)) NdR := by
  refine ⟨fun {X H ts} hs => ?_⟩
  refine pcalls_of_vc (args := [_]) Tryd.func108 c108ok (Nat.le_of_ble_eq_true rfl) ?_
  have L := hs.walk
  simp (implicitDefEqProofs := false) only [go_sem, c108]
  refine L.newP fun b1 H1 L => ?_
  simp (implicitDefEqProofs := false) only [go_sem]
  refine look_go L fun H2 L => ?_
  simp (implicitDefEqProofs := false) only [go_sem, tkC]
  refine L.newP fun b2 H3 L => ?_
  simp (implicitDefEqProofs := false) only [go_sem]
  refine L.stoAll 0 rfl rfl (one4' (hd ts)) fun H4 L => ?_
  simp only [List.set_cons_zero, List.set_cons_succ, List.set_nil, List.eraseIdx_cons_zero, List.eraseIdx_cons_succ] at L
  have c := L.cell 0 rfl
  simp (implicitDefEqProofs := false) only [go_sem, c]
  refine L.newP fun b3 H5 L => ?_
  simp (implicitDefEqProofs := false) only [go_sem]
  refine L.stoAll 0 rfl rfl (one_agg (t := []) rfl) fun H6 L => ?_
  simp only [List.set_cons_zero, List.set_cons_succ, List.set_nil, List.eraseIdx_cons_zero, List.eraseIdx_cons_succ] at L
  have c := L.cell 1 rfl
  obtain ⟨hp, _⟩ : primP (loK k) ts = primP (loK k) ts ∧ True := ⟨rfl, trivial⟩
  conv at hp => rhs; unfold primP
  by_cases k3 : (hd ts).kind = 3
  · rw [if_pos (.inl k3)] at hp
    simp (implicitDefEqProofs := false) only [go_sem, c, k3]
    refine integer_ok.goL hs L hp fun kk tt nn aa ks kv r H5 L hp => ?_
    simp (implicitDefEqProofs := false) only [go_sem]
    refine L.stoAll 2 rfl rfl (one_agg (L.one (ks := ks) (by simp))) fun HZ L => ?_
    simp only [List.set_cons_zero, List.set_cons_succ, List.set_nil, List.eraseIdx_cons_zero, List.eraseIdx_cons_succ] at L
    have c := L.cell 2 rfl
    simp (implicitDefEqProofs := false) only [go_sem, c]
    exact L.fin hp (.inl (by simp))
  simp (implicitDefEqProofs := false) only [go_sem, c, k3]
  refine is_go L [45] fun H7 L => ?_
  cases e45 : isB [45] ts with
  | true =>
    rw [if_pos (.inr e45)] at hp
    simp (implicitDefEqProofs := false) only [go_sem]
    refine integer_ok.goL hs L hp fun kk tt nn aa ks kv r H5 L hp => ?_
    simp (implicitDefEqProofs := false) only [go_sem]
    refine L.stoAll 2 rfl rfl (one_agg (L.one (ks := ks) (by simp))) fun HZ L => ?_
    simp only [List.set_cons_zero, List.set_cons_succ, List.set_nil, List.eraseIdx_cons_zero, List.eraseIdx_cons_succ] at L
    have c := L.cell 2 rfl
    simp (implicitDefEqProofs := false) only [go_sem, c]
    exact L.fin hp (.inl (by simp))
  | false =>
  rw [if_neg (by rw [e45]; simp [k3])] at hp
  have c := L.cell 1 rfl
  by_cases k4 : (hd ts).kind = 4
  · rw [if_pos k4] at hp
    simp (implicitDefEqProofs := false) only [go_sem, c, k4]
    refine quote_ok.goL hs L hp fun kk tt nn aa ks kv r H5 L hp => ?_
    simp (implicitDefEqProofs := false) only [go_sem]
    refine L.stoAll 2 rfl rfl (one_agg (L.one (ks := ks) (by simp))) fun HZ L => ?_
    simp only [List.set_cons_zero, List.set_cons_succ, List.set_nil, List.eraseIdx_cons_zero, List.eraseIdx_cons_succ] at L
    have c := L.cell 2 rfl
    simp (implicitDefEqProofs := false) only [go_sem, c]
    exact L.fin hp (.inl (by simp))
  rw [if_neg k4] at hp
  by_cases k1 : (hd ts).kind = 1
  · rw [if_pos k1] at hp
    simp (implicitDefEqProofs := false) only [go_sem, c, k4, k1]
    refine (named_ok 48).goL hs L hp fun kk tt nn aa ks kv r H5 L hp => ?_
    simp (implicitDefEqProofs := false) only [go_sem]
    refine L.stoAll 2 rfl rfl (one_agg (L.one (ks := ks) (by simp))) fun HZ L => ?_
    simp only [List.set_cons_zero, List.set_cons_succ, List.set_nil, List.eraseIdx_cons_zero, List.eraseIdx_cons_succ] at L
    have c := L.cell 2 rfl
    simp (implicitDefEqProofs := false) only [go_sem, c]
    exact L.fin hp (.inl (by simp))
  rw [if_neg k1] at hp
  simp (implicitDefEqProofs := false) only [go_sem, c, k4, k1]
  refine accept_go hs L [116, 114, 117, 101] (fun e H7 L => ?_) fun e H7 L => ?_
  · rw [if_pos e] at hp
    simp (implicitDefEqProofs := false) only [go_sem]
    refine L.stoOne 0 rfl (by simp) rfl fun H8 L => ?_
    simp only [List.set_cons_zero, List.set_cons_succ, List.set_nil, List.eraseIdx_cons_zero, List.eraseIdx_cons_succ] at L
    simp (implicitDefEqProofs := false) only [go_sem]
    have c := L.cell 0 rfl
    simp (implicitDefEqProofs := false) only [go_sem, c]
    refine L.stoAll 2 rfl rfl (one_agg (t := []) rfl) fun HZ L => ?_
    simp only [List.set_cons_zero, List.set_cons_succ, List.set_nil, List.eraseIdx_cons_zero, List.eraseIdx_cons_succ] at L
    have c := L.cell 2 rfl
    simp (implicitDefEqProofs := false) only [go_sem, c]
    exact L.fin hp (.inr ⟨rfl, rfl⟩)
  rw [if_neg (by rw [e]; decide)] at hp
  simp (implicitDefEqProofs := false) only [go_sem]
  refine accept_go hs L [102, 97, 108, 115, 101] (fun e H7 L => ?_) fun e H7 L => ?_
  · rw [if_pos e] at hp
    simp (implicitDefEqProofs := false) only [go_sem]
    refine L.stoOne 0 rfl (by simp) rfl fun H8 L => ?_
    simp only [List.set_cons_zero, List.set_cons_succ, List.set_nil, List.eraseIdx_cons_zero, List.eraseIdx_cons_succ] at L
    simp (implicitDefEqProofs := false) only [go_sem]
    have c := L.cell 0 rfl
    simp (implicitDefEqProofs := false) only [go_sem, c]
    refine L.stoAll 2 rfl rfl (one_agg (t := []) rfl) fun HZ L => ?_
    simp only [List.set_cons_zero, List.set_cons_succ, List.set_nil, List.eraseIdx_cons_zero, List.eraseIdx_cons_succ] at L
    have c := L.cell 2 rfl
    simp (implicitDefEqProofs := false) only [go_sem, c]
    exact L.fin hp (.inr ⟨rfl, rfl⟩)
  rw [if_neg (by rw [e]; decide)] at hp
  simp (implicitDefEqProofs := false) only [go_sem]
  refine accept_go hs L [115] (fun e H7 L => ?_) fun e H7 L => ?_
  · rw [if_pos e] at hp
    simp (implicitDefEqProofs := false) only [go_sem]
    refine L.stoOne 0 rfl (by simp) rfl fun H8 L => ?_
    simp only [List.set_cons_zero, List.set_cons_succ, List.set_nil, List.eraseIdx_cons_zero, List.eraseIdx_cons_succ] at L
    simp (implicitDefEqProofs := false) only [go_sem]
    have c := L.cell 0 rfl
    simp (implicitDefEqProofs := false) only [go_sem, c]
    refine L.stoAll 2 rfl rfl (one_agg (t := []) rfl) fun HZ L => ?_
    simp only [List.set_cons_zero, List.set_cons_succ, List.set_nil, List.eraseIdx_cons_zero, List.eraseIdx_cons_succ] at L
    have c := L.cell 2 rfl
    simp (implicitDefEqProofs := false) only [go_sem, c]
    exact L.fin hp (.inr ⟨rfl, rfl⟩)
  rw [if_neg (by rw [e]; decide)] at hp
  simp (implicitDefEqProofs := false) only [go_sem]
  refine accept_go hs L [98, 111, 116, 116, 111, 109] (fun e H7 L => ?_) fun e H7 L => ?_
  · rw [if_pos e] at hp
    simp (implicitDefEqProofs := false) only [go_sem]
    refine L.stoOne 0 rfl (by simp) rfl fun H8 L => ?_
    simp only [List.set_cons_zero, List.set_cons_succ, List.set_nil, List.eraseIdx_cons_zero, List.eraseIdx_cons_succ] at L
    simp (implicitDefEqProofs := false) only [go_sem]
    have c := L.cell 0 rfl
    simp (implicitDefEqProofs := false) only [go_sem, c]
    refine L.stoAll 2 rfl rfl (one_agg (t := []) rfl) fun HZ L => ?_
    simp only [List.set_cons_zero, List.set_cons_succ, List.set_nil, List.eraseIdx_cons_zero, List.eraseIdx_cons_succ] at L
    have c := L.cell 2 rfl
    simp (implicitDefEqProofs := false) only [go_sem, c]
    exact L.fin hp (.inr ⟨rfl, rfl⟩)
  rw [if_neg (by rw [e]; decide)] at hp
  simp (implicitDefEqProofs := false) only [go_sem]
  refine is_go L [40] fun H7 L => ?_
  cases e40 : isB [40] ts with
  | true =>
    rw [if_pos e40] at hp
    simp (implicitDefEqProofs := false) only [go_sem]
    refine enter_go (lo := loK) hs L lo_0 lo_s hp fun j x H8 hj hx L _ hp => ?_
    cases hx
    simp (implicitDefEqProofs := false) only [go_sem]
    refine (hex j hj).goN hs L hp fun kk tt nn aa ks kv r H9 L hp _ => ?_
    simp (implicitDefEqProofs := false) only [go_sem]
    refine L.stoAll 0 rfl rfl (one_agg (L.one (ks := ks) (by simp))) fun H10 L => ?_
    simp only [List.set_cons_zero, List.set_cons_succ, List.set_nil, List.eraseIdx_cons_zero, List.eraseIdx_cons_succ] at L
    simp (implicitDefEqProofs := false) only [go_sem]
    refine (expect_ok [41]).go hs L hp fun _ r v H11 L hp _ _ => ?_
    simp (implicitDefEqProofs := false) only [go_sem]
    refine leave_go hs L hj hs.k64 fun _ H12 L => ?_
    have c := L.cell 0 rfl
    simp (implicitDefEqProofs := false) only [go_sem, c]
    refine L.stoAll 2 rfl rfl (one_agg (L.one (ks := ks) (by simp))) fun HZ L => ?_
    simp only [List.set_cons_zero, List.set_cons_succ, List.set_nil, List.eraseIdx_cons_zero, List.eraseIdx_cons_succ] at L
    have c := L.cell 2 rfl
    simp (implicitDefEqProofs := false) only [go_sem, c]
    exact L.fin hp (.inl (by simp))
  | false =>
  rw [if_neg (by rw [e40]; decide)] at hp
  have c := L.cell 1 rfl
  by_cases k2 : (hd ts).kind = 2
  · simp (implicitDefEqProofs := false) only [go_sem, c, k2]
    refine (functions_ok (hd ts).text _).mono ?_
    rintro v H8 ⟨rfl, hf8⟩
    have L := L.ext hf8
    by_cases hfn : (hd ts).text ∈ fnList
    · rw [if_pos ⟨k2, hfn⟩] at hp
      obtain ⟨i, hb, hw, hnext⟩ := L.ps.step (by omega)
      have hc := hb.cell
      have c := L.cell 1 rfl
      unfold ptr
      simp (implicitDefEqProofs := false) only [go_sem, hfn, hc, hw]
      refine Sto_one hb (by simp) rfl fun H9 hn9 hf9 _ => ?_
      have L := L.pto hs hf9 (hnext H9 hn9 hf9)
      have c := L.cell 1 rfl
      simp (implicitDefEqProofs := false) only [go_sem, c]
      refine L.stoOne 0 rfl (by simp) rfl fun H10 L => ?_
      simp only [List.set_cons_zero, List.set_cons_succ, List.set_nil, List.eraseIdx_cons_zero, List.eraseIdx_cons_succ] at L
      have c := L.cell 1 rfl
      simp (implicitDefEqProofs := false) only [go_sem, c, sv]
      refine L.stoOne 0 rfl (by simp) rfl fun H11 L => ?_
      simp only [List.set_cons_zero, List.set_cons_succ, List.set_nil, List.eraseIdx_cons_zero, List.eraseIdx_cons_succ] at L
      have L : PLv X H ts.tail k H11 [.blk b3 24 [.int .i64 51, sv (hd ts).text, .int .i64 0, .int .i64 (hd ts).at_, .slice none 0 0], .blk b2 39 (tkC (hd ts)), .blk b1 24 [.int .i64 0, sv [], .int .i64 0, .int .i64 0, .slice none 0 0]] [] := L
      simp (implicitDefEqProofs := false) only [go_sem]
      refine enter_go (lo := loK) hs L lo_0 lo_s hp fun j x H12 hj hx L _ hp => ?_
      cases hx
      have hcap := hs.cap
      have hlen : ts.tail.tail.length ≤ 1048576 := by
        obtain ⟨i', _, e', _⟩ := L.ps.ex
        rw [e', List.length_drop]; omega
      have L := L.row0 24 5
      have hdn : Dn (argP (lev j).1 (hd ts).text) := argP_dn (lev_dn j).1 _
      obtain ⟨cur0, hcur0⟩ : ∃ cur, cur = ts.tail.tail := ⟨_, rfl⟩
      rw [← hcur0] at L hp hlen
      simp (implicitDefEqProofs := false) only [go_sem]
      refine accept_u hs L [41] fun H13 L => ?_
      simp (implicitDefEqProofs := false) only [go_sem]
      refine vc_loop (fun (s : Bool × List Tk × List Nd × Value) H' => ∃ g f, PLv X H s.2.1 j H' [.row 24 5 s.2.2.2 (s.2.2.1.map Nd.dat) g, .blk b3 24 [.int .i64 51, sv (hd ts).text, .int .i64 0, .int .i64 (hd ts).at_, s.2.2.2], .blk b2 39 (tkC (hd ts)), .blk b1 24 [.int .i64 0, sv [], .int .i64 0, .int .i64 0, .slice none 0 0]] [] ∧
        (s.1 = true → primP (loK k) ts = bd (listF (argP (lev j).1 (hd ts).text) f s.2.2.1) (fun l => ret (.mk 51 (hd ts).text 0 (hd ts).at_ l)) s.2.1 ∧ s.2.1.length ≤ f ∧ s.2.2.1.length + s.2.1.length ≤ 1048576) ∧
        (s.1 = false → primP (loK k) ts = ret (Nd.mk 51 (hd ts).text 0 (hd ts).at_ s.2.2.1) s.2.1))
        (fun s => [(0, ptr X.b), (2, .pointer (some ⟨b1, 0, none⟩)), (3, .pointer (some ⟨b2, 0, none⟩)), (4, .pointer (some ⟨b3, 0, none⟩)), (5, .bool s.1)]) (fun s => if s.1 then s.2.1.length + 1 else 0) (!(isB [41] cur0), (if isB [41] cur0 then cur0.tail else cur0), [], .slice none 0 0) ?_ ?_ ?_
      · refine ⟨none, cur0.length, L, fun h => ?_, fun h => ?_⟩
        · have e : isB [41] cur0 = false := by simpa using h
          simp only [e, Bool.false_eq_true, if_false]
          rw [hp]
          refine ⟨?_, Nat.le_refl _, by simpa using hlen⟩
          unfold bd listP; simp only [e, Bool.false_eq_true, if_false]
        · have e : isB [41] cur0 = true := by simpa using h
          simp only [e, if_true]
          rw [hp]
          unfold bd listP; simp only [e, if_true]
      · simp (implicitDefEqProofs := false) only [go_sem, ptr]
      · rintro ⟨more, cur, ns, v⟩ H14 ⟨g, f, L, hT, hF⟩
        simp only at L hT hF ⊢
        cases more with
        | false =>
          have hp := hF rfl
          simp (implicitDefEqProofs := false) only [go_sem]
          refine leave_go hs L hj hs.k64 fun _ H15 L => ?_
          have L := L.rowN 0 ns rfl
          simp only [List.set_cons_zero, List.set_cons_succ, List.set_nil, List.eraseIdx_cons_zero, List.eraseIdx_cons_succ] at L
          have c := L.cell 0 rfl
          simp (implicitDefEqProofs := false) only [go_sem, c]
          refine L.stoAll 2 rfl rfl (one_agg (L.one (ks := ns) (by simp))) fun HZ L => ?_
          simp only [List.set_cons_zero, List.set_cons_succ, List.set_nil, List.eraseIdx_cons_zero, List.eraseIdx_cons_succ] at L
          have c := L.cell 2 rfl
          simp (implicitDefEqProofs := false) only [go_sem, c]
          exact L.fin hp (.inl (by simp))
        | true =>
          obtain ⟨hp, hf, hle⟩ := hT rfl
          have hcur := List.length_pos_iff.2 L.ps.nil
          obtain ⟨f, rfl⟩ : ∃ f', f = f' + 1 := ⟨f - 1, by omega⟩
          have hp : primP (loK k) ts = bd (argP (lev j).1 (hd ts).text) (fun a => bd (bd commaP fun m => if m then listF (argP (lev j).1 (hd ts).text) f (ns ++ [a]) else ret (ns ++ [a])) (fun l => ret (.mk 51 (hd ts).text 0 (hd ts).at_ l))) cur := by
            rw [hp]; simp only [listF, bd_bd]
          have c := L.cell 1 rfl
          have c2 := L.cell 2 rfl
          simp (implicitDefEqProofs := false) only [go_sem, c, c2, tkC]
          refine (argument_ok (hex j hj) _).goN hs L hp fun kk tt nn aa ks kv r1 H15 L hp he => ?_
          have hle1 := hdn.of he
          have hne1 := L.ps.nil
          simp only [bd_bd] at hp
          have c := L.cell 1 rfl
          simp (implicitDefEqProofs := false) only [go_sem, c]
          refine L.newS fun bA HA L => ?_
          have c := L.cell 2 rfl
          simp (implicitDefEqProofs := false) only [go_sem, c]
          refine L.appN (ns := ns) (ks := ks) 0 rfl (by simp) (by omega) fun a c g' HB L => ?_
          simp only [List.set_cons_zero, List.set_cons_succ, List.set_nil, List.eraseIdx_cons_zero, List.eraseIdx_cons_succ] at L
          simp (implicitDefEqProofs := false) only [go_sem]
          refine L.stoOne 1 rfl (by simp) rfl fun HC L => ?_
          simp only [List.set_cons_zero, List.set_cons_succ, List.set_nil, List.eraseIdx_cons_zero, List.eraseIdx_cons_succ] at L
          simp (implicitDefEqProofs := false) only [go_sem]
          refine comma_ok.go hs L hp fun m r2 v HD L hp hcm hv => ?_
          cases hv
          have L := L.drop (ds' := []) (List.Sublist.refl _) (by simp)
          simp (implicitDefEqProofs := false) only [go_sem]
          refine loopK_intro (m, r2, ns ++ [.mk kk tt nn aa ks], .slice a (ns ++ [Nd.mk kk tt nn aa ks]).length c) ?_ ?_ ⟨g', f, L, fun h => ?_, fun h => ?_⟩
          · have := commaP_dn.of hcm
            cases m
            · show 0 < cur.length + 1
              omega
            · have := comma_lt hcm hne1
              show r2.length + 1 < cur.length + 1
              omega
          · simp (implicitDefEqProofs := false) only [go_sem]
          · simp only at h; subst h
            have := comma_lt hcm hne1
            refine ⟨hp, show r2.length ≤ f by omega, ?_⟩
            simp only [List.length_append, List.length_cons, List.length_nil]; omega
          · simp only at h; subst h
            exact hp
    · rw [if_neg (fun h => hfn h.2)] at hp
      simp (implicitDefEqProofs := false) only [go_sem, hfn]
      exact fail_go L hp
  · rw [if_neg (fun h => k2 h.1)] at hp
    simp (implicitDefEqProofs := false) only [go_sem, c, k2]
    exact fail_go L hp
end Go.Proofs.YtbgjgaaobnbijaaDoor
