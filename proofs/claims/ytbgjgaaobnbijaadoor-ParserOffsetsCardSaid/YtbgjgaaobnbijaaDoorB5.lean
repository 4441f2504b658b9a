import Derived.Test.YtbgjgaaobnbijaaDoorB4
import Derived.Test.YtbgjgaaobnbijaaDoorB3
import Derived.Test.YtbgjgaaobnbijaaDoorB2
import Derived.Test.YtbgjgaaobnbijaaDoorRows
import Derived.WalkKit
import Derived.ProofKit
import Derived.OpenShut
import Derived.LaidMore
import Derived.LaidLaws
import Derived.Stop.Joined
section
/- Arguments; primaries: contracts. -/
set_option linter.unusedSimpArgs false
set_option linter.unusedVariables false
set_option maxRecDepth 8000
namespace Go.Proofs.YtbgjgaaobnbijaaDoor
open Gx Go

section
variable {X : Cx} {H0 H H' : Heap} {ts0 ts r : List Tk} {k0 k : Nat} {l : List Ent} {ds : List (Dat × List Value)}
/-- A tree more in a row of trees. -/
theorem _root_.Gx.Lv.appN {nb tn : Nat} {R : Value → Heap → Prop} {kk nn aa : Int} {tt : Bs} {ks : List Nd} {kv v : Value} {g : Option Nat} {ns : List Nd} (L : PLv X H0 ts k H (.blk nb tn [.int .i64 kk, sv tt, .int .i64 nn, .int .i64 aa, kv] :: l) ds)
    (i : Nat) (hi : l[i]? = some (.row 24 5 v (ns.map Nd.dat) g)) (hk : (kidsD ks, [kv]) ∈ ds) (h63 : ns.length + 1 ≤ 1048576)
    (hR : ∀ a c g' H', PLv X H0 ts k H' (l.set i (.row 24 5 (.slice a (ns ++ [Nd.mk kk tt nn aa ks]).length c) ((ns ++ [Nd.mk kk tt nn aa ks]).map Nd.dat) g')) ds → R (.slice a (ns ++ [Nd.mk kk tt nn aa ks]).length c) H') :
    App Tryd.prog 22 22 22 H v (.slice (some ⟨nb, 0, none⟩) 1 1) R := by
  have L1 : PLv X H0 ts k H l ds := Lv.drop L (List.sublist_cons_self _ _) fun p hp => hp
  refine Lv.app L ENd i hi Tryd.underlying22 rfl (one_agg (L.one hk)) (d := Nd.dat (.mk kk tt nn aa ks)) (L1.ndr hk) rfl (by simp [maxLen]; omega) (by simp; omega) fun a c g' H' L' => ?_
  have e : ns.map Nd.dat ++ [Nd.dat (.mk kk tt nn aa ks)] = (ns ++ [Nd.mk kk tt nn aa ks]).map Nd.dat := by simp
  have e2 : (ns.map Nd.dat).length + 1 = (ns ++ [Nd.mk kk tt nn aa ks]).length := by simp
  rw [e, e2] at L'
  rw [e2]
  exact hR a c g' H' L'
end

theorem argument_ok {k : Nat} {e : PP Nd} (hex : POk k 26 [] e NdR) (fn : Bs) : POk k 110 [sv fn] (argP e fn) NdR := by
  refine ⟨fun {X H ts} hs => ?_⟩
  refine pcalls_of_vc (args := [_, _]) Tryd.func110 c110ok (Nat.le_of_ble_eq_true rfl) ?_
  have L := hs.walk
  unfold sv
  simp (implicitDefEqProofs := false) only [go_sem, c110]
  refine L.newP fun b1 H1 L => ?_
  simp (implicitDefEqProofs := false) only [go_sem]
  refine look_go L fun H2 L => ?_
  simp (implicitDefEqProofs := false) only [go_sem, tkC]
  refine L.newP fun b2 H3 L => ?_
  simp (implicitDefEqProofs := false) only [go_sem]
  refine L.stoAll 0 rfl rfl (one_agg (t := []) rfl) fun H4 L => ?_
  simp only [List.set_cons_zero, List.set_cons_succ, List.set_nil, List.eraseIdx_cons_zero, List.eraseIdx_cons_succ] at L
  by_cases e1 : fn = [114, 101, 99]
  · subst e1
    have hp : argP e [114, 101, 99] ts = bd (takeP 1) (fun t => bd (expP [58]) fun _ => bd e fun x => ret (.mk 52 t.text 0 (hd ts).at_ [x])) ts := by simp only [argP, if_true]
    simp (implicitDefEqProofs := false) only [go_sem, ba_eq]
    refine (take_ok 1 (by decide)).go hs L hp fun t r v H5 L hp _ hv => ?_
    cases hv
    simp (implicitDefEqProofs := false) only [go_sem, tkC, sv]
    refine L.stoOne 0 rfl (by simp) rfl fun H6 L => ?_
    simp only [List.set_cons_zero, List.set_cons_succ, List.set_nil, List.eraseIdx_cons_zero, List.eraseIdx_cons_succ] at L
    simp (implicitDefEqProofs := false) only [go_sem]
    refine (expect_ok [58]).go hs L hp fun _ r v H7 L hp _ _ => ?_
    have L := L.row0 24 5
    have c := L.cell 1 rfl
    simp (implicitDefEqProofs := false) only [go_sem, c]
    refine hex.goN hs L hp fun kk tt nn aa ks kv r H8 L hp he => ?_
    have c := L.cell 1 rfl
    simp (implicitDefEqProofs := false) only [go_sem, c]
    refine L.newS fun b3 H9 L => ?_
    have c := L.cell 2 rfl
    simp (implicitDefEqProofs := false) only [go_sem, c]
    refine L.appN (ns := []) (ks := ks) 0 rfl (by simp) (by decide) fun a c g' H10 L => ?_
    simp only [List.set_cons_zero, List.set_cons_succ, List.set_nil, List.eraseIdx_cons_zero, List.eraseIdx_cons_succ] at L
    simp (implicitDefEqProofs := false) only [go_sem]
    refine L.stoOne 1 rfl (by simp) rfl fun H11 L => ?_
    simp only [List.set_cons_zero, List.set_cons_succ, List.set_nil, List.eraseIdx_cons_zero, List.eraseIdx_cons_succ] at L
    have L := L.rowN 0 [.mk kk tt nn aa ks] rfl
    simp only [List.set_cons_zero, List.set_cons_succ, List.set_nil, List.eraseIdx_cons_zero, List.eraseIdx_cons_succ] at L
    have c := L.cell 0 rfl
    simp (implicitDefEqProofs := false) only [go_sem, c]
    refine L.stoAll 1 rfl rfl (one_agg rfl) fun HZ L => ?_
    simp only [List.set_cons_zero, List.set_cons_succ, List.set_nil, List.eraseIdx_cons_zero, List.eraseIdx_cons_succ] at L
    have c := L.cell 1 rfl
    simp (implicitDefEqProofs := false) only [go_sem, c]
    exact L.fin hp (.inl (by simp))
  · by_cases e2 : fn = [109, 97, 112]
    · subst e2
      have hp : argP e [109, 97, 112] ts = bd e (fun x => bd (expP [58]) fun _ => bd e fun y => ret (.mk 52 [] 0 (hd ts).at_ [x, y])) ts := by simp [argP]
      simp (implicitDefEqProofs := false) only [go_sem, ba_eq, e1]
      refine hex.goN hs L hp fun kk tt nn aa ks kv r H5 L hp _ => ?_
      simp (implicitDefEqProofs := false) only [go_sem]
      refine L.newS fun b3 H6 L => ?_
      have L := L.rowN1 (ks := ks) (by simp)
      simp (implicitDefEqProofs := false) only [go_sem]
      refine L.stoOne 1 rfl (by simp) rfl fun H7 L => ?_
      simp only [List.set_cons_zero, List.set_cons_succ, List.set_nil, List.eraseIdx_cons_zero, List.eraseIdx_cons_succ] at L
      simp (implicitDefEqProofs := false) only [go_sem]
      refine (expect_ok [58]).go hs L hp fun _ r v H8 L hp _ _ => ?_
      have c := L.cell 1 rfl
      simp (implicitDefEqProofs := false) only [go_sem, c]
      refine hex.goN hs L hp fun kk' tt' nn' aa' ks' kv' r H9 L hp _ => ?_
      have c := L.cell 1 rfl
      simp (implicitDefEqProofs := false) only [go_sem, c]
      refine L.newS fun b4 H10 L => ?_
      have c := L.cell 2 rfl
      simp (implicitDefEqProofs := false) only [go_sem, c]
      refine L.appN (ns := [.mk kk tt nn aa ks]) (ks := ks') 0 rfl (by simp) (by simp) fun a c g' H11 L => ?_
      simp only [List.set_cons_zero, List.set_cons_succ, List.set_nil, List.eraseIdx_cons_zero, List.eraseIdx_cons_succ] at L
      simp (implicitDefEqProofs := false) only [go_sem]
      refine L.stoOne 1 rfl (by simp) rfl fun H12 L => ?_
      simp only [List.set_cons_zero, List.set_cons_succ, List.set_nil, List.eraseIdx_cons_zero, List.eraseIdx_cons_succ] at L
      have L := L.rowN 0 [.mk kk tt nn aa ks, .mk kk' tt' nn' aa' ks'] rfl
      simp only [List.set_cons_zero, List.set_cons_succ, List.set_nil, List.eraseIdx_cons_zero, List.eraseIdx_cons_succ] at L
      have c := L.cell 0 rfl
      simp (implicitDefEqProofs := false) only [go_sem, c]
      refine L.stoAll 1 rfl rfl (one_agg (t := []) rfl) fun HZ L => ?_
      simp only [List.set_cons_zero, List.set_cons_succ, List.set_nil, List.eraseIdx_cons_zero, List.eraseIdx_cons_succ] at L
      have c := L.cell 1 rfl
      simp (implicitDefEqProofs := false) only [go_sem, c]
      exact L.fin hp (.inl (by simp))
    · have hp : argP e fn ts = e ts := by simp only [argP, e1, e2, if_false]
      simp (implicitDefEqProofs := false) only [go_sem, ba_eq, e1, e2]
      refine hex.goL hs L hp fun kk tt nn aa ks kv r H5 L hp => ?_
      simp (implicitDefEqProofs := false) only [go_sem]
      refine L.stoAll 1 rfl rfl (one_agg (L.one (ks := ks) (by simp))) fun H6 L => ?_
      simp only [List.set_cons_zero, List.set_cons_succ, List.set_nil, List.eraseIdx_cons_zero, List.eraseIdx_cons_succ] at L
      have c := L.cell 1 rfl
      simp (implicitDefEqProofs := false) only [go_sem, c]
      exact L.fin hp (.inl (by simp))

theorem functions_ok (s : Bs) (H : Heap) : HCalls Tryd.prog 109 #[sv s] H fun v H' => v = .bool (decide (s ∈ fnList)) ∧ Fr [] H H' := by
  refine calls_of_vc (args := [_]) Tryd.func109 c109ok (Nat.le_of_ble_eq_true rfl) ?_
  unfold sv
  by_cases h : s ∈ fnList
  · rw [decide_eq_true h]
    simp only [fnList, List.mem_cons, List.not_mem_nil, or_false] at h
    rcases h with rfl | rfl | rfl | rfl | rfl | rfl | rfl | rfl | rfl | rfl | rfl | rfl | rfl | rfl | rfl | rfl | rfl <;>
      · simp (implicitDefEqProofs := false) only [go_sem, c109, ba_eq]
        simp [Fr.refl]
  · rw [decide_eq_false h]
    simp only [fnList, List.mem_cons, List.not_mem_nil, or_false, not_or] at h
    obtain ⟨h1, h2, h3, h4, h5, h6, h7, h8, h9, h10, h11, h12, h13, h14, h15, h16, h17⟩ := h
    simp (implicitDefEqProofs := false) only [go_sem, c109, ba_eq, h1, h2, h3, h4, h5, h6, h7, h8, h9, h10, h11, h12, h13, h14, h15, h16, h17]
    exact Fr.refl _ _

theorem comma_lt {ts r : List Tk} (h : commaP ts = .ok (true, r)) (hn : ts ≠ []) : r.length < ts.length := by
  unfold commaP at h
  split at h
  · cases h
    have := List.length_pos_iff.2 hn
    simp; omega
  · unfold bd at h
    split at h
    · cases h
    · simp [ret] at h
theorem lo_0 : loK 0 = none := rfl
theorem lo_s (j : Nat) : ∃ x, loK (j + 1) = some x := ⟨_, rfl⟩
set_option maxHeartbeats 2000000 in
theorem primary_ok {k : Nat} (hex : ∀ j, k = j + 1 → POk j 26 [] (lev j).1 NdR) : POk k 108 [] (primP (loK k)) NdR := by
  refine ⟨fun {X H ts} hs => ?_⟩
  refine pcalls_of_vc (args := [_]) Tryd.func108 c108ok (Nat.le_of_ble_eq_true rfl) ?_
  have L := hs.walk
  simp (implicitDefEqProofs := false) only [go_sem, c108]
  refine L.newP fun b1 H1 L => ?_
  simp (implicitDefEqProofs := false) only [go_sem]
  refine look_go L fun H2 L => ?_
  simp (implicitDefEqProofs := false) only [go_sem, tkC]
  refine L.newP fun b2 H3 L => ?_
  simp (implicitDefEqProofs := false) only [go_sem]
  refine L.stoAll 0 rfl rfl (one4' (hd ts)) fun H4 L => ?_
  simp only [List.set_cons_zero, List.set_cons_succ, List.set_nil, List.eraseIdx_cons_zero, List.eraseIdx_cons_succ] at L
  have c := L.cell 0 rfl
  simp (implicitDefEqProofs := false) only [go_sem, c]
  refine L.newP fun b3 H5 L => ?_
  simp (implicitDefEqProofs := false) only [go_sem]
  refine L.stoAll 0 rfl rfl (one_agg (t := []) rfl) fun H6 L => ?_
  simp only [List.set_cons_zero, List.set_cons_succ, List.set_nil, List.eraseIdx_cons_zero, List.eraseIdx_cons_succ] at L
  have c := L.cell 1 rfl
  obtain ⟨hp, _⟩ : primP (loK k) ts = primP (loK k) ts ∧ True := ⟨rfl, trivial⟩
  conv at hp => rhs; unfold primP
  by_cases k3 : (hd ts).kind = 3
  · rw [if_pos (.inl k3)] at hp
    simp (implicitDefEqProofs := false) only [go_sem, c, k3]
    refine integer_ok.goL hs L hp fun kk tt nn aa ks kv r H5 L hp => ?_
    simp (implicitDefEqProofs := false) only [go_sem]
    refine L.stoAll 2 rfl rfl (one_agg (L.one (ks := ks) (by simp))) fun HZ L => ?_
    simp only [List.set_cons_zero, List.set_cons_succ, List.set_nil, List.eraseIdx_cons_zero, List.eraseIdx_cons_succ] at L
    have c := L.cell 2 rfl
    simp (implicitDefEqProofs := false) only [go_sem, c]
    exact L.fin hp (.inl (by simp))
  simp (implicitDefEqProofs := false) only [go_sem, c, k3]
  refine is_go L [45] fun H7 L => ?_
  cases e45 : isB [45] ts with
  | true =>
    rw [if_pos (.inr e45)] at hp
    simp (implicitDefEqProofs := false) only [go_sem]
    refine integer_ok.goL hs L hp fun kk tt nn aa ks kv r H5 L hp => ?_
    simp (implicitDefEqProofs := false) only [go_sem]
    refine L.stoAll 2 rfl rfl (one_agg (L.one (ks := ks) (by simp))) fun HZ L => ?_
    simp only [List.set_cons_zero, List.set_cons_succ, List.set_nil, List.eraseIdx_cons_zero, List.eraseIdx_cons_succ] at L
    have c := L.cell 2 rfl
    simp (implicitDefEqProofs := false) only [go_sem, c]
    exact L.fin hp (.inl (by simp))
  | false =>
  rw [if_neg (by rw [e45]; simp [k3])] at hp
  have c := L.cell 1 rfl
  by_cases k4 : (hd ts).kind = 4
  · rw [if_pos k4] at hp
    simp (implicitDefEqProofs := false) only [go_sem, c, k4]
    refine quote_ok.goL hs L hp fun kk tt nn aa ks kv r H5 L hp => ?_
    simp (implicitDefEqProofs := false) only [go_sem]
    refine L.stoAll 2 rfl rfl (one_agg (L.one (ks := ks) (by simp))) fun HZ L => ?_
    simp only [List.set_cons_zero, List.set_cons_succ, List.set_nil, List.eraseIdx_cons_zero, List.eraseIdx_cons_succ] at L
    have c := L.cell 2 rfl
    simp (implicitDefEqProofs := false) only [go_sem, c]
    exact L.fin hp (.inl (by simp))
  rw [if_neg k4] at hp
  by_cases k1 : (hd ts).kind = 1
  · rw [if_pos k1] at hp
    simp (implicitDefEqProofs := false) only [go_sem, c, k4, k1]
    refine (named_ok 48).goL hs L hp fun kk tt nn aa ks kv r H5 L hp => ?_
    simp (implicitDefEqProofs := false) only [go_sem]
    refine L.stoAll 2 rfl rfl (one_agg (L.one (ks := ks) (by simp))) fun HZ L => ?_
    simp only [List.set_cons_zero, List.set_cons_succ, List.set_nil, List.eraseIdx_cons_zero, List.eraseIdx_cons_succ] at L
    have c := L.cell 2 rfl
    simp (implicitDefEqProofs := false) only [go_sem, c]
    exact L.fin hp (.inl (by simp))
  rw [if_neg k1] at hp
  simp (implicitDefEqProofs := false) only [go_sem, c, k4, k1]
  refine accept_go hs L [116, 114, 117, 101] (fun e H7 L => ?_) fun e H7 L => ?_
  · rw [if_pos e] at hp
    simp (implicitDefEqProofs := false) only [go_sem]
    refine L.stoOne 0 rfl (by simp) rfl fun H8 L => ?_
    simp only [List.set_cons_zero, List.set_cons_succ, List.set_nil, List.eraseIdx_cons_zero, List.eraseIdx_cons_succ] at L
    simp (implicitDefEqProofs := false) only [go_sem]
    have c := L.cell 0 rfl
    simp (implicitDefEqProofs := false) only [go_sem, c]
    refine L.stoAll 2 rfl rfl (one_agg (t := []) rfl) fun HZ L => ?_
    simp only [List.set_cons_zero, List.set_cons_succ, List.set_nil, List.eraseIdx_cons_zero, List.eraseIdx_cons_succ] at L
    have c := L.cell 2 rfl
    simp (implicitDefEqProofs := false) only [go_sem, c]
    exact L.fin hp (.inr ⟨rfl, rfl⟩)
  rw [if_neg (by rw [e]; decide)] at hp
  simp (implicitDefEqProofs := false) only [go_sem]
  refine accept_go hs L [102, 97, 108, 115, 101] (fun e H7 L => ?_) fun e H7 L => ?_
  · rw [if_pos e] at hp
    simp (implicitDefEqProofs := false) only [go_sem]
    refine L.stoOne 0 rfl (by simp) rfl fun H8 L => ?_
    simp only [List.set_cons_zero, List.set_cons_succ, List.set_nil, List.eraseIdx_cons_zero, List.eraseIdx_cons_succ] at L
    simp (implicitDefEqProofs := false) only [go_sem]
    have c := L.cell 0 rfl
    simp (implicitDefEqProofs := false) only [go_sem, c]
    refine L.stoAll 2 rfl rfl (one_agg (t := []) rfl) fun HZ L => ?_
    simp only [List.set_cons_zero, List.set_cons_succ, List.set_nil, List.eraseIdx_cons_zero, List.eraseIdx_cons_succ] at L
    have c := L.cell 2 rfl
    simp (implicitDefEqProofs := false) only [go_sem, c]
    exact L.fin hp (.inr ⟨rfl, rfl⟩)
  rw [if_neg (by rw [e]; decide)] at hp
  simp (implicitDefEqProofs := false) only [go_sem]
  refine accept_go hs L [115] (fun e H7 L => ?_) fun e H7 L => ?_
  · rw [if_pos e] at hp
    simp (implicitDefEqProofs := false) only [go_sem]
    refine L.stoOne 0 rfl (by simp) rfl fun H8 L => ?_
    simp only [List.set_cons_zero, List.set_cons_succ, List.set_nil, List.eraseIdx_cons_zero, List.eraseIdx_cons_succ] at L
    simp (implicitDefEqProofs := false) only [go_sem]
    have c := L.cell 0 rfl
    simp (implicitDefEqProofs := false) only [go_sem, c]
    refine L.stoAll 2 rfl rfl (one_agg (t := []) rfl) fun HZ L => ?_
    simp only [List.set_cons_zero, List.set_cons_succ, List.set_nil, List.eraseIdx_cons_zero, List.eraseIdx_cons_succ] at L
    have c := L.cell 2 rfl
    simp (implicitDefEqProofs := false) only [go_sem, c]
    exact L.fin hp (.inr ⟨rfl, rfl⟩)
  rw [if_neg (by rw [e]; decide)] at hp
  simp (implicitDefEqProofs := false) only [go_sem]
  refine accept_go hs L [98, 111, 116, 116, 111, 109] (fun e H7 L => ?_) fun e H7 L => ?_
  · rw [if_pos e] at hp
    simp (implicitDefEqProofs := false) only [go_sem]
    refine L.stoOne 0 rfl (by simp) rfl fun H8 L => ?_
    simp only [List.set_cons_zero, List.set_cons_succ, List.set_nil, List.eraseIdx_cons_zero, List.eraseIdx_cons_succ] at L
    simp (implicitDefEqProofs := false) only [go_sem]
    have c := L.cell 0 rfl
    simp (implicitDefEqProofs := false) only [go_sem, c]
    refine L.stoAll 2 rfl rfl (one_agg (t := []) rfl) fun HZ L => ?_
    simp only [List.set_cons_zero, List.set_cons_succ, List.set_nil, List.eraseIdx_cons_zero, List.eraseIdx_cons_succ] at L
    have c := L.cell 2 rfl
    simp (implicitDefEqProofs := false) only [go_sem, c]
    exact L.fin hp (.inr ⟨rfl, rfl⟩)
  rw [if_neg (by rw [e]; decide)] at hp
  simp (implicitDefEqProofs := false) only [go_sem]
  refine is_go L [40] fun H7 L => ?_
  cases e40 : isB [40] ts with
  | true =>
    rw [if_pos e40] at hp
    simp (implicitDefEqProofs := false) only [go_sem]
    refine enter_go (lo := loK) hs L lo_0 lo_s hp fun j x H8 hj hx L _ hp => ?_
    cases hx
    simp (implicitDefEqProofs := false) only [go_sem]
    refine (hex j hj).goN hs L hp fun kk tt nn aa ks kv r H9 L hp _ => ?_
    simp (implicitDefEqProofs := false) only [go_sem]
    refine L.stoAll 0 rfl rfl (one_agg (L.one (ks := ks) (by simp))) fun H10 L => ?_
    simp only [List.set_cons_zero, List.set_cons_succ, List.set_nil, List.eraseIdx_cons_zero, List.eraseIdx_cons_succ] at L
    simp (implicitDefEqProofs := false) only [go_sem]
    refine (expect_ok [41]).go hs L hp fun _ r v H11 L hp _ _ => ?_
    simp (implicitDefEqProofs := false) only [go_sem]
    refine leave_go hs L hj hs.k64 fun _ H12 L => ?_
    have c := L.cell 0 rfl
    simp (implicitDefEqProofs := false) only [go_sem, c]
    refine L.stoAll 2 rfl rfl (one_agg (L.one (ks := ks) (by simp))) fun HZ L => ?_
    simp only [List.set_cons_zero, List.set_cons_succ, List.set_nil, List.eraseIdx_cons_zero, List.eraseIdx_cons_succ] at L
    have c := L.cell 2 rfl
    simp (implicitDefEqProofs := false) only [go_sem, c]
    exact L.fin hp (.inl (by simp))
  | false =>
  rw [if_neg (by rw [e40]; decide)] at hp
  have c := L.cell 1 rfl
  by_cases k2 : (hd ts).kind = 2
  · simp (implicitDefEqProofs := false) only [go_sem, c, k2]
    refine (functions_ok (hd ts).text _).mono ?_
    rintro v H8 ⟨rfl, hf8⟩
    have L := L.ext hf8
    by_cases hfn : (hd ts).text ∈ fnList
    · rw [if_pos ⟨k2, hfn⟩] at hp
      obtain ⟨i, hb, hw, hnext⟩ := L.ps.step (by omega)
      have hc := hb.cell
      have c := L.cell 1 rfl
      unfold ptr
      simp (implicitDefEqProofs := false) only [go_sem, hfn, hc, hw]
      refine Sto_one hb (by simp) rfl fun H9 hn9 hf9 _ => ?_
      have L := L.pto hs hf9 (hnext H9 hn9 hf9)
      have c := L.cell 1 rfl
      simp (implicitDefEqProofs := false) only [go_sem, c]
      refine L.stoOne 0 rfl (by simp) rfl fun H10 L => ?_
      simp only [List.set_cons_zero, List.set_cons_succ, List.set_nil, List.eraseIdx_cons_zero, List.eraseIdx_cons_succ] at L
      have c := L.cell 1 rfl
      simp (implicitDefEqProofs := false) only [go_sem, c, sv]
      refine L.stoOne 0 rfl (by simp) rfl fun H11 L => ?_
      simp only [List.set_cons_zero, List.set_cons_succ, List.set_nil, List.eraseIdx_cons_zero, List.eraseIdx_cons_succ] at L
      have L : PLv X H ts.tail k H11 [.blk b3 24 [.int .i64 51, sv (hd ts).text, .int .i64 0, .int .i64 (hd ts).at_, .slice none 0 0], .blk b2 39 (tkC (hd ts)), .blk b1 24 [.int .i64 0, sv [], .int .i64 0, .int .i64 0, .slice none 0 0]] [] := L
      simp (implicitDefEqProofs := false) only [go_sem]
      refine enter_go (lo := loK) hs L lo_0 lo_s hp fun j x H12 hj hx L _ hp => ?_
      cases hx
      have hcap := hs.cap
      have hlen : ts.tail.tail.length ≤ 1048576 := by
        obtain ⟨i', _, e', _⟩ := L.ps.ex
        rw [e', List.length_drop]; omega
      have L := L.row0 24 5
      have hdn : Dn (argP (lev j).1 (hd ts).text) := argP_dn (lev_dn j).1 _
      obtain ⟨cur0, hcur0⟩ : ∃ cur, cur = ts.tail.tail := ⟨_, rfl⟩
      rw [← hcur0] at L hp hlen
      simp (implicitDefEqProofs := false) only [go_sem]
      refine accept_u hs L [41] fun H13 L => ?_
      simp (implicitDefEqProofs := false) only [go_sem]
      refine vc_loop (fun (s : Bool × List Tk × List Nd × Value) H' => ∃ g f, PLv X H s.2.1 j H' [.row 24 5 s.2.2.2 (s.2.2.1.map Nd.dat) g, .blk b3 24 [.int .i64 51, sv (hd ts).text, .int .i64 0, .int .i64 (hd ts).at_, s.2.2.2], .blk b2 39 (tkC (hd ts)), .blk b1 24 [.int .i64 0, sv [], .int .i64 0, .int .i64 0, .slice none 0 0]] [] ∧
        (s.1 = true → primP (loK k) ts = bd (listF (argP (lev j).1 (hd ts).text) f s.2.2.1) (fun l => ret (.mk 51 (hd ts).text 0 (hd ts).at_ l)) s.2.1 ∧ s.2.1.length ≤ f ∧ s.2.2.1.length + s.2.1.length ≤ 1048576) ∧
        (s.1 = false → primP (loK k) ts = ret (Nd.mk 51 (hd ts).text 0 (hd ts).at_ s.2.2.1) s.2.1))
        (fun s => [(0, ptr X.b), (2, .pointer (some ⟨b1, 0, none⟩)), (3, .pointer (some ⟨b2, 0, none⟩)), (4, .pointer (some ⟨b3, 0, none⟩)), (5, .bool s.1)]) (fun s => if s.1 then s.2.1.length + 1 else 0) (!(isB [41] cur0), (if isB [41] cur0 then cur0.tail else cur0), [], .slice none 0 0) ?_ ?_ ?_
      · refine ⟨none, cur0.length, L, fun h => ?_, fun h => ?_⟩
        · have e : isB [41] cur0 = false := by simpa using h
          simp only [e, Bool.false_eq_true, if_false]
          rw [hp]
          refine ⟨?_, Nat.le_refl _, by simpa using hlen⟩
          unfold bd listP; simp only [e, Bool.false_eq_true, if_false]
        · have e : isB [41] cur0 = true := by simpa using h
          simp only [e, if_true]
          rw [hp]
          unfold bd listP; simp only [e, if_true]
      · simp (implicitDefEqProofs := false) only [go_sem, ptr]
      · rintro ⟨more, cur, ns, v⟩ H14 ⟨g, f, L, hT, hF⟩
        simp only at L hT hF ⊢
        cases more with
        | false =>
          have hp := hF rfl
          simp (implicitDefEqProofs := false) only [go_sem]
          refine leave_go hs L hj hs.k64 fun _ H15 L => ?_
          have L := L.rowN 0 ns rfl
          simp only [List.set_cons_zero, List.set_cons_succ, List.set_nil, List.eraseIdx_cons_zero, List.eraseIdx_cons_succ] at L
          have c := L.cell 0 rfl
          simp (implicitDefEqProofs := false) only [go_sem, c]
          refine L.stoAll 2 rfl rfl (one_agg (L.one (ks := ns) (by simp))) fun HZ L => ?_
          simp only [List.set_cons_zero, List.set_cons_succ, List.set_nil, List.eraseIdx_cons_zero, List.eraseIdx_cons_succ] at L
          have c := L.cell 2 rfl
          simp (implicitDefEqProofs := false) only [go_sem, c]
          exact L.fin hp (.inl (by simp))
        | true =>
          obtain ⟨hp, hf, hle⟩ := hT rfl
          have hcur := List.length_pos_iff.2 L.ps.nil
          obtain ⟨f, rfl⟩ : ∃ f', f = f' + 1 := ⟨f - 1, by omega⟩
          have hp : primP (loK k) ts = bd (argP (lev j).1 (hd ts).text) (fun a => bd (bd commaP fun m => if m then listF (argP (lev j).1 (hd ts).text) f (ns ++ [a]) else ret (ns ++ [a])) (fun l => ret (.mk 51 (hd ts).text 0 (hd ts).at_ l))) cur := by
            rw [hp]; simp only [listF, bd_bd]
          have c := L.cell 1 rfl
          have c2 := L.cell 2 rfl
          simp (implicitDefEqProofs := false) only [go_sem, c, c2, tkC]
          refine (argument_ok (hex j hj) _).goN hs L hp fun kk tt nn aa ks kv r1 H15 L hp he => ?_
          have hle1 := hdn.of he
          have hne1 := L.ps.nil
          simp only [bd_bd] at hp
          have c := L.cell 1 rfl
          simp (implicitDefEqProofs := false) only [go_sem, c]
          refine L.newS fun bA HA L => ?_
          have c := L.cell 2 rfl
          simp (implicitDefEqProofs := false) only [go_sem, c]
          refine L.appN (ns := ns) (ks := ks) 0 rfl (by simp) (by omega) fun a c g' HB L => ?_
          simp only [List.set_cons_zero, List.set_cons_succ, List.set_nil, List.eraseIdx_cons_zero, List.eraseIdx_cons_succ] at L
          simp (implicitDefEqProofs := false) only [go_sem]
          refine L.stoOne 1 rfl (by simp) rfl fun HC L => ?_
          simp only [List.set_cons_zero, List.set_cons_succ, List.set_nil, List.eraseIdx_cons_zero, List.eraseIdx_cons_succ] at L
          simp (implicitDefEqProofs := false) only [go_sem]
          refine comma_ok.go hs L hp fun m r2 v HD L hp hcm hv => ?_
          cases hv
          have L := L.drop (ds' := []) (List.Sublist.refl _) (by simp)
          simp (implicitDefEqProofs := false) only [go_sem]
          refine loopK_intro (m, r2, ns ++ [.mk kk tt nn aa ks], .slice a (ns ++ [Nd.mk kk tt nn aa ks]).length c) ?_ ?_ ⟨g', f, L, fun h => ?_, fun h => ?_⟩
          · have := commaP_dn.of hcm
            cases m
            · show 0 < cur.length + 1
              omega
            · have := comma_lt hcm hne1
              show r2.length + 1 < cur.length + 1
              omega
          · simp (implicitDefEqProofs := false) only [go_sem]
          · simp only at h; subst h
            have := comma_lt hcm hne1
            refine ⟨hp, show r2.length ≤ f by omega, ?_⟩
            simp only [List.length_append, List.length_cons, List.length_nil]; omega
          · simp only at h; subst h
            exact hp
    · rw [if_neg (fun h => hfn h.2)] at hp
      simp (implicitDefEqProofs := false) only [go_sem, hfn]
      exact fail_go L hp
  · rw [if_neg (fun h => k2 h.1)] at hp
    simp (implicitDefEqProofs := false) only [go_sem, c, k2]
    exact fail_go L hp
end Go.Proofs.YtbgjgaaobnbijaaDoor
end
section
/- Expressions at all levels; lattices, declarations and programs: the grammar as functions on tokens. -/
set_option linter.unusedSimpArgs false
set_option linter.unusedVariables false
set_option maxRecDepth 8000
namespace Go.Proofs.YtbgjgaaobnbijaaDoor
open Gx Go

theorem lev_ok : ∀ k : Nat, POk k 26 [] (exprP (loK k)) NdR ∧ POk k 74 [] (notP (loK k)) NdR := by
  have key : ∀ k : Nat, (∀ j, k = j + 1 → POk j 26 [] (lev j).1 NdR ∧ POk j 74 [] (lev j).2 NdR) → POk k 26 [] (exprP (loK k)) NdR ∧ POk k 74 [] (notP (loK k)) NdR := fun k h => by
    have hl := loK_dn k
    have h1 := primary_ok fun j hj => (h j hj).1
    have h2 := postfix_ok (fun j hj => (h j hj).1) h1
    have h3 := sum_ok hl h2
    have h4 := joined_ok hl h3
    have h5 := comparison_ok hl h4
    have h6 := not_ok (fun j hj => (h j hj).2) h5
    have h7 := and_ok hl h6
    have h8 := or_ok hl h7
    exact ⟨expression_ok (fun j hj => (h j hj).1) h8, h6⟩
  intro k
  induction k with
  | zero => exact key 0 fun j hj => by omega
  | succ k ih =>
    refine key (k + 1) fun j hj => ?_
    obtain rfl : j = k := by omega
    rw [lev_eq]; exact ih

/-! ### lattices -/
def quotesF : Nat → List Nd → PP (List Nd)
  | 0, l => ret l
  | f + 1, l => fun ts => if isB [44] ts then bd quoteP (fun q => quotesF f (l ++ [q])) ts.tail else .ok (l, ts)
def quotesP : PP (List Nd) := bd quoteP fun q r => quotesF r.length [q] r
def allowedP : PP (List Nd) := fun ts => if isB [40] ts then bd quotesP (fun l => bd (expP [41]) fun _ => ret l) ts.tail else .ok ([], ts)
def twoP (p : PP Nd) : PP (List Nd) := bd (expP [40]) fun _ => bd p fun a => bd (expP [44]) fun _ => bd p fun b => bd (expP [41]) fun _ => ret [a, b]
def optQ : PP (List Nd) := fun ts => if (hd ts).kind = 4 then quotesP ts else .ok ([], ts)
def ruleP : PP Nd := fun ts => bd optQ (fun q => bd (expP [61, 62]) fun _ => bd quoteP fun c => ret (.mk 20 [] 0 (hd ts).at_ (q ++ [c]))) ts
def rulesF : Nat → List Nd → PP (List Nd)
  | 0, l => ret l
  | f + 1, l => fun ts => if isB [59] ts then bd ruleP (fun r => rulesF f (l ++ [r])) ts.tail else .ok (l, ts)
def closedP : PP (List Nd) := bd (expP [40]) fun _ => bd optQ fun l ts => bd (rulesF ts.length l) (fun l => bd (expP [41]) fun _ => ret l) ts
def memP (x : PP Nd) : PP Nd := bd (takeP 1) fun t => bd (expP [58]) fun _ => bd x fun y => ret (.mk 22 t.text 0 t.at_ [y])
def memF (x : PP Nd) : Nat → List Nd → PP (List Nd)
  | 0, l => ret l
  | f + 1, l => bd (memP x) fun m ts => if isB [44] ts then memF x f (l ++ [m]) ts.tail else .ok (l ++ [m], ts)
def memsP (x : PP Nd) : PP (List Nd) := fun ts => bd (memF x (ts.length + 1) []) (fun l => bd (expP [125]) fun _ => ret l) ts
abbrev LLo := Option (PP Nd)
def latP (lo : LLo) : PP Nd := fun ts =>
  if (hd ts).kind = 1 then namedP 21 ts
  else if isB [102, 108, 97, 103] ts then .ok (.mk 10 [] 0 (hd ts).at_ [], ts.tail)
  else if isB [114, 101, 103, 105, 115, 116, 101, 114] ts then .ok (.mk 18 [] 0 (hd ts).at_ [], ts.tail)
  else if isB [115, 101, 116] ts then bd allowedP (fun l => ret (.mk 13 [] 0 (hd ts).at_ l)) ts.tail
  else if isB [102, 108, 97, 116] ts then bd allowedP (fun l => ret (.mk 17 [] 0 (hd ts).at_ l)) ts.tail
  else if isB [109, 97, 112] ts then entP lo [109, 97, 112] (fun x => bd allowedP fun l => bd x fun y => ret (.mk 14 [] 0 (hd ts).at_ (l ++ [y]))) ts
  else if isB [109, 97, 120] ts then bd (twoP intP) (fun l => ret (.mk 11 [] 0 (hd ts).at_ l)) ts.tail
  else if isB [109, 105, 110] ts then bd (twoP intP) (fun l => ret (.mk 12 [] 0 (hd ts).at_ l)) ts.tail
  else if isB [108, 101, 120] ts then entP lo [108, 101, 120] (fun x => bd (twoP x) fun l => ret (.mk 16 [] 0 (hd ts).at_ l)) ts
  else if isB [123] ts then entP lo [123] (fun x => bd (memsP x) fun l => ret (.mk 15 [] 0 (hd ts).at_ l)) ts
  else if isB [99, 108, 111, 115, 101, 100] ts then bd closedP (fun l => ret (.mk 19 [] 0 (hd ts).at_ l)) ts.tail
  else .error (2, (hd ts).at_)
def levL : Nat → PP Nd
  | 0 => latP none
  | k + 1 => latP (some (levL k))
def loL : Nat → LLo
  | 0 => none
  | k + 1 => some (levL k)
theorem levL_eq (k : Nat) : levL k = latP (loL k) := by cases k <;> rfl

/-! ### declarations -/
def sortP : PP Int := fun ts =>
  if isB [105, 110, 116] ts then .ok (1, ts.tail)
  else if isB [98, 111, 111, 108] ts then .ok (2, ts.tail)
  else if isB [110, 97, 109, 101] ts then .ok (3, ts.tail)
  else if isB [110, 97, 109, 101, 115] ts then .ok (4, ts.tail)
  else .error (2, (hd ts).at_)
def paramP : PP Nd := bd (takeP 1) fun t => bd (expP [58]) fun _ => bd sortP fun s => ret (.mk 6 t.text s t.at_ [])
/-- What stands behind "update" or "query". -/
def funcP (at_ kind : Int) : PP Nd := bd (takeP 1) fun t => bd (expP [40]) fun _ => bd (listP paramP) fun ps => bd (expP [111, 110]) fun _ => bd (namedP 48) fun o =>
  bd (if kind = 5 then bd (expP [58]) fun _ => sortP else ret 0) fun n => bd (expP [61]) fun _ => bd (exprP (loK 64)) fun e => bd (expP [59]) fun _ => ret (.mk kind t.text n at_ (ps ++ [o] ++ [e]))
def latD (at_ kind : Int) (s : Bs) : PP Nd := bd (takeP 1) fun t => bd (expP s) fun _ => bd (levL 64) fun x => bd (expP [59]) fun _ => ret (.mk kind t.text 0 at_ [x])
def declP : PP Nd := fun ts =>
  if isB [108, 97, 116, 116, 105, 99, 101] ts then latD (hd ts).at_ 2 [61] ts.tail
  else if isB [111, 98, 106, 101, 99, 116] ts then latD (hd ts).at_ 3 [58] ts.tail
  else if isB [117, 112, 100, 97, 116, 101] ts then funcP (hd ts).at_ 4 ts.tail
  else if isB [113, 117, 101, 114, 121] ts then funcP (hd ts).at_ 5 ts.tail
  else .error (2, (hd ts).at_)
def progF : Nat → List Nd → PP (List Nd)
  | 0, l => ret l
  | f + 1, l => fun ts => if (hd ts).kind = 6 then .ok (l, ts) else bd declP (fun d => progF f (l ++ [d])) ts
def progP : PP Nd := fun ts => bd (progF (ts.length + 1) []) (fun l => ret (.mk 1 [] 0 0 l)) ts
/-- The whole of the tokens. -/
def topP (p : PP Nd) (ts : List Tk) : Except Flt Nd := match p ts with
  | .error e => .error e
  | .ok (n, r) => if (hd r).kind = 6 then .ok n else .error (2, (hd r).at_)

/-! ### nothing is read but in front -/
theorem quotesF_dn : ∀ f l, Dn (quotesF f l)
  | 0, l => Dn.ret l
  | f + 1, l => by
    intro ts r b hb
    simp only [quotesF] at hb
    split at hb
    · exact Dn.tl (quoteP_dn.bnd fun m => quotesF_dn f _) hb
    · cases hb; exact Nat.le_refl _
theorem quotesP_dn : Dn quotesP := quoteP_dn.bnd' fun n ts r b hb => (quotesF_dn _ _).of hb
theorem allowedP_dn : Dn allowedP := by
  intro ts r b hb
  unfold allowedP at hb
  split at hb
  · exact Dn.tl (quotesP_dn.bnd fun _ => (expP_dn _).bnd fun _ => Dn.ret _) hb
  · cases hb; exact Nat.le_refl _
theorem twoP_dn {p : PP Nd} (h : Dn p) : Dn (twoP p) := (expP_dn _).bnd fun _ => h.bnd fun _ => (expP_dn _).bnd fun _ => h.bnd fun _ => (expP_dn _).bnd fun _ => Dn.ret _
theorem optQ_dn : Dn optQ := by
  intro ts r b hb
  unfold optQ at hb
  split at hb
  · exact quotesP_dn.of hb
  · cases hb; exact Nat.le_refl _
theorem ruleP_dn : Dn ruleP := by
  intro ts r b hb
  unfold ruleP at hb
  exact Dn.of (optQ_dn.bnd fun _ => (expP_dn _).bnd fun _ => quoteP_dn.bnd fun _ => Dn.ret _) hb
theorem rulesF_dn : ∀ f l, Dn (rulesF f l)
  | 0, l => Dn.ret l
  | f + 1, l => by
    intro ts r b hb
    simp only [rulesF] at hb
    split at hb
    · exact Dn.tl (ruleP_dn.bnd fun m => rulesF_dn f _) hb
    · cases hb; exact Nat.le_refl _
theorem closedP_dn : Dn closedP := (expP_dn _).bnd fun _ => optQ_dn.bnd' fun l ts r b hb => Dn.of ((rulesF_dn _ l).bnd fun _ => (expP_dn _).bnd fun _ => Dn.ret _) hb
theorem memP_dn {x : PP Nd} (h : Dn x) : Dn (memP x) := (takeP_dn 1).bnd fun _ => (expP_dn _).bnd fun _ => h.bnd fun _ => Dn.ret _
theorem memF_dn {x : PP Nd} (h : Dn x) : ∀ f l, Dn (memF x f l)
  | 0, l => Dn.ret l
  | f + 1, l => (memP_dn h).bnd' fun m ts r b hb => by
    split at hb
    · exact Dn.tl (memF_dn h f _) hb
    · cases hb; exact Nat.le_refl _
theorem memsP_dn {x : PP Nd} (h : Dn x) : Dn (memsP x) := by
  intro ts r b hb
  unfold memsP at hb
  exact Dn.of ((memF_dn h _ _).bnd fun _ => (expP_dn _).bnd fun _ => Dn.ret _) hb
theorem ite_le {α : Type} {c : Prop} [Decidable c] {x y : Except Flt (α × List Tk)} {n : Nat} (hx : ∀ b r, x = .ok (b, r) → r.length ≤ n) (hy : ∀ b r, y = .ok (b, r) → r.length ≤ n) : ∀ b r, (if c then x else y) = .ok (b, r) → r.length ≤ n := by
  intro b r h
  by_cases hc : c
  · rw [if_pos hc] at h; exact hx b r h
  · rw [if_neg hc] at h; exact hy b r h
theorem ok_le {α : Type} {n : α} {ts : List Tk} : ∀ b r, (Except.ok (n, ts.tail) : Except Flt (α × List Tk)) = .ok (b, r) → r.length ≤ ts.length := by
  intro b r h; cases h; exact tail_le _
theorem latP_dn {lo : LLo} (hl : ∀ x, lo = some x → Dn x) : Dn (latP lo) := by
  intro ts r b hb
  unfold latP at hb
  revert b r
  suffices h : ∀ b r, latP lo ts = .ok (b, r) → r.length ≤ ts.length from fun r b hb => h b r hb
  unfold latP
  refine ite_le (fun b r h => (namedP_dn _).of h) (ite_le ok_le (ite_le ok_le (ite_le (fun b r h => Dn.tl (allowedP_dn.bnd fun _ => Dn.ret _) h) (ite_le (fun b r h => Dn.tl (allowedP_dn.bnd fun _ => Dn.ret _) h) (ite_le ?_ (ite_le (fun b r h => Dn.tl ((twoP_dn intP_dn).bnd fun _ => Dn.ret _) h) (ite_le (fun b r h => Dn.tl ((twoP_dn intP_dn).bnd fun _ => Dn.ret _) h) (ite_le ?_ (ite_le ?_ (ite_le (fun b r h => Dn.tl (closedP_dn.bnd fun _ => Dn.ret _) h) fun b r h => ?_))))))))))
  · intro b r h; exact Dn.of (entP_dn fun x hx => allowedP_dn.bnd fun _ => (hl x hx).bnd fun _ => Dn.ret _) h
  · intro b r h; exact Dn.of (entP_dn fun x hx => (twoP_dn (hl x hx)).bnd fun _ => Dn.ret _) h
  · intro b r h; exact Dn.of (entP_dn fun x hx => (memsP_dn (hl x hx)).bnd fun _ => Dn.ret _) h
  · cases h
theorem levL_dn : ∀ k, Dn (levL k)
  | 0 => latP_dn fun x hx => by cases hx
  | k + 1 => latP_dn fun x hx => by cases hx; exact levL_dn k
theorem loL_dn (k : Nat) : ∀ x, loL k = some x → Dn x := by
  intro x hx
  cases k with
  | zero => cases hx
  | succ k => cases hx; exact levL_dn k
theorem sortP_dn : Dn sortP := by
  intro ts r b hb
  unfold sortP at hb
  split at hb
  · cases hb; exact tail_le _
  split at hb
  · cases hb; exact tail_le _
  split at hb
  · cases hb; exact tail_le _
  split at hb
  · cases hb; exact tail_le _
  · cases hb
theorem paramP_dn : Dn paramP := (takeP_dn 1).bnd fun _ => (expP_dn _).bnd fun _ => sortP_dn.bnd fun _ => Dn.ret _
theorem funcP_dn (a k : Int) : Dn (funcP a k) := (takeP_dn 1).bnd fun _ => (expP_dn _).bnd fun _ => (listP_dn paramP_dn).bnd fun _ => (expP_dn _).bnd fun _ => (namedP_dn _).bnd fun _ => Dn.bnd (by
  split
  · exact (expP_dn _).bnd fun _ => sortP_dn
  · exact Dn.ret _) fun _ => (expP_dn _).bnd fun _ => (exprP_dn (loK_dn 64)).bnd fun _ => (expP_dn _).bnd fun _ => Dn.ret _
theorem latD_dn (a k : Int) (s : Bs) : Dn (latD a k s) := (takeP_dn 1).bnd fun _ => (expP_dn _).bnd fun _ => (levL_dn 64).bnd fun _ => (expP_dn _).bnd fun _ => Dn.ret _
/-- A declaration reads a token at least. -/
theorem declP_lt {ts r : List Tk} {n : Nd} (h : declP ts = .ok (n, r)) (hn : ts ≠ []) : r.length < ts.length := by
  have hp := List.length_pos_iff.2 hn
  have ht : ts.tail.length = ts.length - 1 := by simp
  unfold declP at h
  split at h
  · have := (latD_dn _ _ _).of h; omega
  split at h
  · have := (latD_dn _ _ _).of h; omega
  split at h
  · have := (funcP_dn _ _).of h; omega
  split at h
  · have := (funcP_dn _ _).of h; omega
  · cases h
end Go.Proofs.YtbgjgaaobnbijaaDoor
end
section
/- Parts of lattices: contracts. -/
set_option linter.unusedSimpArgs false
set_option linter.unusedVariables false
set_option maxRecDepth 8000
namespace Go.Proofs.YtbgjgaaobnbijaaDoor
open Gx Go
theorem nb {s : Bs} {ts : List Tk} (h : isB s ts = false) : ¬ isB s ts = true := by rw [h]; decide
/-- A row of trees of one's own. -/
def KdR (ns : List Nd) (v : Value) (H H' : Heap) : Prop := ∃ g, LsO H' (fun x => x < H.size) 24 5 v (ns.map Nd.dat) g ∧ ∀ b, g = some b → H.size ≤ b
/-- What a call leaves with a row of its own. -/
theorem _root_.Gx.Lv.callRow {O0 O : List Nat} {S S' : Heap → Prop} {H0 H H' : Heap} {l : List Ent} {ds : List (Dat × List Value)} {e m : Nat} {v : Value} {dl : List Dat} {g : Option Nat} (L : Lv O0 H0 O S H l ds) (hf : Fr O H H')
    (hS : ∀ (M : List Nat) (H'' : Heap), Fr M H' H'' → (∀ x ∈ M, H0.size ≤ x ∧ x ∉ O) → S' H'') (hr : LsO H' (fun x => x < H.size) e m v dl g) (hg : ∀ b, g = some b → H.size ≤ b) : Lv O0 H0 O S' H' (.row e m v dl g :: l) ds := by
  have L' := Lv.call L hf hS
  have hsz := L.fr.size
  have hb : ∀ x, Lk H0.size O (.row e m v dl g :: l) x → Lk H0.size O l x ∨ H.size ≤ x := by
    rintro x (q | q | q)
    · exact .inl (.inl q)
    · exact .inl (.inr (.inl q))
    · simp only [List.flatMap_cons, Ent.bs, List.mem_append, Option.mem_toList] at q
      rcases q with q | q
      · exact .inr (hg x q)
      · exact .inl (.inr (.inr q))
  have hold : ∀ x, Lk H0.size O l x → x < H.size := by
    rintro x (q | q | q)
    · omega
    · exact (L.own x q).1
    · exact (L.lo x q).2.2
  refine ⟨L'.fr, L'.own, ?_, fun x hx => ?_, fun p hp => ?_, fun p hp => ?_, hS⟩
  · simp only [List.flatMap_cons, Ent.bs, List.nodup_append]
    refine ⟨by cases g <;> simp, L.nd, fun a ha b hb => ?_⟩
    have h1 := hg a (by simpa using ha)
    have h2 := (L.lo b hb).2.2
    omega
  · simp only [List.flatMap_cons, Ent.bs, List.mem_append, Option.mem_toList] at hx
    rcases hx with hx | hx
    · have := hg x hx
      exact ⟨by omega, fun q => by have := (L.own x q).1; omega, LsO.lt hr hx⟩
    · exact L'.lo x hx
  · rcases List.mem_cons.1 hp with rfl | hp
    · obtain ⟨css, h1, h2, h3⟩ := hr
      refine ⟨css, h1, h2, h3.more fun x hx => .inl ?_⟩
      rcases hx with (q | q | q) | q
      · exact .inl (by omega)
      · exact .inl (L.own x q).1
      · simp only [List.flatMap_cons, Ent.bs, List.mem_append, Option.mem_toList] at q
        rcases q with q | q
        · exact .inr q
        · exact .inl (L.lo x q).2.2
      · exact .inr q
    · refine Ent.ok_step (L.ok p hp) hf (fun x hx => .inl (.inr (.inl hx))) (fun x hx hm => ?_) hb
      exact (L.lo x (List.mem_flatMap.2 ⟨p, hp, hx⟩)).2.1 hm
  · exact RepP.fr (L.dat p hp) hf (fun x hx => .inl (.inr (.inl hx))) hb
section
variable {X : Cx} {H0 H H' : Heap} {ts0 ts r : List Tk} {k0 k : Nat} {l : List Ent} {ds : List (Dat × List Value)} {γ : Type} {P0 : Except Flt (γ × List Tk)} {Q : Value → Heap → Prop}
theorem POk.goR {f : Nat} {av : List Value} {p : PP (List Nd)} {g : List Nd → PP γ} (h : POk k f av p KdR) (h0 : Ps X H0 ts0 k0) (L : PLv X H0 ts k H l ds) (hp : P0 = bd p g ts)
    (hR : ∀ ns a c gb r H', PLv X H0 r k H' (.row 24 5 (.slice a ns.length c) (ns.map Nd.dat) gb :: l) ds → P0 = g ns r → p ts = .ok (ns, r) → Q (.slice a ns.length c) H') : PCalls Tryd.prog f (ptr X.b :: av).toArray H Q (PEr X H0 P0) :=
  h.use L.ps (fun e H' he hf => ⟨e, by rw [hp, bd_err he], rfl, L.fr.trans hf⟩) fun ns r v H' he ⟨gb, h1, h2⟩ hs hf => by
    obtain ⟨a, c, hv, _⟩ := h1.slice
    rw [List.length_map] at hv
    subst hv
    exact hR ns a c gb r H' (L.callRow hf (fun M H'' hf' hM => Ps.on h0 hs hf' fun x hx => (hM x hx).1) h1 h2) (by rw [hp, bd_ok he]) he
/-- A row is returned. -/
theorem _root_.Gx.Lv.finR {P0 : Except Flt (List Nd × List Tk)} {ns : List Nd} {v : Value} {g : Option Nat} (L : PLv X H0 r k H l ds) (hp : P0 = ret ns r) (i : Nat) (hi : l[i]? = some (.row 24 5 v (ns.map Nd.dat) g)) :
    ∃ a r, P0 = .ok (a, r) ∧ KdR a v H0 H ∧ Ps X H r k ∧ Fr [X.b] H0 H :=
  ⟨ns, r, hp, ⟨g, (L.rowGet i hi).ext (Fr.refl [] _) fun x hx => .inl (.inl hx), fun b hb => (L.lo b (List.mem_flatMap.2 ⟨_, List.mem_of_getElem? hi, by simp [Ent.bs, hb]⟩)).1⟩, L.ps, L.fr⟩
end

theorem quotes_ok {k : Nat} : POk k 77 [] quotesP KdR := by
  refine ⟨fun {X H ts} hs => ?_⟩
  refine pcalls_of_vc (args := [_]) Tryd.func77 c77ok (Nat.le_of_ble_eq_true rfl) ?_
  have L := hs.walk
  have hcap := hs.cap
  simp (implicitDefEqProofs := false) only [go_sem, c77]
  refine quote_ok.goN hs L (P0 := quotesP ts) rfl fun kk tt nn aa ks kv r H1 L hp he => ?_
  simp (implicitDefEqProofs := false) only [go_sem]
  refine L.newS fun b1 H2 L => ?_
  have L := L.rowN1 (ks := ks) (by simp)
  have hlen : r.length ≤ 1048576 := by
    obtain ⟨i', _, e', _⟩ := L.ps.ex
    rw [e', List.length_drop]; omega
  simp (implicitDefEqProofs := false) only [go_sem]
  refine vc_loop (fun (s : List Tk × List Nd × Value) H' => ∃ g f, PLv X H s.1 k H' [.row 24 5 s.2.2 (s.2.1.map Nd.dat) g] [] ∧ quotesP ts = quotesF f s.2.1 s.1 ∧ s.1.length ≤ f ∧ s.2.1.length + s.1.length ≤ 1048577)
    (fun s => [(0, ptr X.b), (3, s.2.2)]) (fun s => s.1.length) (r, [.mk kk tt nn aa ks], .slice (some ⟨b1, 0, none⟩) 1 1) ?_ ?_ ?_
  · exact ⟨_, r.length, L.drop (List.Sublist.refl _) (by simp), hp, Nat.le_refl _, by simp; omega⟩
  · simp (implicitDefEqProofs := false) only [go_sem, ptr]
  · rintro ⟨cur, ns, v⟩ H3 ⟨g, f, L, hp, hf, hle⟩
    simp only at L hp hf hle ⊢
    have hcur := List.length_pos_iff.2 L.ps.nil
    obtain ⟨f, rfl⟩ : ∃ f', f = f' + 1 := ⟨f - 1, by omega⟩
    have htl : cur.tail.length = cur.length - 1 := by simp
    conv at hp => rhs; unfold quotesF
    simp (implicitDefEqProofs := false) only [go_sem]
    refine accept_go hs L [44] (fun e H4 L => ?_) fun e H4 L => ?_
    · rw [if_pos e] at hp
      have hct := List.length_pos_iff.2 L.ps.nil
      simp (implicitDefEqProofs := false) only [go_sem]
      refine quote_ok.goN hs L hp fun kk tt nn aa ks kv r' H5 L hp he => ?_
      have hle1 := quoteP_dn.of he
      simp (implicitDefEqProofs := false) only [go_sem]
      refine L.newS fun bA HA L => ?_
      simp (implicitDefEqProofs := false) only [go_sem]
      refine L.appN (ns := ns) (ks := ks) 0 rfl (by simp) (by omega) fun a c g' HB L => ?_
      simp only [List.set_cons_zero, List.set_cons_succ, List.set_nil, List.eraseIdx_cons_zero, List.eraseIdx_cons_succ] at L
      simp (implicitDefEqProofs := false) only [go_sem]
      refine loopK_intro (r', ns ++ [.mk kk tt nn aa ks], .slice a (ns ++ [Nd.mk kk tt nn aa ks]).length c) ?_ ?_ ⟨g', f, L.drop (List.Sublist.refl _) (by simp), hp, show r'.length ≤ f by omega, ?_⟩
      · show r'.length < cur.length
        omega
      · simp (implicitDefEqProofs := false) only [go_sem]
      · simp only [List.length_append, List.length_cons, List.length_nil]; omega
    · rw [if_neg (nb e)] at hp
      simp (implicitDefEqProofs := false) only [go_sem]
      exact L.finR hp 0 rfl
theorem allowed_ok {k : Nat} : POk k 65 [] allowedP KdR := by
  refine ⟨fun {X H ts} hs => ?_⟩
  refine pcalls_of_vc (args := [_]) Tryd.func65 c65ok (Nat.le_of_ble_eq_true rfl) ?_
  have L := hs.walk
  obtain ⟨hp, _⟩ : allowedP ts = allowedP ts ∧ True := ⟨rfl, trivial⟩
  conv at hp => rhs; unfold allowedP
  simp (implicitDefEqProofs := false) only [go_sem, c65]
  refine accept_go hs L [40] (fun e H1 L => ?_) fun e H1 L => ?_
  · rw [if_pos e] at hp
    simp (implicitDefEqProofs := false) only [go_sem]
    refine quotes_ok.goR hs L hp fun ns a c gb r H2 L hp _ => ?_
    simp (implicitDefEqProofs := false) only [go_sem]
    refine (expect_ok [41]).go hs L hp fun _ r v H3 L hp _ _ => ?_
    simp (implicitDefEqProofs := false) only [go_sem]
    exact L.finR hp 0 rfl
  · rw [if_neg (nb e)] at hp
    simp (implicitDefEqProofs := false) only [go_sem]
    exact (L.row0 24 5).finR (ns := []) hp 0 rfl

theorem two_ok {k g : Nat} {p : PP Nd} (hg : hasBody Tryd.prog g = true) (hop : POk k g [] p NdR) {X : Cx} {H : Heap} {ts : List Tk} (hs : Ps X H ts k) :
    PCalls Tryd.prog 66 #[ptr X.b, .func (.func g) #[ptr X.b] #[]] H (fun v H' => ∃ a r, twoP p ts = .ok (a, r) ∧ KdR a v H H' ∧ Ps X H' r k ∧ Fr [X.b] H H') (PEr X H (twoP p ts)) := by
  refine pcalls_of_vc (args := [_, _]) Tryd.func66 c66ok (Nat.le_of_ble_eq_true rfl) ?_
  have L := hs.walk
  simp (implicitDefEqProofs := false) only [go_sem, c66]
  refine (expect_ok [40]).go hs L (P0 := twoP p ts) rfl fun _ r v H1 L hp _ _ => ?_
  simp (implicitDefEqProofs := false) only [go_sem]
  refine ⟨hg, hop.goN hs L hp fun kk tt nn aa ks kv r H2 L hp _ => ?_⟩
  simp (implicitDefEqProofs := false) only [go_sem]
  refine L.newP fun b1 H3 L => ?_
  simp (implicitDefEqProofs := false) only [go_sem]
  refine L.stoAll 0 rfl rfl (one_agg (L.one (ks := ks) (by simp))) fun H4 L => ?_
  simp only [List.set_cons_zero, List.set_cons_succ, List.set_nil, List.eraseIdx_cons_zero, List.eraseIdx_cons_succ] at L
  simp (implicitDefEqProofs := false) only [go_sem]
  refine (expect_ok [44]).go hs L hp fun _ r v H5 L hp _ _ => ?_
  simp (implicitDefEqProofs := false) only [go_sem]
  refine ⟨hg, hop.goN hs L hp fun kk' tt' nn' aa' ks' kv' r H6 L hp _ => ?_⟩
  simp (implicitDefEqProofs := false) only [go_sem]
  refine L.newP fun b2 H7 L => ?_
  simp (implicitDefEqProofs := false) only [go_sem]
  refine L.stoAll 0 rfl rfl (one_agg (L.one (ks := ks') (by simp))) fun H8 L => ?_
  simp only [List.set_cons_zero, List.set_cons_succ, List.set_nil, List.eraseIdx_cons_zero, List.eraseIdx_cons_succ] at L
  simp (implicitDefEqProofs := false) only [go_sem]
  refine (expect_ok [41]).go hs L hp fun _ r v H9 L hp _ _ => ?_
  have c := L.cell 0 rfl
  have c' := L.cell 1 rfl
  simp (implicitDefEqProofs := false) only [go_sem, c, c']
  refine L.newS fun b3 H10 L => ?_
  simp (implicitDefEqProofs := false) only [go_sem]
  have L := L.rowOwn (dl := [Nd.mk kk tt nn aa ks, Nd.mk kk' tt' nn' aa' ks'].map Nd.dat) (m := 5) (n := 2) (css := [[.int .i64 kk, sv tt, .int .i64 nn, .int .i64 aa, kv], [.int .i64 kk', sv tt', .int .i64 nn', .int .i64 aa', kv']]) (by simp only [List.flatten_cons, List.flatten_nil, List.append_nil, List.cons_append, List.nil_append]) (by simp) ((RepsP.nil.cons (L.ndr (ks := ks') (by simp))).cons (L.ndr (ks := ks) (by simp))) rfl (by simp [maxLen])
  exact L.finR hp 0 rfl

theorem nth4 {α : Type} {a b c d : α} {P : Nat → α → Prop} (h0 : P 0 a) (h1 : P 1 b) (h2 : P 2 c) (h3 : P 3 d) : ∀ i x, [a, b, c, d][i]? = some x → P i x := by
  intro i x h
  match i, h with
  | 0, h => cases h; exact h0
  | 1, h => cases h; exact h1
  | 2, h => cases h; exact h2
  | 3, h => cases h; exact h3
def sorts : List Bs := [[105, 110, 116], [98, 111, 111, 108], [110, 97, 109, 101], [110, 97, 109, 101, 115]]
theorem sort_ok {k : Nat} : POk k 48 [] sortP IntR' := by
  refine ⟨fun {X H ts} hs => ?_⟩
  refine pcalls_of_vc (args := [_]) Tryd.func48 c48ok (Nat.le_of_ble_eq_true rfl) ?_
  have L := hs.walk
  obtain ⟨hp, _⟩ : sortP ts = sortP ts ∧ True := ⟨rfl, trivial⟩
  conv at hp => rhs; unfold sortP
  simp (implicitDefEqProofs := false) only [go_sem, c48]
  refine L.newS fun b1 H1 L => ?_
  simp (implicitDefEqProofs := false) only [go_sem]
  refine vc_loop (fun (i : Nat) H' => i ≤ 4 ∧ PLv X H ts k H' [.blk b1 9 [.string ⟨⟨[105, 110, 116]⟩⟩, .string ⟨⟨[98, 111, 111, 108]⟩⟩, .string ⟨⟨[110, 97, 109, 101]⟩⟩, .string ⟨⟨[110, 97, 109, 101, 115]⟩⟩]] [] ∧ ∀ j s, j < i → sorts[j]? = some s → isB s ts = false)
    (fun i => [(0, ptr X.b), (5, .slice (some ⟨b1, 0, none⟩) 4 4), (6, .int .i64 4), (7, .int .i64 i)]) (fun i => 4 - i) 0 ?_ ?_ ?_
  · exact ⟨by decide, L, fun j s h => by omega⟩
  · simp (implicitDefEqProofs := false) only [go_sem, ptr]
  · rintro i H2 ⟨hi, L, hno⟩
    have h5 : i = 0 ∨ i = 1 ∨ i = 2 ∨ i = 3 ∨ i = 4 := by omega
    rcases h5 with rfl | rfl | rfl | rfl | rfl
    · have c := L.cell 0 rfl
      have w : IntKind.i64.wrap 1 = 1 := rfl
      simp (implicitDefEqProofs := false) only [go_sem, c]
      refine accept_go hs L [105, 110, 116] (fun e H3 L => ?_) fun e H3 L => ?_
      · skip
        rw [if_pos e] at hp
        simp (implicitDefEqProofs := false) only [go_sem, w]
        exact ⟨1, ts.tail, hp, rfl, L.ps, L.fr⟩
      · simp (implicitDefEqProofs := false) only [go_sem]
        refine loopK_intro (1 : Nat) (by simp) ?_ ⟨by simp, L, fun j s hj hsj => ?_⟩
        · simp (implicitDefEqProofs := false) only [go_sem, w]
        · rcases Nat.lt_or_ge j (1 - 1) with q | q
          · exact hno j s (by omega) hsj
          · obtain rfl : j = 1 - 1 := by omega
            simp [sorts] at hsj
            subst hsj; exact e
    · have c := L.cell 0 rfl
      have w : IntKind.i64.wrap 2 = 2 := rfl
      simp (implicitDefEqProofs := false) only [go_sem, c]
      refine accept_go hs L [98, 111, 111, 108] (fun e H3 L => ?_) fun e H3 L => ?_
      · rw [if_neg (nb (hno 0 _ (by omega) rfl))] at hp
        rw [if_pos e] at hp
        simp (implicitDefEqProofs := false) only [go_sem, w]
        exact ⟨2, ts.tail, hp, rfl, L.ps, L.fr⟩
      · simp (implicitDefEqProofs := false) only [go_sem]
        refine loopK_intro (2 : Nat) (by simp) ?_ ⟨by simp, L, fun j s hj hsj => ?_⟩
        · simp (implicitDefEqProofs := false) only [go_sem, w]
        · rcases Nat.lt_or_ge j (2 - 1) with q | q
          · exact hno j s (by omega) hsj
          · obtain rfl : j = 2 - 1 := by omega
            simp [sorts] at hsj
            subst hsj; exact e
    · have c := L.cell 0 rfl
      have w : IntKind.i64.wrap 3 = 3 := rfl
      simp (implicitDefEqProofs := false) only [go_sem, c]
      refine accept_go hs L [110, 97, 109, 101] (fun e H3 L => ?_) fun e H3 L => ?_
      · rw [if_neg (nb (hno 0 _ (by omega) rfl)), if_neg (nb (hno 1 _ (by omega) rfl))] at hp
        rw [if_pos e] at hp
        simp (implicitDefEqProofs := false) only [go_sem, w]
        exact ⟨3, ts.tail, hp, rfl, L.ps, L.fr⟩
      · simp (implicitDefEqProofs := false) only [go_sem]
        refine loopK_intro (3 : Nat) (by simp) ?_ ⟨by simp, L, fun j s hj hsj => ?_⟩
        · simp (implicitDefEqProofs := false) only [go_sem, w]
        · rcases Nat.lt_or_ge j (3 - 1) with q | q
          · exact hno j s (by omega) hsj
          · obtain rfl : j = 3 - 1 := by omega
            simp [sorts] at hsj
            subst hsj; exact e
    · have c := L.cell 0 rfl
      have w : IntKind.i64.wrap 4 = 4 := rfl
      simp (implicitDefEqProofs := false) only [go_sem, c]
      refine accept_go hs L [110, 97, 109, 101, 115] (fun e H3 L => ?_) fun e H3 L => ?_
      · rw [if_neg (nb (hno 0 _ (by omega) rfl)), if_neg (nb (hno 1 _ (by omega) rfl)), if_neg (nb (hno 2 _ (by omega) rfl))] at hp
        rw [if_pos e] at hp
        simp (implicitDefEqProofs := false) only [go_sem, w]
        exact ⟨4, ts.tail, hp, rfl, L.ps, L.fr⟩
      · simp (implicitDefEqProofs := false) only [go_sem]
        refine loopK_intro (4 : Nat) (by simp) ?_ ⟨by simp, L, fun j s hj hsj => ?_⟩
        · simp (implicitDefEqProofs := false) only [go_sem, w]
        · rcases Nat.lt_or_ge j (4 - 1) with q | q
          · exact hno j s (by omega) hsj
          · obtain rfl : j = 4 - 1 := by omega
            simp [sorts] at hsj
            subst hsj; exact e
    · rw [if_neg (nb (hno 0 _ (by omega) rfl)), if_neg (nb (hno 1 _ (by omega) rfl)), if_neg (nb (hno 2 _ (by omega) rfl)), if_neg (nb (hno 3 _ (by omega) rfl))] at hp
      simp (implicitDefEqProofs := false) only [go_sem]
      exact fail_go L hp
end Go.Proofs.YtbgjgaaobnbijaaDoor
end
section
/- Lattices: contracts. -/
set_option linter.unusedSimpArgs false
set_option linter.unusedVariables false
set_option maxRecDepth 8000
namespace Go.Proofs.YtbgjgaaobnbijaaDoor
open Gx Go

theorem takeP_eq {k : Int} {ts r : List Tk} {t : Tk} (h : takeP k ts = .ok (t, r)) : t = hd ts ∧ t.kind = k ∧ r = ts.tail := by
  unfold takeP at h
  split at h
  · cases h; exact ⟨rfl, by assumption, rfl⟩
  · cases h
theorem quoteP_eq {ts r : List Tk} {n : Nd} (h : quoteP ts = .ok (n, r)) : n = .mk 47 (hd ts).text 0 (hd ts).at_ [] ∧ (hd ts).kind = 4 ∧ r = ts.tail := by
  unfold quoteP bd at h
  split at h
  · cases h
  · rename_i t q hq
    obtain ⟨rfl, h2, rfl⟩ := takeP_eq hq
    cases h; exact ⟨rfl, h2, rfl⟩
theorem hd_pos {ts : List Tk} {k : Int} (h : (hd ts).kind = k) (hk : k ≠ 6) : 0 < ts.length := by
  cases ts with
  | nil => exact absurd h.symm hk
  | cons t r => simp
theorem quotesF_len : ∀ (f : Nat) (l ns : List Nd) (ts r : List Tk), quotesF f l ts = .ok (ns, r) → ns.length + r.length ≤ l.length + ts.length
  | 0, l, ns, ts, r, h => by
    simp only [quotesF, ret, Except.ok.injEq, Prod.mk.injEq] at h
    obtain ⟨rfl, rfl⟩ := h; exact Nat.le_refl _
  | f + 1, l, ns, ts, r, h => by
    simp only [quotesF] at h
    split at h
    · unfold bd at h
      split at h
      · cases h
      · rename_i a q hq
        have h1 := quotesF_len f _ _ _ _ h
        have h2 := (quoteP_eq hq).2
        have h3 := hd_pos h2.1 (by decide)
        rw [h2.2] at h1
        simp only [List.length_append, List.length_cons, List.length_nil, List.length_tail] at h1 h3
        omega
    · cases h; exact Nat.le_refl _
theorem quotesP_len {ns : List Nd} {ts r : List Tk} (h : quotesP ts = .ok (ns, r)) : ns.length + r.length ≤ ts.length := by
  unfold quotesP bd at h
  split at h
  · cases h
  · rename_i a q hq
    have h1 := quotesF_len _ _ _ _ _ h
    have h2 := (quoteP_eq hq).2
    have h3 := hd_pos h2.1 (by decide)
    rw [h2.2] at h1
    simp only [List.length_cons, List.length_nil, List.length_tail] at h1
    omega
theorem _root_.Gx.Lv.len {X : Cx} {H0 H : Heap} {ts : List Tk} {k : Nat} {l : List Ent} {ds : List (Dat × List Value)} (L : PLv X H0 ts k H l ds) : ts.length ≤ 1048576 := by
  obtain ⟨i', _, e', _⟩ := L.ps.ex
  have := L.ps.cap
  rw [e', List.length_drop]; omega

theorem param_ok {k : Nat} : POk k 46 [] paramP NdR := by
  refine ⟨fun {X H ts} hs => ?_⟩
  refine pcalls_of_vc (args := [_]) Tryd.func46 c46ok (Nat.le_of_ble_eq_true rfl) ?_
  have L := hs.walk
  have hp : paramP ts = bd (namedP 6) (fun n => match n with | .mk kk tt nn aa ks => bd (expP [58]) fun _ => bd sortP fun s => ret (.mk kk tt s aa ks)) ts := by
    unfold paramP namedP
    rw [bd_bd]; rfl
  simp (implicitDefEqProofs := false) only [go_sem, c46]
  refine L.newP fun b1 H1 L => ?_
  simp (implicitDefEqProofs := false) only [go_sem]
  refine (named_ok 6).goN hs L hp fun kk tt nn aa ks kv r H2 L hp _ => ?_
  simp only at hp
  simp (implicitDefEqProofs := false) only [go_sem]
  refine L.newP fun b2 H3 L => ?_
  simp (implicitDefEqProofs := false) only [go_sem]
  refine L.stoAll 0 rfl rfl (one_agg (L.one (ks := ks) (by simp))) fun H4 L => ?_
  simp only [List.set_cons_zero, List.set_cons_succ, List.set_nil, List.eraseIdx_cons_zero, List.eraseIdx_cons_succ] at L
  simp (implicitDefEqProofs := false) only [go_sem]
  refine (expect_ok [58]).go hs L hp fun _ r v H5 L hp _ _ => ?_
  simp (implicitDefEqProofs := false) only [go_sem]
  refine sort_ok.go hs L hp fun n r v H6 L hp _ hv => ?_
  cases hv
  simp (implicitDefEqProofs := false) only [go_sem]
  refine L.stoOne 0 rfl (by simp) rfl fun H7 L => ?_
  simp only [List.set_cons_zero, List.set_cons_succ, List.set_nil, List.eraseIdx_cons_zero, List.eraseIdx_cons_succ] at L
  have c := L.cell 0 rfl
  simp (implicitDefEqProofs := false) only [go_sem, c]
  refine L.stoAll 1 rfl rfl (one_agg (L.one (ks := ks) (by simp))) fun HZ L => ?_
  simp only [List.set_cons_zero, List.set_cons_succ, List.set_nil, List.eraseIdx_cons_zero, List.eraseIdx_cons_succ] at L
  have c := L.cell 1 rfl
  simp (implicitDefEqProofs := false) only [go_sem, c]
  exact L.fin hp (.inl (by simp))

/-- A rule, behind its premises. -/
theorem rule_rest {k : Nat} {X : Cx} {H H1 : Heap} {ts r : List Tk} {b : Nat} {ns qs : List Nd} {v w : Value} {g gq : Option Nat} {aa : Int} {γ : Type} {P0 : Except Flt (γ × List Tk)} {G : Nd → PP γ} {x1 x4 x5 x6 : Option Value} {Q : Post} (hs : Ps X H ts k)
    (L : PLv X H r k H1 [.row 24 5 w (qs.map Nd.dat) gq, .blk b 24 [.int .i64 20, sv [], .int .i64 0, .int .i64 aa, w], .row 24 5 v (ns.map Nd.dat) g] []) (hl : qs.length + 1 ≤ 1048576) (hl2 : ns.length + 1 ≤ 1048576)
    (hp : P0 = bd (bd (expP [61, 62]) fun _ => bd quoteP fun c => ret (.mk 20 [] 0 aa (qs ++ [c]))) G r)
    (hQ : ∀ a c g' H' r' n, PLv X H r' k H' [.row 24 5 (.slice a (ns.length + 1) c) ((ns ++ [n]).map Nd.dat) g'] [] → P0 = G n r' → r'.length ≤ r.length → Q .nrm [some (ptr X.b), x1, some (.slice a (ns.length + 1) c), some (.pointer (some ⟨b, 0, none⟩)), x4, x5, x6] H') :
    vc Tryd.prog (PEr X H P0) c68s17 [some (ptr X.b), x1, some v, some (.pointer (some ⟨b, 0, none⟩)), x4, x5, x6] H1 Q := by
  rw [c68s17eq]
  simp only [bd_bd] at hp
  simp (implicitDefEqProofs := false) only [go_sem]
  refine (expect_ok [61, 62]).go hs L hp fun _ r1 v H2 L hp he _ => ?_
  have hle1 := (expP_dn _).of he
  rw [bd_bd] at hp
  have c := L.cell 1 rfl
  simp (implicitDefEqProofs := false) only [go_sem, c]
  refine quote_ok.goN hs L hp fun kk tt nn aa' ks kv r2 H3 L hp he => ?_
  have hle2 := quoteP_dn.of he
  have c := L.cell 1 rfl
  simp (implicitDefEqProofs := false) only [go_sem, c]
  refine L.newS fun bA HA L => ?_
  have c := L.cell 2 rfl
  simp (implicitDefEqProofs := false) only [go_sem, c]
  refine L.appN (ns := qs) (ks := ks) 0 rfl (by simp) hl fun a c g' HB L => ?_
  simp only [List.set_cons_zero, List.set_cons_succ, List.set_nil, List.eraseIdx_cons_zero, List.eraseIdx_cons_succ] at L
  simp (implicitDefEqProofs := false) only [go_sem]
  refine L.stoOne 1 rfl (by simp) rfl fun HC L => ?_
  simp only [List.set_cons_zero, List.set_cons_succ, List.set_nil, List.eraseIdx_cons_zero, List.eraseIdx_cons_succ] at L
  have L := L.rowN 0 (qs ++ [.mk kk tt nn aa' ks]) rfl
  simp only [List.set_cons_zero, List.set_cons_succ, List.set_nil, List.eraseIdx_cons_zero, List.eraseIdx_cons_succ] at L
  have c := L.cell 0 rfl
  simp (implicitDefEqProofs := false) only [go_sem, c]
  refine L.newS fun bD HD L => ?_
  simp (implicitDefEqProofs := false) only [go_sem]
  refine L.appN (kk := 20) (tt := []) (nn := 0) (aa := aa) (ns := ns) (ks := qs ++ [.mk kk tt nn aa' ks]) 1 rfl (by simp) hl2 fun a c g' HB L => ?_
  simp only [List.set_cons_zero, List.set_cons_succ, List.set_nil, List.eraseIdx_cons_zero, List.eraseIdx_cons_succ] at L
  have e : (ns ++ [Nd.mk 20 [] 0 aa (qs ++ [.mk kk tt nn aa' ks])]).length = ns.length + 1 := by simp
  rw [e] at L ⊢
  simp (implicitDefEqProofs := false) only [go_sem]
  exact hQ a c g' HB r2 _ (L.drop (by simp) (by simp)) hp (by omega)

theorem ruleP_bd {γ : Type} {G : Nd → PP γ} {ts : List Tk} : bd ruleP G ts = bd optQ (fun q => bd (bd (expP [61, 62]) fun _ => bd quoteP fun c => ret (.mk 20 [] 0 (hd ts).at_ (q ++ [c]))) G) ts := by
  have e : ruleP ts = bd optQ (fun q => bd (expP [61, 62]) fun _ => bd quoteP fun c => ret (.mk 20 [] 0 (hd ts).at_ (q ++ [c]))) ts := rfl
  rw [← bd_bd]
  unfold bd at e ⊢
  rw [e]
theorem optQ_y {γ : Type} {G : List Nd → PP γ} {ts : List Tk} (h : (hd ts).kind = 4) : bd optQ G ts = bd quotesP G ts := by
  unfold bd optQ; rw [if_pos h]
theorem optQ_n {γ : Type} {G : List Nd → PP γ} {ts : List Tk} (h : (hd ts).kind ≠ 4) : bd optQ G ts = G [] ts := by
  unfold bd optQ; rw [if_neg h]
set_option maxHeartbeats 1000000 in
theorem closed_rest {k : Nat} {X : Cx} {H H1 : Heap} {ts r : List Tk} {ns : List Nd} {v : Value} {g : Option Nat} {P0 : Except Flt (List Nd × List Tk)} {x1 x3 x4 x5 x6 : Option Value} (hs : Ps X H ts k)
    (L : PLv X H r k H1 [.row 24 5 v (ns.map Nd.dat) g] []) (hl : ns.length + r.length ≤ 1048577)
    (hp : P0 = bd (rulesF r.length ns) (fun l => bd (expP [41]) fun _ => ret l) r) :
    vc Tryd.prog (PEr X H P0) c68s25 [some (ptr X.b), x1, some v, x3, x4, x5, x6] H1 (finQ c68.res fun v H' => ∃ a r, P0 = .ok (a, r) ∧ KdR a v H H' ∧ Ps X H' r k ∧ Fr [X.b] H H') := by
  rw [c68s25eq]
  simp (implicitDefEqProofs := false) only [go_sem, c68]
  refine vc_loop (fun (s : List Tk × List Nd × Value) H' => ∃ g f, PLv X H s.1 k H' [.row 24 5 s.2.2 (s.2.1.map Nd.dat) g] [] ∧ P0 = bd (rulesF f s.2.1) (fun l => bd (expP [41]) fun _ => ret l) s.1 ∧ s.1.length ≤ f ∧ s.2.1.length + s.1.length ≤ 1048577)
    (fun s => [(0, ptr X.b), (3, s.2.2)]) (fun s => s.1.length) (r, ns, v) ?_ ?_ ?_
  · exact ⟨g, _, L, hp, Nat.le_refl _, hl⟩
  · simp (implicitDefEqProofs := false) only [go_sem]
  · rintro ⟨cur, ns, v⟩ H3 ⟨g, f, L, hp, hf, hle⟩
    simp only at L hp hf hle ⊢
    have hcur := List.length_pos_iff.2 L.ps.nil
    obtain ⟨f, rfl⟩ : ∃ f', f = f' + 1 := ⟨f - 1, by omega⟩
    have htl : cur.tail.length = cur.length - 1 := by simp
    have hp : P0 = if isB [59] cur then bd ruleP (fun x => bd (rulesF f (ns ++ [x])) (fun l => bd (expP [41]) fun _ => ret l)) cur.tail else bd (expP [41]) (fun _ => ret ns) cur := by
      rw [hp]
      conv => lhs; unfold bd rulesF
      by_cases e : isB [59] cur = true
      · simp only [e, if_true]
        rw [← bd_bd]; rfl
      · simp only [e, if_false]; rfl
    simp (implicitDefEqProofs := false) only [go_sem]
    refine accept_go hs L [59] (fun e H4 L => ?_) fun e H4 L => ?_
    · rw [if_pos e, ruleP_bd] at hp
      have hct := List.length_pos_iff.2 L.ps.nil
      simp (implicitDefEqProofs := false) only [go_sem]
      refine look_go L fun H5 L => ?_
      simp (implicitDefEqProofs := false) only [go_sem, tkC]
      refine L.newP fun b H6 L => ?_
      simp (implicitDefEqProofs := false) only [go_sem]
      refine L.stoAll 0 rfl rfl (one_agg (t := []) rfl) fun H7 L => ?_
      simp only [List.set_cons_zero, List.set_cons_succ, List.set_nil, List.eraseIdx_cons_zero, List.eraseIdx_cons_succ] at L
      simp (implicitDefEqProofs := false) only [go_sem]
      refine look_go L fun H8 L => ?_
      by_cases k4 : (hd cur.tail).kind = 4
      · rw [optQ_y k4] at hp
        simp (implicitDefEqProofs := false) only [go_sem, tkC, k4]
        refine quotes_ok.goR hs L hp fun qs aw cw gq r1 H9 L hp he => ?_
        have hql := quotesP_len he
        simp (implicitDefEqProofs := false) only [go_sem]
        refine L.stoOne 1 rfl (by simp) rfl fun H10 L => ?_
        simp only [List.set_cons_zero, List.set_cons_succ, List.set_nil, List.eraseIdx_cons_zero, List.eraseIdx_cons_succ] at L
        simp (implicitDefEqProofs := false) only [go_sem]
        refine rule_rest hs L (by have := List.length_pos_iff.2 L.ps.nil; omega) (by omega) hp fun a c g' H' r' n L hp hle' => ?_
        simp (implicitDefEqProofs := false) only [go_sem]
        refine loopK_intro (r', ns ++ [n], .slice a (ns.length + 1) c) ?_ ?_ ⟨g', f, L, hp, show r'.length ≤ f by omega, ?_⟩
        · show r'.length < cur.length
          omega
        · simp (implicitDefEqProofs := false) only [go_sem]
        · simp only [List.length_append, List.length_cons, List.length_nil]; omega
      · rw [optQ_n k4] at hp
        simp (implicitDefEqProofs := false) only [go_sem, tkC, k4]
        have L := L.row0 24 5
        refine rule_rest hs (qs := []) L (by decide) (by omega) hp fun a c g' H' r' n L hp hle' => ?_
        simp (implicitDefEqProofs := false) only [go_sem]
        refine loopK_intro (r', ns ++ [n], .slice a (ns.length + 1) c) ?_ ?_ ⟨g', f, L, hp, show r'.length ≤ f by omega, ?_⟩
        · show r'.length < cur.length
          omega
        · simp (implicitDefEqProofs := false) only [go_sem]
        · simp only [List.length_append, List.length_cons, List.length_nil]; omega
    · rw [if_neg (nb e)] at hp
      simp (implicitDefEqProofs := false) only [go_sem]
      refine (expect_ok [41]).go hs L hp fun _ r v H3 L hp _ _ => ?_
      simp (implicitDefEqProofs := false) only [go_sem]
      exact L.finR hp 0 rfl
theorem closed_ok {k : Nat} : POk k 68 [] closedP KdR := by
  refine ⟨fun {X H ts} hs => ?_⟩
  refine pcalls_of_vc (args := [_]) Tryd.func68 c68ok (Nat.le_of_ble_eq_true rfl) ?_
  have L := hs.walk
  simp (implicitDefEqProofs := false) only [go_sem, c68]
  refine (expect_ok [40]).go hs L (P0 := closedP ts) rfl fun _ r v H1 L hp _ _ => ?_
  have hlen := L.len
  simp (implicitDefEqProofs := false) only [go_sem]
  refine look_go L fun H2 L => ?_
  by_cases k4 : (hd r).kind = 4
  · rw [optQ_y k4] at hp
    simp (implicitDefEqProofs := false) only [go_sem, tkC, k4]
    refine quotes_ok.goR hs L hp fun qs aw cw gq r1 H3 L hp he => ?_
    have hql := quotesP_len he
    simp (implicitDefEqProofs := false) only [go_sem]
    exact closed_rest hs L (by omega) hp
  · rw [optQ_n k4] at hp
    simp (implicitDefEqProofs := false) only [go_sem, tkC, k4]
    exact closed_rest (ns := []) hs (L.row0 24 5) (by simp; omega) hp
end Go.Proofs.YtbgjgaaobnbijaaDoor
end
section
/- Lattices: the contract. -/
set_option linter.unusedSimpArgs false
set_option linter.unusedVariables false
set_option maxRecDepth 8000
namespace Go.Proofs.YtbgjgaaobnbijaaDoor
open Gx Go
section
variable {X : Cx} {H0 H H' : Heap} {ts0 ts r : List Tk} {k0 k : Nat} {l : List Ent} {ds : List (Dat × List Value)} {γ : Type} {P0 : Except Flt (γ × List Tk)} {Q : Value → Heap → Prop}
theorem two_go {g : Nat} {p : PP Nd} {G : List Nd → PP γ} (hg : hasBody Tryd.prog g = true) (hop : POk k g [] p NdR) (h0 : Ps X H0 ts0 k0) (L : PLv X H0 ts k H l ds) (hp : P0 = bd (twoP p) G ts)
    (hR : ∀ ns a c gb r H', PLv X H0 r k H' (.row 24 5 (.slice a ns.length c) (ns.map Nd.dat) gb :: l) ds → P0 = G ns r → Q (.slice a ns.length c) H') : PCalls Tryd.prog 66 #[ptr X.b, .func (.func g) #[ptr X.b] #[]] H Q (PEr X H0 P0) :=
  PCalls.mono (two_ok hg hop L.ps) (fun v H' ⟨ns, r, he, ⟨gb, h1, h2⟩, hs, hf⟩ => by
    obtain ⟨a, c, hv, _⟩ := h1.slice
    rw [List.length_map] at hv
    subst hv
    exact hR ns a c gb r H' (L.callRow hf (fun M H'' hf' hM => Ps.on h0 hs hf' fun x hx => (hM x hx).1) h1 h2) (by rw [hp, bd_ok he])) fun ch H' ⟨e, h1, h2, h3⟩ => ⟨e, by rw [hp, bd_err h1], h2, L.fr.trans h3⟩
end
theorem memP_eq (x : PP Nd) : memP x = bd (namedP 22) (fun n => match n with | .mk kk tt nn aa ks => bd (expP [58]) fun _ => bd x fun y => ret (.mk kk tt nn aa [y])) := by
  funext ts
  unfold memP namedP
  rw [bd_bd]; rfl
theorem allowedP_len {ns : List Nd} {ts r : List Tk} (h : allowedP ts = .ok (ns, r)) : ns.length + r.length ≤ ts.length := by
  unfold allowedP bd at h
  split at h
  · split at h
    · cases h
    · rename_i a q hq
      have h1 := quotesP_len hq
      simp only [List.length_tail] at h1
      replace h : bd (expP [41]) (fun _ => ret a) q = .ok (ns, r) := h
      cases hq2 : expP [41] q with
      | error e => rw [bd_err hq2] at h; cases h
      | ok x =>
        have h2 := (expP_dn [41]).of (a := x.1) (r := x.2) hq2
        rw [bd_ok (a := x.1) (r := x.2) hq2] at h
        simp only [ret, Except.ok.injEq, Prod.mk.injEq] at h
        obtain ⟨rfl, rfl⟩ := h
        omega
  · cases h; simp
theorem lo_0' : loL 0 = none := rfl
theorem lo_s' (j : Nat) : ∃ x, loL (j + 1) = some x := ⟨_, rfl⟩

set_option maxHeartbeats 2000000 in
theorem lattice_ok {k : Nat} (hlat : ∀ j, k = j + 1 → POk j 44 [] (levL j) NdR) : POk k 44 [] (latP (loL k)) NdR := by
  refine ⟨fun {X H ts} hs => ?_⟩
  refine pcalls_of_vc (args := [_]) Tryd.func44 c44ok (Nat.le_of_ble_eq_true rfl) ?_
  have L := hs.walk
  obtain ⟨hp, _⟩ : latP (loL k) ts = latP (loL k) ts ∧ True := ⟨rfl, trivial⟩
  conv at hp => rhs; unfold latP
  simp (implicitDefEqProofs := false) only [go_sem, c44]
  refine L.newP fun b1 H1 L => ?_
  simp (implicitDefEqProofs := false) only [go_sem]
  refine look_go L fun H2 L => ?_
  simp (implicitDefEqProofs := false) only [go_sem, tkC]
  refine L.newP fun b2 H3 L => ?_
  simp (implicitDefEqProofs := false) only [go_sem]
  refine L.stoAll 0 rfl rfl (one4' (hd ts)) fun H4 L => ?_
  simp only [List.set_cons_zero, List.set_cons_succ, List.set_nil, List.eraseIdx_cons_zero, List.eraseIdx_cons_succ] at L
  have c := L.cell 0 rfl
  simp (implicitDefEqProofs := false) only [go_sem, c]
  refine L.newP fun b3 H5 L => ?_
  simp (implicitDefEqProofs := false) only [go_sem]
  refine L.stoAll 0 rfl rfl (one_agg (t := []) rfl) fun H6 L => ?_
  simp only [List.set_cons_zero, List.set_cons_succ, List.set_nil, List.eraseIdx_cons_zero, List.eraseIdx_cons_succ] at L
  have c := L.cell 1 rfl
  by_cases k1 : (hd ts).kind = 1
  · rw [if_pos k1] at hp
    simp (implicitDefEqProofs := false) only [go_sem, c, k1]
    refine (named_ok 21).goL hs L hp fun kk tt nn aa ks kv r H5 L hp => ?_
    simp (implicitDefEqProofs := false) only [go_sem]
    refine L.stoAll 2 rfl rfl (one_agg (L.one (ks := ks) (by simp))) fun HZ L => ?_
    simp only [List.set_cons_zero, List.set_cons_succ, List.set_nil, List.eraseIdx_cons_zero, List.eraseIdx_cons_succ] at L
    have c := L.cell 2 rfl
    simp (implicitDefEqProofs := false) only [go_sem, c]
    exact L.fin hp (.inl (by simp))
  rw [if_neg k1] at hp
  simp (implicitDefEqProofs := false) only [go_sem, c, k1]
  refine accept_go hs L [102, 108, 97, 103] (fun e H7 L => ?_) fun e H7 L => ?_
  · rw [if_pos e] at hp
    simp (implicitDefEqProofs := false) only [go_sem]
    refine L.stoOne 0 rfl (by simp) rfl fun H8 L => ?_
    simp only [List.set_cons_zero, List.set_cons_succ, List.set_nil, List.eraseIdx_cons_zero, List.eraseIdx_cons_succ] at L
    simp (implicitDefEqProofs := false) only [go_sem]
    have c := L.cell 0 rfl
    simp (implicitDefEqProofs := false) only [go_sem, c]
    refine L.stoAll 2 rfl rfl (one_agg (t := []) rfl) fun HZ L => ?_
    simp only [List.set_cons_zero, List.set_cons_succ, List.set_nil, List.eraseIdx_cons_zero, List.eraseIdx_cons_succ] at L
    have c := L.cell 2 rfl
    simp (implicitDefEqProofs := false) only [go_sem, c]
    exact L.fin hp (.inr ⟨rfl, rfl⟩)
  rw [if_neg (nb e)] at hp
  simp (implicitDefEqProofs := false) only [go_sem]
  refine accept_go hs L [114, 101, 103, 105, 115, 116, 101, 114] (fun e H7 L => ?_) fun e H7 L => ?_
  · rw [if_pos e] at hp
    simp (implicitDefEqProofs := false) only [go_sem]
    refine L.stoOne 0 rfl (by simp) rfl fun H8 L => ?_
    simp only [List.set_cons_zero, List.set_cons_succ, List.set_nil, List.eraseIdx_cons_zero, List.eraseIdx_cons_succ] at L
    simp (implicitDefEqProofs := false) only [go_sem]
    have c := L.cell 0 rfl
    simp (implicitDefEqProofs := false) only [go_sem, c]
    refine L.stoAll 2 rfl rfl (one_agg (t := []) rfl) fun HZ L => ?_
    simp only [List.set_cons_zero, List.set_cons_succ, List.set_nil, List.eraseIdx_cons_zero, List.eraseIdx_cons_succ] at L
    have c := L.cell 2 rfl
    simp (implicitDefEqProofs := false) only [go_sem, c]
    exact L.fin hp (.inr ⟨rfl, rfl⟩)
  rw [if_neg (nb e)] at hp
  simp (implicitDefEqProofs := false) only [go_sem]
  refine accept_go hs L [115, 101, 116] (fun e H7 L => ?_) fun e H7 L => ?_
  · rw [if_pos e] at hp
    simp (implicitDefEqProofs := false) only [go_sem]
    refine allowed_ok.goR hs L hp fun ns a cw gb r H8 L hp _ => ?_
    simp (implicitDefEqProofs := false) only [go_sem]
    refine L.stoOne 1 rfl (by simp) rfl fun HA L => ?_
    simp only [List.set_cons_zero, List.set_cons_succ, List.set_nil, List.eraseIdx_cons_zero, List.eraseIdx_cons_succ] at L
    simp (implicitDefEqProofs := false) only [go_sem]
    refine L.stoOne 1 rfl (by simp) rfl fun HB L => ?_
    simp only [List.set_cons_zero, List.set_cons_succ, List.set_nil, List.eraseIdx_cons_zero, List.eraseIdx_cons_succ] at L
    have L := L.rowN 0 ns rfl
    simp only [List.set_cons_zero, List.set_cons_succ, List.set_nil, List.eraseIdx_cons_zero, List.eraseIdx_cons_succ] at L
    simp (implicitDefEqProofs := false) only [go_sem]
    have c := L.cell 0 rfl
    simp (implicitDefEqProofs := false) only [go_sem, c]
    refine L.stoAll 2 rfl rfl (one_agg (t := []) rfl) fun HZ L => ?_
    simp only [List.set_cons_zero, List.set_cons_succ, List.set_nil, List.eraseIdx_cons_zero, List.eraseIdx_cons_succ] at L
    have c := L.cell 2 rfl
    simp (implicitDefEqProofs := false) only [go_sem, c]
    exact L.fin hp (.inl (by simp))
  rw [if_neg (nb e)] at hp
  simp (implicitDefEqProofs := false) only [go_sem]
  refine accept_go hs L [102, 108, 97, 116] (fun e H7 L => ?_) fun e H7 L => ?_
  · rw [if_pos e] at hp
    simp (implicitDefEqProofs := false) only [go_sem]
    refine allowed_ok.goR hs L hp fun ns a cw gb r H8 L hp _ => ?_
    simp (implicitDefEqProofs := false) only [go_sem]
    refine L.stoOne 1 rfl (by simp) rfl fun HA L => ?_
    simp only [List.set_cons_zero, List.set_cons_succ, List.set_nil, List.eraseIdx_cons_zero, List.eraseIdx_cons_succ] at L
    simp (implicitDefEqProofs := false) only [go_sem]
    refine L.stoOne 1 rfl (by simp) rfl fun HB L => ?_
    simp only [List.set_cons_zero, List.set_cons_succ, List.set_nil, List.eraseIdx_cons_zero, List.eraseIdx_cons_succ] at L
    have L := L.rowN 0 ns rfl
    simp only [List.set_cons_zero, List.set_cons_succ, List.set_nil, List.eraseIdx_cons_zero, List.eraseIdx_cons_succ] at L
    simp (implicitDefEqProofs := false) only [go_sem]
    have c := L.cell 0 rfl
    simp (implicitDefEqProofs := false) only [go_sem, c]
    refine L.stoAll 2 rfl rfl (one_agg (t := []) rfl) fun HZ L => ?_
    simp only [List.set_cons_zero, List.set_cons_succ, List.set_nil, List.eraseIdx_cons_zero, List.eraseIdx_cons_succ] at L
    have c := L.cell 2 rfl
    simp (implicitDefEqProofs := false) only [go_sem, c]
    exact L.fin hp (.inl (by simp))
  rw [if_neg (nb e)] at hp
  simp (implicitDefEqProofs := false) only [go_sem]
  refine is_go L [109, 97, 112] fun H7 L => ?_
  cases e : isB [109, 97, 112] ts with
  | true =>
    rw [if_pos e] at hp
    simp (implicitDefEqProofs := false) only [go_sem]
    refine enter_go (lo := loL) hs L lo_0' lo_s' hp fun j x H8 hj hx L _ hp => ?_
    cases hx
    simp (implicitDefEqProofs := false) only [go_sem]
    have hlen := L.len
    refine allowed_ok.goR hs L hp fun ns a cw gb r H8 L hp he => ?_
    have hlen2 := allowedP_len he
    have hlen3 := List.length_pos_iff.2 L.ps.nil
    simp (implicitDefEqProofs := false) only [go_sem]
    refine L.stoOne 1 rfl (by simp) rfl fun HA L => ?_
    simp only [List.set_cons_zero, List.set_cons_succ, List.set_nil, List.eraseIdx_cons_zero, List.eraseIdx_cons_succ] at L
    simp (implicitDefEqProofs := false) only [go_sem]
    refine L.stoOne 1 rfl (by simp) rfl fun HB L => ?_
    simp only [List.set_cons_zero, List.set_cons_succ, List.set_nil, List.eraseIdx_cons_zero, List.eraseIdx_cons_succ] at L
    have c := L.cell 1 rfl
    simp (implicitDefEqProofs := false) only [go_sem, c]
    refine (hlat j hj).goN hs L hp fun kk tt nn aa ks kv r H9 L hp _ => ?_
    have c := L.cell 1 rfl
    simp (implicitDefEqProofs := false) only [go_sem, c]
    refine L.newS fun b4 H10 L => ?_
    have c := L.cell 2 rfl
    simp (implicitDefEqProofs := false) only [go_sem, c]
    refine L.appN (ns := ns) (ks := ks) 0 rfl (by simp) (by omega) fun a c g' H11 L => ?_
    simp only [List.set_cons_zero, List.set_cons_succ, List.set_nil, List.eraseIdx_cons_zero, List.eraseIdx_cons_succ] at L
    simp (implicitDefEqProofs := false) only [go_sem]
    refine L.stoOne 1 rfl (by simp) rfl fun H12 L => ?_
    simp only [List.set_cons_zero, List.set_cons_succ, List.set_nil, List.eraseIdx_cons_zero, List.eraseIdx_cons_succ] at L
    have L := L.rowN 0 (ns ++ [.mk kk tt nn aa ks]) rfl
    simp only [List.set_cons_zero, List.set_cons_succ, List.set_nil, List.eraseIdx_cons_zero, List.eraseIdx_cons_succ] at L
    simp (implicitDefEqProofs := false) only [go_sem]
    refine leave_go hs L hj hs.k64 fun _ H13 L => ?_
    have c := L.cell 0 rfl
    simp (implicitDefEqProofs := false) only [go_sem, c]
    refine L.stoAll 2 rfl rfl (one_agg (t := []) rfl) fun HZ L => ?_
    simp only [List.set_cons_zero, List.set_cons_succ, List.set_nil, List.eraseIdx_cons_zero, List.eraseIdx_cons_succ] at L
    have c := L.cell 2 rfl
    simp (implicitDefEqProofs := false) only [go_sem, c]
    exact L.fin hp (.inl (by simp))
  | false =>
  rw [if_neg (nb e)] at hp
  simp (implicitDefEqProofs := false) only [go_sem]
  refine accept_go hs L [109, 97, 120] (fun e H7 L => ?_) fun e H7 L => ?_
  · rw [if_pos e] at hp
    simp (implicitDefEqProofs := false) only [go_sem]
    refine two_go (by kernel_rfl) integer_ok hs L hp fun ns a cw gb r H8 L hp => ?_
    simp (implicitDefEqProofs := false) only [go_sem]
    refine L.stoOne 1 rfl (by simp) rfl fun HA L => ?_
    simp only [List.set_cons_zero, List.set_cons_succ, List.set_nil, List.eraseIdx_cons_zero, List.eraseIdx_cons_succ] at L
    simp (implicitDefEqProofs := false) only [go_sem]
    refine L.stoOne 1 rfl (by simp) rfl fun HB L => ?_
    simp only [List.set_cons_zero, List.set_cons_succ, List.set_nil, List.eraseIdx_cons_zero, List.eraseIdx_cons_succ] at L
    have L := L.rowN 0 ns rfl
    simp only [List.set_cons_zero, List.set_cons_succ, List.set_nil, List.eraseIdx_cons_zero, List.eraseIdx_cons_succ] at L
    simp (implicitDefEqProofs := false) only [go_sem]
    have c := L.cell 0 rfl
    simp (implicitDefEqProofs := false) only [go_sem, c]
    refine L.stoAll 2 rfl rfl (one_agg (t := []) rfl) fun HZ L => ?_
    simp only [List.set_cons_zero, List.set_cons_succ, List.set_nil, List.eraseIdx_cons_zero, List.eraseIdx_cons_succ] at L
    have c := L.cell 2 rfl
    simp (implicitDefEqProofs := false) only [go_sem, c]
    exact L.fin hp (.inl (by simp))
  rw [if_neg (nb e)] at hp
  simp (implicitDefEqProofs := false) only [go_sem]
  refine accept_go hs L [109, 105, 110] (fun e H7 L => ?_) fun e H7 L => ?_
  · rw [if_pos e] at hp
    simp (implicitDefEqProofs := false) only [go_sem]
    refine two_go (by kernel_rfl) integer_ok hs L hp fun ns a cw gb r H8 L hp => ?_
    simp (implicitDefEqProofs := false) only [go_sem]
    refine L.stoOne 1 rfl (by simp) rfl fun HA L => ?_
    simp only [List.set_cons_zero, List.set_cons_succ, List.set_nil, List.eraseIdx_cons_zero, List.eraseIdx_cons_succ] at L
    simp (implicitDefEqProofs := false) only [go_sem]
    refine L.stoOne 1 rfl (by simp) rfl fun HB L => ?_
    simp only [List.set_cons_zero, List.set_cons_succ, List.set_nil, List.eraseIdx_cons_zero, List.eraseIdx_cons_succ] at L
    have L := L.rowN 0 ns rfl
    simp only [List.set_cons_zero, List.set_cons_succ, List.set_nil, List.eraseIdx_cons_zero, List.eraseIdx_cons_succ] at L
    simp (implicitDefEqProofs := false) only [go_sem]
    have c := L.cell 0 rfl
    simp (implicitDefEqProofs := false) only [go_sem, c]
    refine L.stoAll 2 rfl rfl (one_agg (t := []) rfl) fun HZ L => ?_
    simp only [List.set_cons_zero, List.set_cons_succ, List.set_nil, List.eraseIdx_cons_zero, List.eraseIdx_cons_succ] at L
    have c := L.cell 2 rfl
    simp (implicitDefEqProofs := false) only [go_sem, c]
    exact L.fin hp (.inl (by simp))
  rw [if_neg (nb e)] at hp
  simp (implicitDefEqProofs := false) only [go_sem]
  refine is_go L [108, 101, 120] fun H7 L => ?_
  cases e : isB [108, 101, 120] ts with
  | true =>
    rw [if_pos e] at hp
    simp (implicitDefEqProofs := false) only [go_sem]
    refine enter_go (lo := loL) hs L lo_0' lo_s' hp fun j x H8 hj hx L _ hp => ?_
    cases hx
    simp (implicitDefEqProofs := false) only [go_sem]
    refine two_go (by kernel_rfl) (hlat j hj) hs L hp fun ns a cw gb r H8 L hp => ?_
    simp (implicitDefEqProofs := false) only [go_sem]
    refine L.stoOne 1 rfl (by simp) rfl fun HA L => ?_
    simp only [List.set_cons_zero, List.set_cons_succ, List.set_nil, List.eraseIdx_cons_zero, List.eraseIdx_cons_succ] at L
    simp (implicitDefEqProofs := false) only [go_sem]
    refine L.stoOne 1 rfl (by simp) rfl fun HB L => ?_
    simp only [List.set_cons_zero, List.set_cons_succ, List.set_nil, List.eraseIdx_cons_zero, List.eraseIdx_cons_succ] at L
    have L := L.rowN 0 ns rfl
    simp only [List.set_cons_zero, List.set_cons_succ, List.set_nil, List.eraseIdx_cons_zero, List.eraseIdx_cons_succ] at L
    simp (implicitDefEqProofs := false) only [go_sem]
    refine leave_go hs L hj hs.k64 fun _ H13 L => ?_
    have c := L.cell 0 rfl
    simp (implicitDefEqProofs := false) only [go_sem, c]
    refine L.stoAll 2 rfl rfl (one_agg (t := []) rfl) fun HZ L => ?_
    simp only [List.set_cons_zero, List.set_cons_succ, List.set_nil, List.eraseIdx_cons_zero, List.eraseIdx_cons_succ] at L
    have c := L.cell 2 rfl
    simp (implicitDefEqProofs := false) only [go_sem, c]
    exact L.fin hp (.inl (by simp))
  | false =>
  rw [if_neg (nb e)] at hp
  simp (implicitDefEqProofs := false) only [go_sem]
  refine is_go L [123] fun H7 L => ?_
  cases e : isB [123] ts with
  | true =>
    rw [if_pos e] at hp
    simp (implicitDefEqProofs := false) only [go_sem]
    refine enter_go (lo := loL) hs L lo_0' lo_s' hp fun j x H8 hj hx L _ hp => ?_
    cases hx
    have hlen := L.len
    have hdn := memP_dn (levL_dn j)
    have L := L.row0 24 5
    obtain ⟨cur0, hcur0⟩ : ∃ cur, cur = ts.tail := ⟨_, rfl⟩
    rw [← hcur0] at L hp hlen
    have hp : latP (loL k) ts = bd (memF (levL j) (cur0.length + 1) []) (fun l => bd (expP [125]) fun _ => ret (.mk 15 [] 0 (hd ts).at_ l)) cur0 := by
      rw [hp]
      have e : memsP (levL j) cur0 = bd (memF (levL j) (cur0.length + 1) []) (fun l => bd (expP [125]) fun _ => ret l) cur0 := rfl
      unfold bd at e ⊢
      rw [e]
      cases memF (levL j) (cur0.length + 1) [] cur0 with
      | error e => rfl
      | ok x =>
        simp only
        cases expP [125] x.2 <;> rfl
    simp (implicitDefEqProofs := false) only [go_sem]
    refine L.stoOne 1 rfl (by simp) rfl fun H9 L => ?_
    simp only [List.set_cons_zero, List.set_cons_succ, List.set_nil, List.eraseIdx_cons_zero, List.eraseIdx_cons_succ] at L
    simp (implicitDefEqProofs := false) only [go_sem]
    refine vc_loop (fun (s : Bool × List Tk × List Nd × Value) H' => ∃ g f, PLv X H s.2.1 j H' [.row 24 5 s.2.2.2 (s.2.2.1.map Nd.dat) g, .blk b3 24 [.int .i64 15, sv [], .int .i64 0, .int .i64 (hd ts).at_, s.2.2.2], .blk b2 39 (tkC (hd ts)), .blk b1 24 [.int .i64 0, sv [], .int .i64 0, .int .i64 0, .slice none 0 0]] [] ∧ (∃ a n c, s.2.2.2 = .slice a n c) ∧
      (s.1 = true → latP (loL k) ts = bd (memF (levL j) (f + 1) s.2.2.1) (fun l => bd (expP [125]) fun _ => ret (.mk 15 [] 0 (hd ts).at_ l)) s.2.1 ∧ s.2.1.length ≤ f ∧ s.2.2.1.length + s.2.1.length ≤ 1048576) ∧
      (s.1 = false → latP (loL k) ts = bd (expP [125]) (fun _ => ret (Nd.mk 15 [] 0 (hd ts).at_ s.2.2.1)) s.2.1))
      (fun s => [(0, ptr X.b), (2, .pointer (some ⟨b1, 0, none⟩)), (3, .pointer (some ⟨b2, 0, none⟩)), (4, .pointer (some ⟨b3, 0, none⟩)), (5, .bool s.1)]) (fun s => if s.1 then s.2.1.length + 1 else 0) (true, cur0, [], .slice none 0 0) ?_ ?_ ?_
    · exact ⟨none, cur0.length, L, ⟨_, _, _, rfl⟩, fun _ => ⟨hp, Nat.le_refl _, by simp; omega⟩, fun h => by cases h⟩
    · simp (implicitDefEqProofs := false) only [go_sem, ptr]
    · rintro ⟨more, cur, ns, v⟩ H10 ⟨g, f, L, ⟨va, vn, vc, hv⟩, hT, hF⟩
      simp only at L hT hF hv ⊢
      subst hv
      cases more with
      | false =>
        have hp := hF rfl
        simp (implicitDefEqProofs := false) only [go_sem]
        refine (expect_ok [125]).go hs L hp fun _ r v H11 L hp _ _ => ?_
        simp (implicitDefEqProofs := false) only [go_sem]
        refine leave_go hs L hj hs.k64 fun _ H12 L => ?_
        have L := L.rowN 0 ns rfl
        simp only [List.set_cons_zero, List.set_cons_succ, List.set_nil, List.eraseIdx_cons_zero, List.eraseIdx_cons_succ] at L
        have c := L.cell 0 rfl
        simp (implicitDefEqProofs := false) only [go_sem, c]
        refine L.stoAll 2 rfl rfl (one_agg (L.one (ks := ns) (by simp))) fun HZ L => ?_
        simp only [List.set_cons_zero, List.set_cons_succ, List.set_nil, List.eraseIdx_cons_zero, List.eraseIdx_cons_succ] at L
        have c := L.cell 2 rfl
        simp (implicitDefEqProofs := false) only [go_sem, c]
        exact L.fin hp (.inl (by simp))
      | true =>
        obtain ⟨hp, hf, hle⟩ := hT rfl
        have hcur := List.length_pos_iff.2 L.ps.nil
        have hp : latP (loL k) ts = bd (memP (levL j)) (fun m => bd (fun ts => if isB [44] ts then memF (levL j) f (ns ++ [m]) ts.tail else .ok (ns ++ [m], ts)) (fun l => bd (expP [125]) fun _ => ret (.mk 15 [] 0 (hd ts).at_ l))) cur := by
          rw [hp]; simp only [memF, bd_bd]
        rw [memP_eq, bd_bd] at hp
        simp (implicitDefEqProofs := false) only [go_sem]
        refine (named_ok 22).goN hs L hp fun kk tt nn aa ks kv r1 H11 L hp he => ?_
        have hle1 := (namedP_dn 22).of he
        simp only [bd_bd] at hp
        simp (implicitDefEqProofs := false) only [go_sem]
        refine L.newP fun b4 H12 L => ?_
        simp (implicitDefEqProofs := false) only [go_sem]
        refine L.stoAll 0 rfl rfl (one_agg (L.one (ks := ks) (by simp))) fun H13 L => ?_
        simp only [List.set_cons_zero, List.set_cons_succ, List.set_nil, List.eraseIdx_cons_zero, List.eraseIdx_cons_succ] at L
        simp (implicitDefEqProofs := false) only [go_sem]
        refine (expect_ok [58]).go hs L hp fun _ r2 v H14 L hp he _ => ?_
        have hle2 := (expP_dn _).of he
        rw [bd_bd] at hp
        simp (implicitDefEqProofs := false) only [go_sem]
        refine (hlat j hj).goN hs L hp fun kk' tt' nn' aa' ks' kv' r3 H15 L hp he => ?_
        have hle3 := (levL_dn j).of he
        simp (implicitDefEqProofs := false) only [go_sem]
        refine L.newS fun b5 H16 L => ?_
        have L := L.rowN1 (ks := ks') (by simp)
        have L := L.rowN 0 [.mk kk' tt' nn' aa' ks'] rfl
        simp only [List.set_cons_zero, List.set_cons_succ, List.set_nil, List.eraseIdx_cons_zero, List.eraseIdx_cons_succ] at L
        simp (implicitDefEqProofs := false) only [go_sem]
        refine L.stoOne 0 rfl (by simp) rfl fun H17 L => ?_
        simp only [List.set_cons_zero, List.set_cons_succ, List.set_nil, List.eraseIdx_cons_zero, List.eraseIdx_cons_succ] at L
        have c := L.cell 2 rfl
        have c' := L.cell 0 rfl
        simp (implicitDefEqProofs := false) only [go_sem, c, c']
        refine L.newS fun b6 H18 L => ?_
        simp (implicitDefEqProofs := false) only [go_sem]
        refine L.appN (ns := ns) (ks := [.mk kk' tt' nn' aa' ks']) 1 rfl (by simp) (by have := List.length_pos_iff.2 L.ps.nil; omega) fun a c g' H19 L => ?_
        simp only [List.set_cons_zero, List.set_cons_succ, List.set_nil, List.eraseIdx_cons_zero, List.eraseIdx_cons_succ] at L
        simp (implicitDefEqProofs := false) only [go_sem]
        refine L.stoOne 2 rfl (by simp) rfl fun H20 L => ?_
        simp only [List.set_cons_zero, List.set_cons_succ, List.set_nil, List.eraseIdx_cons_zero, List.eraseIdx_cons_succ] at L
        have hnil := List.length_pos_iff.2 L.ps.nil
        simp (implicitDefEqProofs := false) only [go_sem]
        refine accept_u hs L [44] fun H21 L => ?_
        have L := L.drop (l' := [_, _, _, _]) (List.sublist_cons_self _ _) (ds' := []) (by simp)
        simp (implicitDefEqProofs := false) only [go_sem]
        refine loopK_intro (isB [44] r3, (if isB [44] r3 then r3.tail else r3), ns ++ [.mk kk tt nn aa [.mk kk' tt' nn' aa' ks']], .slice a (ns ++ [Nd.mk kk tt nn aa [.mk kk' tt' nn' aa' ks']]).length c) ?_ ?_ ⟨g', f - 1, L, ⟨_, _, _, rfl⟩, fun h => ?_, fun h => ?_⟩
        · cases e4 : isB [44] r3 with
          | false => show 0 < cur.length + 1; omega
          | true =>
            show r3.tail.length + 1 < cur.length + 1
            rw [List.length_tail]; omega
        · simp (implicitDefEqProofs := false) only [go_sem]
        · simp only at h
          rw [h] at L ⊢
          simp only [if_true] at L ⊢
          have hnt := List.length_pos_iff.2 L.ps.nil
          rw [List.length_tail] at hnt
          refine ⟨?_, by rw [List.length_tail]; omega, by simp only [List.length_append, List.length_cons, List.length_nil, List.length_tail]; omega⟩
          rw [hp, show f - 1 + 1 = f by omega]
          conv => lhs; unfold bd ret
          simp only [h, if_true]; rfl
        · simp only at h
          rw [h]
          rw [hp]
          conv => lhs; unfold bd ret
          simp only [h, Bool.false_eq_true, if_false]; rfl
  | false =>
  rw [if_neg (nb e)] at hp
  simp (implicitDefEqProofs := false) only [go_sem]
  refine accept_go hs L [99, 108, 111, 115, 101, 100] (fun e H7 L => ?_) fun e H7 L => ?_
  · rw [if_pos e] at hp
    simp (implicitDefEqProofs := false) only [go_sem]
    refine closed_ok.goR hs L hp fun ns a cw gb r H8 L hp _ => ?_
    simp (implicitDefEqProofs := false) only [go_sem]
    refine L.stoOne 1 rfl (by simp) rfl fun HA L => ?_
    simp only [List.set_cons_zero, List.set_cons_succ, List.set_nil, List.eraseIdx_cons_zero, List.eraseIdx_cons_succ] at L
    simp (implicitDefEqProofs := false) only [go_sem]
    refine L.stoOne 1 rfl (by simp) rfl fun HB L => ?_
    simp only [List.set_cons_zero, List.set_cons_succ, List.set_nil, List.eraseIdx_cons_zero, List.eraseIdx_cons_succ] at L
    have L := L.rowN 0 ns rfl
    simp only [List.set_cons_zero, List.set_cons_succ, List.set_nil, List.eraseIdx_cons_zero, List.eraseIdx_cons_succ] at L
    simp (implicitDefEqProofs := false) only [go_sem]
    have c := L.cell 0 rfl
    simp (implicitDefEqProofs := false) only [go_sem, c]
    refine L.stoAll 2 rfl rfl (one_agg (t := []) rfl) fun HZ L => ?_
    simp only [List.set_cons_zero, List.set_cons_succ, List.set_nil, List.eraseIdx_cons_zero, List.eraseIdx_cons_succ] at L
    have c := L.cell 2 rfl
    simp (implicitDefEqProofs := false) only [go_sem, c]
    exact L.fin hp (.inl (by simp))
  rw [if_neg (nb e)] at hp
  simp (implicitDefEqProofs := false) only [go_sem]
  exact fail_go L hp
end Go.Proofs.YtbgjgaaobnbijaaDoor
end
section
/- Declarations: contract. -/
set_option linter.unusedSimpArgs false
set_option linter.unusedVariables false
set_option maxRecDepth 8000
namespace Go.Proofs.YtbgjgaaobnbijaaDoor
open Gx Go

theorem lat_ok : ∀ k : Nat, POk k 44 [] (latP (loL k)) NdR := by
  intro k
  induction k with
  | zero => exact lattice_ok fun j hj => by omega
  | succ k ih =>
    refine lattice_ok fun j hj => ?_
    obtain rfl : j = k := by omega
    rw [levL_eq]; exact ih
theorem isB_pos {s : Bs} {ts : List Tk} (h : isB s ts = true) : 0 < ts.length := by
  cases ts with
  | nil => exact absurd rfl (isB_kind h)
  | cons t r => simp
theorem expP_lt {s : Bs} {ts r : List Tk} {a : Int} (h : expP s ts = .ok (a, r)) : r.length < ts.length := by
  unfold expP at h
  split at h
  · rename_i e
    cases h
    have := isB_pos e
    rw [List.length_tail]; omega
  · cases h
theorem comma_lt' {ts r : List Tk} {b : Bool} (h : commaP ts = .ok (b, r)) : r.length < ts.length := by
  unfold commaP at h
  split at h
  · rename_i e
    cases h
    have := isB_pos e
    rw [List.length_tail]; omega
  · unfold bd at h
    split at h
    · cases h
    · rename_i a q hq
      have := expP_lt hq
      simp only [ret, Except.ok.injEq, Prod.mk.injEq] at h
      rw [← h.2]; exact this
theorem namedP_lt {k : Int} {ts r : List Tk} {a : Nd} (h : namedP k ts = .ok (a, r)) : r.length < ts.length := by
  unfold namedP bd at h
  split at h
  · cases h
  · rename_i t q hq
    obtain ⟨rfl, h2, rfl⟩ := takeP_eq hq
    have := hd_pos h2 (by decide)
    simp only [ret, Except.ok.injEq, Prod.mk.injEq] at h
    rw [← h.2, List.length_tail]; omega

/-- The last expression of an update or a query. -/
theorem func_end {X : Cx} {H H1 : Heap} {ts r : List Tk} {b b1 : Nat} {ns : List Nd} {v : Value} {g : Option Nat} {K n aa : Int} {nm : Bs} {γ : Type} {P0 : Except Flt (γ × List Tk)} {G : List Nd → PP γ} {x3 x4 x5 x6 x7 x8 x9 x10 x11 x12 : Option Value} {Q : Post} {cs1 : List Value} (hs : Ps X H ts 64)
    (L : PLv X H r 64 H1 [.row 24 5 v (ns.map Nd.dat) g, .blk b 24 [.int .i64 K, sv nm, .int .i64 n, .int .i64 aa, v], .blk b1 24 cs1] []) (hl : ns.length + 1 ≤ 1048576)
    (hp : P0 = bd (expP [61]) (fun _ => bd (exprP (loK 64)) fun e => G (ns ++ [e])) r)
    (hQ : ∀ a c g' H' r' m, PLv X H r' 64 H' [.row 24 5 (.slice a (ns ++ [m]).length c) ((ns ++ [m]).map Nd.dat) g', .blk b 24 [.int .i64 K, sv nm, .int .i64 n, .int .i64 aa, .slice a (ns ++ [m]).length c], .blk b1 24 cs1] [] → P0 = G (ns ++ [m]) r' →
      Q .nrm [some (ptr X.b), some (.pointer (some ⟨b1, 0, none⟩)), some (.pointer (some ⟨b, 0, none⟩)), x3, x4, x5, x6, x7, x8, x9, x10, x11, x12] H') :
    vc Tryd.prog (PEr X H P0) c30s51 [some (ptr X.b), some (.pointer (some ⟨b1, 0, none⟩)), some (.pointer (some ⟨b, 0, none⟩)), x3, x4, x5, x6, x7, x8, x9, x10, x11, x12] H1 Q := by
  rw [c30s51eq]
  simp (implicitDefEqProofs := false) only [go_sem]
  refine (expect_ok [61]).go hs L hp fun _ r1 v H2 L hp he _ => ?_
  have c := L.cell 1 rfl
  simp (implicitDefEqProofs := false) only [go_sem, c]
  refine (lev_ok 64).1.goN hs L hp fun kk tt nn aa' ks kv r2 H3 L hp he => ?_
  have c := L.cell 1 rfl
  simp (implicitDefEqProofs := false) only [go_sem, c]
  refine L.newS fun bA HA L => ?_
  have c := L.cell 2 rfl
  simp (implicitDefEqProofs := false) only [go_sem, c]
  refine L.appN (ns := ns) (ks := ks) 0 rfl (by simp) hl fun a c g' HB L => ?_
  simp only [List.set_cons_zero, List.set_cons_succ, List.set_nil, List.eraseIdx_cons_zero, List.eraseIdx_cons_succ] at L
  simp (implicitDefEqProofs := false) only [go_sem]
  refine L.stoOne 1 rfl (by simp) rfl fun HC L => ?_
  simp only [List.set_cons_zero, List.set_cons_succ, List.set_nil, List.eraseIdx_cons_zero, List.eraseIdx_cons_succ] at L
  simp (implicitDefEqProofs := false) only [go_sem]
  exact hQ a c g' HC r2 _ (L.drop (List.Sublist.refl _) (by simp)) hp

/-- An update or a query, behind its name. -/
theorem func_rest {X : Cx} {H H1 : Heap} {ts r : List Tk} {b b1 : Nat} {K aa : Int} {nm : Bs} {γ : Type} {P0 : Except Flt (γ × List Tk)} {G : List Nd → Int → PP γ} {x3 x4 x5 x6 x7 x8 x9 x10 x11 x12 : Option Value} {Q : Post} {cs1 : List Value} (hs : Ps X H ts 64)
    (L : PLv X H r 64 H1 [.blk b 24 [.int .i64 K, sv nm, .int .i64 0, .int .i64 aa, .slice none 0 0], .blk b1 24 cs1] [])
    (hp : P0 = bd (expP [40]) (fun _ => bd (listP paramP) fun ps => bd (expP [111, 110]) fun _ => bd (namedP 48) fun o => bd (if K = 5 then bd (expP [58]) fun _ => sortP else ret 0) fun n => bd (expP [61]) fun _ => bd (exprP (loK 64)) fun e => G (ps ++ [o] ++ [e]) n) r)
    (hQ : ∀ a c g' H' r' ns n x3 x4 x5 x6 x7 x8 x9 x10 x11 x12, PLv X H r' 64 H' [.row 24 5 (.slice a ns.length c) (ns.map Nd.dat) g', .blk b 24 [.int .i64 K, sv nm, .int .i64 n, .int .i64 aa, .slice a ns.length c], .blk b1 24 cs1] [] → P0 = G ns n r' →
      Q .nrm [some (ptr X.b), some (.pointer (some ⟨b1, 0, none⟩)), some (.pointer (some ⟨b, 0, none⟩)), x3, x4, x5, x6, x7, x8, x9, x10, x11, x12] H') :
    vc Tryd.prog (PEr X H P0) c30s56 [some (ptr X.b), some (.pointer (some ⟨b1, 0, none⟩)), some (.pointer (some ⟨b, 0, none⟩)), x3, x4, x5, x6, x7, x8, x9, x10, x11, x12] H1 Q := by
  rw [c30s56eq]
  simp (implicitDefEqProofs := false) only [go_sem]
  refine (expect_ok [40]).go hs L hp fun _ r1 v H2 L hp he _ => ?_
  have hlen := L.len
  obtain ⟨cur0, hcur0⟩ : ∃ cur, cur = r1 := ⟨_, rfl⟩
  rw [← hcur0] at L hp hlen
  have L := L.row0 24 5
  simp (implicitDefEqProofs := false) only [go_sem]
  refine accept_u hs L [41] fun H3 L => ?_
  simp (implicitDefEqProofs := false) only [go_sem]
  refine vc_loop (fun (s : Bool × List Tk × List Nd × (Option Addr × Nat)) H' => ∃ g f, PLv X H s.2.1 64 H' [.row 24 5 (.slice s.2.2.2.1 s.2.2.1.length s.2.2.2.2) (s.2.2.1.map Nd.dat) g, .blk b 24 [.int .i64 K, sv nm, .int .i64 0, .int .i64 aa, .slice s.2.2.2.1 s.2.2.1.length s.2.2.2.2], .blk b1 24 cs1] [] ∧ s.2.2.1.length + s.2.1.length ≤ 1048576 ∧
    (s.1 = true → P0 = bd (listF paramP f s.2.2.1) (fun ps => bd (expP [111, 110]) (fun _ => bd (namedP 48) fun o => bd (if K = 5 then bd (expP [58]) fun _ => sortP else ret 0) fun n => bd (expP [61]) fun _ => bd (exprP (loK 64)) fun e => G (ps ++ [o] ++ [e]) n)) s.2.1 ∧ s.2.1.length ≤ f) ∧
    (s.1 = false → P0 = bd (expP [111, 110]) (fun _ => bd (namedP 48) fun o => bd (if K = 5 then bd (expP [58]) fun _ => sortP else ret 0) fun n => bd (expP [61]) fun _ => bd (exprP (loK 64)) fun e => G (s.2.2.1 ++ [o] ++ [e]) n) s.2.1))
    (fun s => [(0, ptr X.b), (2, .pointer (some ⟨b1, 0, none⟩)), (3, .pointer (some ⟨b, 0, none⟩)), (4, .bool s.1)]) (fun s => if s.1 then s.2.1.length + 1 else 0) (!(isB [41] cur0), (if isB [41] cur0 then cur0.tail else cur0), [], (none, 0)) ?_ ?_ ?_
  · refine ⟨none, cur0.length, L, ?_, fun h => ?_, fun h => ?_⟩
    · simp only [List.length_nil, Nat.zero_add]
      split
      · rw [List.length_tail]; omega
      · exact hlen
    · have e : isB [41] cur0 = false := by simpa using h
      simp only [e, Bool.false_eq_true, if_false]
      rw [hp]
      refine ⟨?_, Nat.le_refl _⟩
      conv => lhs; unfold bd listP
      simp only [e, Bool.false_eq_true, if_false]; rfl
    · have e : isB [41] cur0 = true := by simpa using h
      simp only [e, if_true]
      rw [hp]
      conv => lhs; unfold bd listP
      simp only [e, if_true]; rfl
  · simp (implicitDefEqProofs := false) only [go_sem, ptr]
  · rintro ⟨more, cur, ns, va, vc⟩ H4 ⟨g, f, L, hle, hT, hF⟩
    simp only at L hT hF hle ⊢
    cases more with
    | false =>
      have hp := hF rfl
      simp (implicitDefEqProofs := false) only [go_sem]
      refine (expect_ok [111, 110]).go hs L hp fun _ r1 v H5 L hp he _ => ?_
      have hl1 := expP_lt he
      have c := L.cell 1 rfl
      simp (implicitDefEqProofs := false) only [go_sem, c]
      refine (named_ok 48).goN hs L hp fun kk tt nn aa' ks kv r2 H6 L hp he => ?_
      have hl2 := namedP_lt he
      have c := L.cell 1 rfl
      simp (implicitDefEqProofs := false) only [go_sem, c]
      refine L.newS fun bA HA L => ?_
      have c := L.cell 2 rfl
      simp (implicitDefEqProofs := false) only [go_sem, c]
      refine L.appN (ns := ns) (ks := ks) 0 rfl (by simp) (by omega) fun a c g' HB L => ?_
      simp only [List.set_cons_zero, List.set_cons_succ, List.set_nil, List.eraseIdx_cons_zero, List.eraseIdx_cons_succ] at L
      simp (implicitDefEqProofs := false) only [go_sem]
      refine L.stoOne 1 rfl (by simp) rfl fun HC L => ?_
      simp only [List.set_cons_zero, List.set_cons_succ, List.set_nil, List.eraseIdx_cons_zero, List.eraseIdx_cons_succ] at L
      have c := L.cell 1 rfl
      have L := L.drop (List.Sublist.refl _) (ds' := []) (by simp)
      by_cases hK : K = 5
      · rw [if_pos hK, bd_bd] at hp
        simp (implicitDefEqProofs := false) only [go_sem, c, hK]
        refine (expect_ok [58]).go hs L hp fun _ r3 v H7 L hp he _ => ?_
        have hl3 := expP_lt he
        simp (implicitDefEqProofs := false) only [go_sem]
        refine sort_ok.go hs L hp fun n r4 v H8 L hp he hv => ?_
        have hl4 := sortP_dn.of he
        cases hv
        simp (implicitDefEqProofs := false) only [go_sem]
        refine L.stoOne 1 rfl (by simp) rfl fun H9 L => ?_
        simp only [List.set_cons_zero, List.set_cons_succ, List.set_nil, List.eraseIdx_cons_zero, List.eraseIdx_cons_succ] at L
        simp (implicitDefEqProofs := false) only [go_sem]
        refine func_end (G := fun l => G l n) hs L (by simp; omega) hp fun a c g' H' r' m L hp => ?_
        exact hQ a c g' H' r' _ n _ _ _ _ _ _ _ _ _ _ L hp
      · rw [if_neg hK] at hp
        replace hp : P0 = bd (expP [61]) (fun _ => bd (exprP (loK 64)) fun e => G (ns ++ [.mk kk tt nn aa' ks] ++ [e]) 0) r2 := hp
        simp (implicitDefEqProofs := false) only [go_sem, c, hK]
        refine func_end (G := fun l => G l 0) hs L (by simp; omega) hp fun a c g' H' r' m L hp => ?_
        exact hQ a c g' H' r' _ 0 _ _ _ _ _ _ _ _ _ _ L hp
    | true =>
      obtain ⟨hp, hf⟩ := hT rfl
      have hcur := List.length_pos_iff.2 L.ps.nil
      obtain ⟨f, rfl⟩ : ∃ f', f = f' + 1 := ⟨f - 1, by omega⟩
      simp only [listF, bd_bd] at hp
      have c := L.cell 1 rfl
      simp (implicitDefEqProofs := false) only [go_sem, c]
      refine param_ok.goN hs L hp fun kk tt nn aa' ks kv r1 H5 L hp he => ?_
      have hl1 := paramP_dn.of he
      rw [bd_bd] at hp
      have c := L.cell 1 rfl
      simp (implicitDefEqProofs := false) only [go_sem, c]
      refine L.newS fun bA HA L => ?_
      have c := L.cell 2 rfl
      simp (implicitDefEqProofs := false) only [go_sem, c]
      refine L.appN (ns := ns) (ks := ks) 0 rfl (by simp) (by omega) fun a c g' HB L => ?_
      simp only [List.set_cons_zero, List.set_cons_succ, List.set_nil, List.eraseIdx_cons_zero, List.eraseIdx_cons_succ] at L
      simp (implicitDefEqProofs := false) only [go_sem]
      refine L.stoOne 1 rfl (by simp) rfl fun HC L => ?_
      simp only [List.set_cons_zero, List.set_cons_succ, List.set_nil, List.eraseIdx_cons_zero, List.eraseIdx_cons_succ] at L
      simp (implicitDefEqProofs := false) only [go_sem]
      refine comma_ok.go hs L hp fun m r2 v HD L hp hcm hv => ?_
      cases hv
      have hl2 := comma_lt' hcm
      have L := L.drop (ds' := []) (List.Sublist.refl _) (by simp)
      simp (implicitDefEqProofs := false) only [go_sem]
      refine loopK_intro (m, r2, ns ++ [.mk kk tt nn aa' ks], (a, c)) ?_ ?_ ⟨g', f, L, ?_, fun h => ?_, fun h => ?_⟩
      · cases m
        · show 0 < cur.length + 1
          omega
        · show r2.length + 1 < cur.length + 1
          omega
      · simp (implicitDefEqProofs := false) only [go_sem]
      · simp only [List.length_append, List.length_cons, List.length_nil]; omega
      · simp only at h; subst h
        exact ⟨hp, show r2.length ≤ f by omega⟩
      · simp only at h; subst h
        exact hp

set_option maxHeartbeats 1000000 in
theorem declaration_ok : POk 64 30 [] declP NdR := by
  refine ⟨fun {X H ts} hs => ?_⟩
  refine pcalls_of_vc (args := [_]) Tryd.func30 c30ok (Nat.le_of_ble_eq_true rfl) ?_
  have L := hs.walk
  obtain ⟨hp, _⟩ : declP ts = declP ts ∧ True := ⟨rfl, trivial⟩
  conv at hp => rhs; unfold declP
  simp (implicitDefEqProofs := false) only [go_sem, c30]
  refine L.newP fun b1 H1 L => ?_
  simp (implicitDefEqProofs := false) only [go_sem]
  refine look_go L fun H2 L => ?_
  simp (implicitDefEqProofs := false) only [go_sem, tkC]
  refine L.newP fun b H3 L => ?_
  simp (implicitDefEqProofs := false) only [go_sem]
  refine L.stoAll 0 rfl rfl (one_agg (t := []) rfl) fun H4 L => ?_
  simp only [List.set_cons_zero, List.set_cons_succ, List.set_nil, List.eraseIdx_cons_zero, List.eraseIdx_cons_succ] at L
  simp (implicitDefEqProofs := false) only [go_sem]
  refine accept_go hs L [108, 97, 116, 116, 105, 99, 101] (fun e H5 L => ?_) fun e H5 L => ?_
  · rw [if_pos e] at hp
    simp (implicitDefEqProofs := false) only [go_sem]
    refine L.stoOne 0 rfl (by simp) rfl fun H6 L => ?_
    simp only [List.set_cons_zero, List.set_cons_succ, List.set_nil, List.eraseIdx_cons_zero, List.eraseIdx_cons_succ] at L
    simp (implicitDefEqProofs := false) only [go_sem]
    refine (take_ok 1 (by decide)).go hs L hp fun t r v H7 L hp _ hv => ?_
    cases hv
    simp (implicitDefEqProofs := false) only [go_sem, tkC, sv]
    refine L.stoOne 0 rfl (by simp) rfl fun H8 L => ?_
    simp only [List.set_cons_zero, List.set_cons_succ, List.set_nil, List.eraseIdx_cons_zero, List.eraseIdx_cons_succ] at L
    have c := L.cell 0 rfl
    simp (implicitDefEqProofs := false) only [go_sem, c]
    refine (expect_ok [61]).go hs L hp fun _ r v H9 L hp _ _ => ?_
    simp (implicitDefEqProofs := false) only [go_sem]
    refine (levL_eq 64 ▸ lat_ok 64).goN hs L hp fun kk tt nn aa ks kv r HA L hp _ => ?_
    simp (implicitDefEqProofs := false) only [go_sem]
    refine L.newS fun b5 HB L => ?_
    have L := L.rowN1 (ks := ks) (by simp)
    have L := L.rowN 0 [.mk kk tt nn aa ks] rfl
    simp only [List.set_cons_zero, List.set_cons_succ, List.set_nil, List.eraseIdx_cons_zero, List.eraseIdx_cons_succ] at L
    simp (implicitDefEqProofs := false) only [go_sem]
    refine L.stoOne 0 rfl (by simp) rfl fun HC L => ?_
    simp only [List.set_cons_zero, List.set_cons_succ, List.set_nil, List.eraseIdx_cons_zero, List.eraseIdx_cons_succ] at L
    simp (implicitDefEqProofs := false) only [go_sem]
    refine (expect_ok [59]).go hs L hp fun _ r v HD L hp _ _ => ?_
    have c := L.cell 0 rfl
    simp (implicitDefEqProofs := false) only [go_sem, c]
    refine L.stoAll 1 rfl rfl (one_agg rfl) fun HZ L => ?_
    simp only [List.set_cons_zero, List.set_cons_succ, List.set_nil, List.eraseIdx_cons_zero, List.eraseIdx_cons_succ] at L
    have c := L.cell 1 rfl
    simp (implicitDefEqProofs := false) only [go_sem, c]
    exact L.fin hp (.inl (by simp))
  rw [if_neg (nb e)] at hp
  simp (implicitDefEqProofs := false) only [go_sem]
  refine accept_go hs L [111, 98, 106, 101, 99, 116] (fun e H5 L => ?_) fun e H5 L => ?_
  · rw [if_pos e] at hp
    simp (implicitDefEqProofs := false) only [go_sem]
    refine L.stoOne 0 rfl (by simp) rfl fun H6 L => ?_
    simp only [List.set_cons_zero, List.set_cons_succ, List.set_nil, List.eraseIdx_cons_zero, List.eraseIdx_cons_succ] at L
    simp (implicitDefEqProofs := false) only [go_sem]
    refine (take_ok 1 (by decide)).go hs L hp fun t r v H7 L hp _ hv => ?_
    cases hv
    simp (implicitDefEqProofs := false) only [go_sem, tkC, sv]
    refine L.stoOne 0 rfl (by simp) rfl fun H8 L => ?_
    simp only [List.set_cons_zero, List.set_cons_succ, List.set_nil, List.eraseIdx_cons_zero, List.eraseIdx_cons_succ] at L
    have c := L.cell 0 rfl
    simp (implicitDefEqProofs := false) only [go_sem, c]
    refine (expect_ok [58]).go hs L hp fun _ r v H9 L hp _ _ => ?_
    simp (implicitDefEqProofs := false) only [go_sem]
    refine (levL_eq 64 ▸ lat_ok 64).goN hs L hp fun kk tt nn aa ks kv r HA L hp _ => ?_
    simp (implicitDefEqProofs := false) only [go_sem]
    refine L.newS fun b5 HB L => ?_
    have L := L.rowN1 (ks := ks) (by simp)
    have L := L.rowN 0 [.mk kk tt nn aa ks] rfl
    simp only [List.set_cons_zero, List.set_cons_succ, List.set_nil, List.eraseIdx_cons_zero, List.eraseIdx_cons_succ] at L
    simp (implicitDefEqProofs := false) only [go_sem]
    refine L.stoOne 0 rfl (by simp) rfl fun HC L => ?_
    simp only [List.set_cons_zero, List.set_cons_succ, List.set_nil, List.eraseIdx_cons_zero, List.eraseIdx_cons_succ] at L
    simp (implicitDefEqProofs := false) only [go_sem]
    refine (expect_ok [59]).go hs L hp fun _ r v HD L hp _ _ => ?_
    have c := L.cell 0 rfl
    simp (implicitDefEqProofs := false) only [go_sem, c]
    refine L.stoAll 1 rfl rfl (one_agg rfl) fun HZ L => ?_
    simp only [List.set_cons_zero, List.set_cons_succ, List.set_nil, List.eraseIdx_cons_zero, List.eraseIdx_cons_succ] at L
    have c := L.cell 1 rfl
    simp (implicitDefEqProofs := false) only [go_sem, c]
    exact L.fin hp (.inl (by simp))
  rw [if_neg (nb e)] at hp
  simp (implicitDefEqProofs := false) only [go_sem]
  refine accept_go hs L [117, 112, 100, 97, 116, 101] (fun e H5 L => ?_) fun e H5 L => ?_
  · rw [if_pos e] at hp
    simp (implicitDefEqProofs := false) only [go_sem]
    refine L.stoOne 0 rfl (by simp) rfl fun H6 L => ?_
    simp only [List.set_cons_zero, List.set_cons_succ, List.set_nil, List.eraseIdx_cons_zero, List.eraseIdx_cons_succ] at L
    simp (implicitDefEqProofs := false) only [go_sem]
    refine (take_ok 1 (by decide)).go hs L hp fun t r v H7 L hp _ hv => ?_
    cases hv
    simp (implicitDefEqProofs := false) only [go_sem, tkC, sv]
    refine L.stoOne 0 rfl (by simp) rfl fun H8 L => ?_
    simp only [List.set_cons_zero, List.set_cons_succ, List.set_nil, List.eraseIdx_cons_zero, List.eraseIdx_cons_succ] at L
    have c := L.cell 0 rfl
    simp (implicitDefEqProofs := false) only [go_sem, c]
    refine func_rest (nm := t.text) (G := fun l n => bd (expP [59]) fun _ => ret (.mk 4 t.text n (hd ts).at_ l)) hs L hp fun a c g' H' r' ns n x3 x4 x5 x6 x7 x8 x9 x10 x11 x12 L hp => ?_
    simp (implicitDefEqProofs := false) only [go_sem]
    refine (expect_ok [59]).go hs L hp fun _ r v HD L hp _ _ => ?_
    have L := L.rowN 0 ns rfl
    simp only [List.set_cons_zero, List.set_cons_succ, List.set_nil, List.eraseIdx_cons_zero, List.eraseIdx_cons_succ] at L
    have c := L.cell 0 rfl
    simp (implicitDefEqProofs := false) only [go_sem, c]
    refine L.stoAll 1 rfl rfl (one_agg rfl) fun HZ L => ?_
    simp only [List.set_cons_zero, List.set_cons_succ, List.set_nil, List.eraseIdx_cons_zero, List.eraseIdx_cons_succ] at L
    have c := L.cell 1 rfl
    simp (implicitDefEqProofs := false) only [go_sem, c]
    exact L.fin hp (.inl (by simp))
  rw [if_neg (nb e)] at hp
  simp (implicitDefEqProofs := false) only [go_sem]
  refine accept_go hs L [113, 117, 101, 114, 121] (fun e H5 L => ?_) fun e H5 L => ?_
  · rw [if_pos e] at hp
    simp (implicitDefEqProofs := false) only [go_sem]
    refine L.stoOne 0 rfl (by simp) rfl fun H6 L => ?_
    simp only [List.set_cons_zero, List.set_cons_succ, List.set_nil, List.eraseIdx_cons_zero, List.eraseIdx_cons_succ] at L
    simp (implicitDefEqProofs := false) only [go_sem]
    refine (take_ok 1 (by decide)).go hs L hp fun t r v H7 L hp _ hv => ?_
    cases hv
    simp (implicitDefEqProofs := false) only [go_sem, tkC, sv]
    refine L.stoOne 0 rfl (by simp) rfl fun H8 L => ?_
    simp only [List.set_cons_zero, List.set_cons_succ, List.set_nil, List.eraseIdx_cons_zero, List.eraseIdx_cons_succ] at L
    have c := L.cell 0 rfl
    simp (implicitDefEqProofs := false) only [go_sem, c]
    refine func_rest (nm := t.text) (G := fun l n => bd (expP [59]) fun _ => ret (.mk 5 t.text n (hd ts).at_ l)) hs L hp fun a c g' H' r' ns n x3 x4 x5 x6 x7 x8 x9 x10 x11 x12 L hp => ?_
    simp (implicitDefEqProofs := false) only [go_sem]
    refine (expect_ok [59]).go hs L hp fun _ r v HD L hp _ _ => ?_
    have L := L.rowN 0 ns rfl
    simp only [List.set_cons_zero, List.set_cons_succ, List.set_nil, List.eraseIdx_cons_zero, List.eraseIdx_cons_succ] at L
    have c := L.cell 0 rfl
    simp (implicitDefEqProofs := false) only [go_sem, c]
    refine L.stoAll 1 rfl rfl (one_agg rfl) fun HZ L => ?_
    simp only [List.set_cons_zero, List.set_cons_succ, List.set_nil, List.eraseIdx_cons_zero, List.eraseIdx_cons_succ] at L
    have c := L.cell 1 rfl
    simp (implicitDefEqProofs := false) only [go_sem, c]
    exact L.fin hp (.inl (by simp))
  rw [if_neg (nb e)] at hp
  simp (implicitDefEqProofs := false) only [go_sem]
  exact fail_go L hp
end Go.Proofs.YtbgjgaaobnbijaaDoor
end
section
/- The whole of a source: contracts. -/
set_option linter.unusedSimpArgs false
set_option linter.unusedVariables false
set_option maxRecDepth 8000
namespace Go.Proofs.YtbgjgaaobnbijaaDoor
open Gx Go

/-! ### the tokens of a source -/
theorem lexF_len : ∀ (f : Nat) (s : Bs) (o : Nat) (T : List Tk), lexF f s o = .ok T → T.length ≤ f ∧ T ≠ [] ∧ ∀ i t r, T.drop i = t :: r → t.kind ≠ 6 → r ≠ []
  | 0, s, o, T, h => by simp [lexF] at h
  | f + 1, s, o, T, h => by
    unfold lexF at h
    split at h
    · cases h
    · split at h
      · rename_i k t n m _ hk
        cases h
        refine ⟨by simp, by simp, fun i t' r hi hn => ?_⟩
        cases i with
        | zero => simp only [List.drop_zero, List.cons.injEq] at hi; obtain ⟨rfl, rfl⟩ := hi; exact absurd hk hn
        | succ i => simp at hi
      · rename_i k t n m _ hk
        cases e : lexF f (s.drop (skB false s + m)) (o + skB false s + m) with
        | bad c j => rw [e] at h; cases h
        | ok T' =>
          rw [e] at h
          simp only [LR.cons, LR.ok.injEq] at h
          subst h
          obtain ⟨h1, h2, h3⟩ := lexF_len f _ _ _ e
          refine ⟨by simp; omega, by simp, fun i t' r hi hn => ?_⟩
          cases i with
          | zero => simp only [List.drop_zero, List.cons.injEq] at hi; obtain ⟨rfl, rfl⟩ := hi; exact h2
          | succ i => exact h3 i t' r (by simpa using hi) hn
theorem lexT_len {s : Bs} {T : List Tk} (h : lexT s = .ok T) : T.length ≤ 65537 ∧ T ≠ [] ∧ ∀ i t r, T.drop i = t :: r → t.kind ≠ 6 → r ≠ [] := by
  unfold lexT at h
  split at h
  · cases h
  · unfold lexA at h
    obtain ⟨h1, h2, h3⟩ := lexF_len _ _ _ _ h
    exact ⟨by omega, h2, h3⟩
theorem lexF_bad : ∀ (f : Nat) (s : Bs) (o : Nat) (c : Int) (k : Nat), s.length < f → lexF f s o = .bad c k → c ≠ 0
  | 0, s, o, c, k, hl, h => by omega
  | f + 1, s, o, c, k, hl, h => by
    unfold lexF at h
    split at h
    · rename_i e he
      cases h
      exact bad_code he
    · rename_i kd t n m he
      split at h
      · cases h
      · rename_i hk
        cases e : lexF f (s.drop (skB false s + m)) (o + skB false s + m) with
        | ok T' => rw [e] at h; cases h
        | bad c' j =>
          rw [e] at h
          simp only [LR.cons, LR.bad.injEq] at h
          obtain ⟨rfl, rfl⟩ := h
          refine lexF_bad f _ _ _ _ ?_ e
          obtain ⟨h1, h2, h3⟩ := tokS_len he
          have hne : s.drop (skB false s) ≠ [] := fun q => hk (h3 q)
          have := (h2 hne).1
          have h5 := List.length_pos_iff.2 hne
          simp only [List.length_drop] at h1 h5 ⊢
          omega
theorem lexT_bad {s : Bs} {c : Int} {k : Nat} (h : lexT s = .bad c k) : c ≠ 0 := by
  unfold lexT at h
  split at h
  · cases h; decide
  · exact lexF_bad _ _ _ _ _ (by simp) h

/-- What the parser answers. -/
def srcP (p : PP Nd) (s : Bs) : Except Flt Nd := match lexT s with
  | .bad c k => .error (c, k)
  | .ok T => topP p T
def zeroN : List Value := [.int .i64 0, sv [], .int .i64 0, .int .i64 0, .slice none 0 0]
def ResR (R : Except Flt Nd) (v : Value) (H H' : Heap) : Prop := match R with
  | .error e => v = .tuple #[.agg zeroN.toArray, .agg #[.int .i64 e.1, .int .i64 e.2]]
  | .ok n => ∃ cs, v = .tuple #[.agg cs.toArray, .agg #[.int .i64 0, .int .i64 0]] ∧ RepP H' (fun x => x < H.size) n.dat cs
theorem Ps.keep {X : Cx} {H H' : Heap} {ts : List Tk} {k : Nat} {M : List Nat} (h : Ps X H ts k) (hf : Fr M H H') (hb : X.b ∉ M) (ha : ∀ b o, X.a = some ⟨b, o, none⟩ → b ∉ M) : Ps X H' ts k := by
  obtain ⟨i, h1, h2, h3⟩ := h.ex
  exact ⟨⟨i, h1.fr hf hb, h2, h3⟩, h.row.fr hf ha, h.ne, h.k64, h.cap, h.fin⟩

def pP (x : Nat) : Value := .pointer (some ⟨x, 0, none⟩)
theorem rec_ret {x y : Nat} (H : Heap) : DCalls Tryd.prog 33 #[pP x, pP y] .returning .returning H fun H'' => H'' = H := by
  refine dcalls_of_rec (args := [_, _]) (u := .returning) (m := .returning) (v := .nilIface) Tryd.func33 c33ok (Nat.le_of_ble_eq_true rfl) rfl ?_
  simp (implicitDefEqProofs := false) only [go_sem, c33, c33b, cD, posOf, putS]
theorem rec_panic {H : Heap} {x y : Nat} {xs ys : List Value} {e : Flt} (hx : Blk H x 31 xs) (hxl : xs.length = 2) (hy : Blk H y 24 ys) (hyl : ys.length = 5) (hxy : x ≠ y) :
    DCalls Tryd.prog 33 #[pP x, pP y] (.panicking (flt e)) .returning H fun H'' => Blk H'' x 31 [.int .i64 e.1, .int .i64 e.2] ∧ Blk H'' y 24 zeroN ∧ Fr [x, y] H H'' := by
  refine dcalls_of_rec (args := [_, _]) (u := .panicking (flt e)) (m := .panicking [{ v := .iface 31 (.agg #[.int .i64 e.1, .int .i64 e.2]), recovered := true }]) (v := .iface 31 (.agg #[.int .i64 e.1, .int .i64 e.2])) Tryd.func33 c33ok (Nat.le_of_ble_eq_true rfl) rfl ?_
  simp (implicitDefEqProofs := false) only [go_sem, c33, c33b, pP, cD, posOf, putS]
  refine Sto_all hx (by simp [hxl]) (by simp [Value.oneCell']) fun H1 hx1 hf1 hs1 => ?_
  have hy1 := hy.fr hf1 (by simp; omega)
  simp (implicitDefEqProofs := false) only [go_sem]
  refine Sto_all hy1 (by simp [hyl]) (by simp [Value.oneCell', sv]) fun H2 hy2 hf2 hs2 => ?_
  have hx2 := hx1.fr hf2 (by simp; omega)
  simp (implicitDefEqProofs := false) only [go_sem]
  exact ⟨hx2, hy2, (hf1.mono (by simp)).trans (hf2.mono (by simp))⟩

set_option maxHeartbeats 1000000 in
theorem prun_ok {g : Nat} {p : PP Nd} (hg : hasBody Tryd.prog g = true) (hop : POk 64 g [] p NdR) (s : Bs) (hl : s.length ≤ maxLen) {H : Heap} (hG : GlobH H) :
    HCalls Tryd.prog 24 #[sv s, .func (.func g) #[] #[]] H fun v H' => ResR (srcP p s) v H H' ∧ Fr [] H H' := by
  refine calls_of_defers (args := [_, _]) Tryd.func24 c24ok (Nat.le_of_ble_eq_true rfl) ?_
  have L : Lv [] H [] (fun _ => True) H [] [] := Lv.start (by simp) (fun _ _ _ _ => trivial)
  simp (implicitDefEqProofs := false) only [go_sem, c24, c24a]
  refine L.newP fun b1 H1 L => ?_
  simp (implicitDefEqProofs := false) only [go_sem]
  refine L.newP fun b2 H2 L => ?_
  simp (implicitDefEqProofs := false) only [go_sem]
  refine (lex_ok s hl (hG.ext L.fr)).mono ?_
  rintro r H3 ⟨hr, hf3⟩
  have L := L.ext hf3
  cases hlex : lexT s with
  | bad c k =>
    rw [hlex] at hr
    simp only [LexR] at hr
    subst hr
    have hc := lexT_bad hlex
    have hsp : srcP p s = .error (c, k) := by unfold srcP; rw [hlex]
    rw [hsp]
    simp (implicitDefEqProofs := false) only [go_sem, ftV]
    refine L.newP fun b3 H4 L => ?_
    simp (implicitDefEqProofs := false) only [go_sem]
    refine L.stoAll 0 rfl rfl (by simp [Value.oneCell']) fun H5 L => ?_
    simp only [List.set_cons_zero, List.set_cons_succ, List.set_nil, List.eraseIdx_cons_zero, List.eraseIdx_cons_succ] at L
    have c0 := L.cell 0 rfl
    have c1 := L.cell 1 rfl
    have c2 := L.cell 2 rfl
    simp (implicitDefEqProofs := false) only [go_sem, c0, hc]
    refine L.stoAll 2 rfl rfl (by simp [Value.oneCell', sv]) fun H6 L => ?_
    simp only [List.set_cons_zero, List.set_cons_succ, List.set_nil, List.eraseIdx_cons_zero, List.eraseIdx_cons_succ] at L
    have c0 := L.cell 0 rfl
    simp (implicitDefEqProofs := false) only [go_sem, c0]
    refine L.stoAll 1 rfl rfl (by simp [Value.oneCell']) fun H7 L => ?_
    simp only [List.set_cons_zero, List.set_cons_succ, List.set_nil, List.eraseIdx_cons_zero, List.eraseIdx_cons_succ] at L
    have c1 := L.cell 1 rfl
    have c2 := L.cell 2 rfl
    simp (implicitDefEqProofs := false) only [go_sem, c1, c2, defQ]
    exact ⟨by simp [ResR, zeroN, sv], L.fr⟩
  | ok T =>
    rw [hlex] at hr
    simp only [LexR] at hr
    obtain ⟨a, cT, rfl, hcap1, hcap2, hrow⟩ := hr
    have hsp : srcP p s = topP p T := by unfold srcP; rw [hlex]
    rw [hsp]
    obtain ⟨hT1, hT2, hT3⟩ := lexT_len hlex
    simp (implicitDefEqProofs := false) only [go_sem, ftV]
    obtain ⟨rb, ro, ha, hget⟩ := RowR.get hrow tkC_len (T.length - 1) (by have := List.length_pos_iff.2 hT2; omega) (by decide)
    have hk6 : (T[T.length - 1]'(by have := List.length_pos_iff.2 hT2; omega)).kind = 6 := by
      have hlt : T.length - 1 < T.length := by have := List.length_pos_iff.2 hT2; omega
      refine Decidable.byContradiction fun hn => ?_
      exact hT3 (T.length - 1) _ _ (List.drop_eq_getElem_cons hlt) hn (List.drop_eq_nil_of_le (by omega))
    have h6 := hget 0 (by decide)
    rw [Nat.add_zero] at h6
    simp only [tkC, List.getElem?_cons_zero, hk6] at h6
    have hne1 : rb ≠ b1 := by
      rintro rfl
      have c := L.cell 1 rfl
      rw [c] at h6
      have := List.mem_of_getElem? h6
      simp [sv] at this
    have hne2 : rb ≠ b2 := by
      rintro rfl
      have c := L.cell 0 rfl
      rw [c] at h6
      have := List.mem_of_getElem? h6
      simp at this
    have hrlt := cellB_lt h6
    refine NewP_intro fun H4 hn4 hf4 hs4 => ?_
    have L := L.push hf4 hn4
    simp (implicitDefEqProofs := false) only [go_sem]
    refine Sto_all hn4 rfl (by simp [Value.oneCell']) fun H5 hn5 hf5 hs5 => ?_
    have L := L.sto 0 rfl hf5 hn5
    simp only [List.set_cons_zero, List.set_cons_succ, List.set_nil, List.eraseIdx_cons_zero, List.eraseIdx_cons_succ] at L
    have hrow5 : RowR tkC H5 a T := (hrow.ext hf4).fr hf5 fun b o e hm => by
      rw [ha] at e; cases e
      simp only [List.mem_singleton] at hm
      omega
    have c := L.cell 0 rfl
    simp (implicitDefEqProofs := false) only [go_sem, c]
    refine NewP_intro fun H6 hn6 hf6 hs6 => ?_
    have hsz4 := hf4.size
    have hsz5 := hf5.size
    have hsz0 := L.fr.size
    have hps : Ps ⟨H5.size, a, cT, T⟩ H6 T 64 := ⟨⟨0, hn6, rfl, List.length_pos_iff.2 hT2⟩, hrow5.ext hf6, fun b o e => by rw [ha] at e; cases e; show rb ≠ H5.size; omega, Nat.le_refl _, by show T.length ≤ _; omega, hT3⟩
    obtain ⟨O, hO1, hO2, hO3⟩ : ∃ O : List Nat, H5.size ∈ O ∧ (∀ x ∈ O, x = H5.size ∨ (x = rb ∧ H.size ≤ rb)) ∧ (H.size ≤ rb → rb ∈ O) := by
      by_cases q : H.size ≤ rb
      · exact ⟨[H5.size, rb], by simp, fun x hx => by simp at hx; rcases hx with h | h; exact .inl h; exact .inr ⟨h, q⟩, fun _ => by simp⟩
      · exact ⟨[H5.size], by simp, fun x hx => by simp at hx; exact .inl hx, fun h => absurd h q⟩
    have hstb : ∀ {A : Heap} {ts : List Tk}, Ps ⟨H5.size, a, cT, T⟩ A ts 64 → ∀ (M : List Nat) (B : Heap), Fr M A B → (∀ x ∈ M, H.size ≤ x ∧ x ∉ O) → Ps ⟨H5.size, a, cT, T⟩ B ts 64 := fun h M B hf hM => by
      refine h.keep hf (fun hm => (hM _ hm).2 hO1) fun b o e hm => ?_
      replace e : a = some ⟨b, o, none⟩ := e
      rw [ha] at e; cases e
      exact (hM _ hm).2 (hO3 (hM _ hm).1)
    have hbs : rb ∉ [Ent.blk H3.size 31 [.int .i64 0, .int .i64 0], .blk b2 31 [.int .i64 0, .int .i64 0], .blk b1 24 [.int .i64 0, sv [], .int .i64 0, .int .i64 0, .slice none 0 0]].flatMap Ent.bs := by
      simp [Ent.bs]; omega
    have L6 : Lv [] H O (fun A => Ps ⟨H5.size, a, cT, T⟩ A T 64) H6 [.blk H3.size 31 [.int .i64 0, .int .i64 0], .blk b2 31 [.int .i64 0, .int .i64 0], .blk b1 24 [.int .i64 0, sv [], .int .i64 0, .int .i64 0, .slice none 0 0]] [] := by
      have hlo5 := fun x hx => (L.lo x hx).2.2
      have L := L.ext hf6
      refine ⟨L.fr, fun x hx => ?_, L.nd, fun x hx => ?_, fun p hp => ?_, by simp, hstb hps⟩
      · rcases hO2 x hx with q | ⟨q, q2⟩
        · subst q; exact ⟨hn6.lt, .inr (by omega)⟩
        · subst q; exact ⟨by have := hf6.size; omega, .inr q2⟩
      · obtain ⟨h1, h2, h3⟩ := L.lo x hx
        refine ⟨h1, fun hm => ?_, h3⟩
        rcases hO2 x hm with q | ⟨q, q2⟩
        · have := hlo5 x hx; omega
        · subst q; exact hbs hx
      · have h := L.ok p hp
        simp only [List.mem_cons, List.not_mem_nil, or_false] at hp
        rcases hp with rfl | rfl | rfl <;> exact h
    have step : ∀ {A B : Heap} {ts ts' : List Tk} {l : List Ent} {ds : List (Dat × List Value)}, Lv [] H O (fun A => Ps ⟨H5.size, a, cT, T⟩ A ts 64) A l ds → Fr [H5.size] A B → Ps ⟨H5.size, a, cT, T⟩ B ts' 64 → Lv [] H O (fun A => Ps ⟨H5.size, a, cT, T⟩ A ts' 64) B l ds := fun L hf h =>
      L.call (hf.mono fun x hx => .inl (by simp only [List.mem_singleton] at hx; subst hx; exact hO1)) (hstb h)
    have over : ∀ {A : Heap} {ts : List Tk} {e : Flt} {xs ys : List Value} {ds : List (Dat × List Value)} {B : Heap}, Lv [] H O (fun A => Ps ⟨H5.size, a, cT, T⟩ A ts 64) A [.blk H3.size 31 xs, .blk b2 31 [.int .i64 0, .int .i64 0], .blk b1 24 ys] ds → ys.length = 5 → topP p T = .error e → Fr [H5.size] A B →
        DCalls Tryd.prog 33 #[pP b2, pP b1] (.panicking (flt e)) .returning B fun H'' => finN (fun v H' => ResR (topP p T) v H H' ∧ Fr [] H H') H'' (resV [some (pP b1), some (pP b2)] H'' [.cell S0 (some 5), .cell S1 (some 2)]) := by
      intro A ts e xs ys ds B L hy he hf
      have L : Lv [] H O (fun _ => True) B _ ds := L.call (hf.mono fun x hx => .inl (by simp only [List.mem_singleton] at hx; subst hx; exact hO1)) (fun _ _ _ _ => trivial)
      have hne : b2 ≠ b1 := by
        have := L.nd
        simp only [List.flatMap_cons, List.flatMap_nil, Ent.bs, List.cons_append, List.nil_append, List.nodup_cons, List.mem_cons, List.not_mem_nil, or_false] at this
        exact this.2.1
      refine (rec_panic (L.get 1 rfl) rfl (L.get 2 rfl) hy hne).mono ?_
      rintro H2 ⟨hx2, hy2, hf2⟩
      have cx := hx2.cell
      have cy := hy2.cell
      have hlo := L.lo
      rw [he]
      unfold pP
      simp (implicitDefEqProofs := false) only [go_sem, cx, cy, zeroN]
      refine ⟨by simp [ResR, zeroN], L.fr.trans' hf2 fun x hx => .inr ?_⟩
      simp only [List.mem_cons, List.not_mem_nil, or_false] at hx
      rcases hx with rfl | rfl
      · exact (hlo x (by simp [Ent.bs])).1
      · exact (hlo x (by simp [Ent.bs])).1
    simp (implicitDefEqProofs := false) only [go_sem]
    refine ⟨_, _, rfl, rfl, ?_⟩
    simp (implicitDefEqProofs := false) only [go_sem, c24, c24b]
    refine ⟨hg, PCalls.mono (hop.ok hps) ?_ ?_⟩
    · rintro v H7 ⟨n, r, hp, ⟨cs, rfl, hr⟩, hs7, hf7⟩
      obtain ⟨kk, tt, nn, aa, ks⟩ := n
      obtain ⟨kv, rfl, hkv⟩ := RepP.nd_open hr
      have L := (step L6 hf7 hs7).add (L6.built hkv)
      simp (implicitDefEqProofs := false) only [go_sem]
      refine L.stoAll 2 rfl rfl (one_agg (nd_one (L.dat (kidsD ks, [kv]) (by simp)))) fun H8 L => ?_
      simp only [List.set_cons_zero, List.set_cons_succ, List.set_nil, List.eraseIdx_cons_zero, List.eraseIdx_cons_succ] at L
      simp (implicitDefEqProofs := false) only [go_sem]
      refine (look_ok L.st).mono ?_
      rintro v H9 ⟨rfl, hf9⟩
      have L := L.ext hf9
      have c2 := L.cell 2 rfl
      have c1 := L.cell 1 rfl
      by_cases k6 : (hd r).kind = 6
      · simp (implicitDefEqProofs := false) only [go_sem, tkC, k6, c2]
        refine L.stoAll 2 rfl rfl (one_agg (nd_one (L.dat (kidsD ks, [kv]) (by simp)))) fun HA L => ?_
        simp only [List.set_cons_zero, List.set_cons_succ, List.set_nil, List.eraseIdx_cons_zero, List.eraseIdx_cons_succ] at L
        simp (implicitDefEqProofs := false) only [go_sem]
        refine L.stoAll 1 rfl rfl (by simp [Value.oneCell']) fun HB L => ?_
        simp only [List.set_cons_zero, List.set_cons_succ, List.set_nil, List.eraseIdx_cons_zero, List.eraseIdx_cons_succ] at L
        simp (implicitDefEqProofs := false) only [go_sem]
        refine (rec_ret (x := b2) (y := b1) HB).mono ?_
        rintro H2 rfl
        have c2 := L.cell 2 rfl
        have c1 := L.cell 1 rfl
        simp (implicitDefEqProofs := false) only [go_sem, c1, c2]
        have ht : topP p T = .ok (.mk kk tt nn aa ks) := by unfold topP; rw [hp]; simp only [k6, if_true]
        rw [ht]
        have hk := L.dat (kidsD ks, [kv]) (by simp)
        exact ⟨⟨_, rfl, RepP.nd (hk.more fun x hx => .inl (.inl hx))⟩, L.fr⟩
      · simp (implicitDefEqProofs := false) only [go_sem, tkC, k6]
        refine (fail_ok L.st 2).mono (fun _ _ h => h.elim) ?_
        rintro ch HA ⟨rfl, hfA⟩
        refine over L rfl ?_ (fr1 hfA)
        unfold topP; rw [hp]; simp only [k6, if_false]
    · rintro ch H7 ⟨e, hp, rfl, hf7⟩
      exact over L6 rfl (by unfold topP; rw [hp]) hf7

theorem pexpr1_ok : POk 64 25 [] (exprP (loK 64)) NdR := by
  refine ⟨fun {X H ts} hs => ?_⟩
  refine pcalls_of_vc (args := [_]) Tryd.func25 c25ok (Nat.le_of_ble_eq_true rfl) ?_
  have L := hs.walk
  simp (implicitDefEqProofs := false) only [go_sem, c25]
  refine L.newP fun b1 H1 L => ?_
  simp (implicitDefEqProofs := false) only [go_sem]
  refine (lev_ok 64).1.goL hs L (P0 := exprP (loK 64) ts) rfl fun kk tt nn aa ks kv r H5 L hp => ?_
  simp (implicitDefEqProofs := false) only [go_sem]
  refine L.stoAll 0 rfl rfl (one_agg (L.one (ks := ks) (by simp))) fun HZ L => ?_
  simp only [List.set_cons_zero, List.set_cons_succ, List.set_nil, List.eraseIdx_cons_zero, List.eraseIdx_cons_succ] at L
  have c := L.cell 0 rfl
  simp (implicitDefEqProofs := false) only [go_sem, c]
  exact L.fin hp (.inl (by simp))
theorem pparse1_ok : POk 64 28 [] progP NdR := by
  refine ⟨fun {X H ts} hs => ?_⟩
  refine pcalls_of_vc (args := [_]) Tryd.func28 c28ok (Nat.le_of_ble_eq_true rfl) ?_
  have L := hs.walk
  have hlen := L.len
  simp (implicitDefEqProofs := false) only [go_sem, c28]
  refine L.newP fun b1 H1 L => ?_
  simp (implicitDefEqProofs := false) only [go_sem]
  refine L.newP fun b2 H2 L => ?_
  simp (implicitDefEqProofs := false) only [go_sem]
  refine L.stoAll 0 rfl rfl (one_agg (t := []) rfl) fun H3 L => ?_
  simp only [List.set_cons_zero, List.set_cons_succ, List.set_nil, List.eraseIdx_cons_zero, List.eraseIdx_cons_succ] at L
  have L := L.row0 24 5
  simp (implicitDefEqProofs := false) only [go_sem]
  refine vc_loop (fun (s : List Tk × List Nd × (Option Addr × Nat)) H' => ∃ g f, PLv X H s.1 64 H' [.row 24 5 (.slice s.2.2.1 s.2.1.length s.2.2.2) (s.2.1.map Nd.dat) g, .blk b2 24 [.int .i64 1, sv [], .int .i64 0, .int .i64 0, .slice s.2.2.1 s.2.1.length s.2.2.2], .blk b1 24 [.int .i64 0, sv [], .int .i64 0, .int .i64 0, .slice none 0 0]] [] ∧ s.2.1.length + s.1.length ≤ 1048576 ∧
    progP ts = bd (progF (f + 1) s.2.1) (fun l => ret (.mk 1 [] 0 0 l)) s.1 ∧ s.1.length ≤ f)
    (fun s => [(0, ptr X.b), (2, .pointer (some ⟨b1, 0, none⟩)), (3, .pointer (some ⟨b2, 0, none⟩))]) (fun s => s.1.length) (ts, [], (none, 0)) ?_ ?_ ?_
  · exact ⟨none, ts.length, L, by simpa using hlen, rfl, Nat.le_refl _⟩
  · simp (implicitDefEqProofs := false) only [go_sem, ptr]
  · rintro ⟨cur, ns, va, vc⟩ H4 ⟨g, f, L, hle, hp, hf⟩
    simp only at L hp hf hle ⊢
    have hne := L.ps.nil
    have hcur := List.length_pos_iff.2 hne
    have hp : progP ts = if (hd cur).kind = 6 then ret (Nd.mk 1 [] 0 0 ns) cur else bd declP (fun d => bd (progF f (ns ++ [d])) (fun l => ret (.mk 1 [] 0 0 l))) cur := by
      rw [hp]
      conv => lhs; unfold bd progF
      by_cases e : (hd cur).kind = 6
      · simp only [e, if_true]
      · simp only [e, if_false]
        rw [← bd_bd]; rfl
    simp (implicitDefEqProofs := false) only [go_sem]
    refine look_go L fun H5 L => ?_
    by_cases k6 : (hd cur).kind = 6
    · rw [if_pos k6] at hp
      simp (implicitDefEqProofs := false) only [go_sem, tkC, k6]
      have L := L.rowN 0 ns rfl
      simp only [List.set_cons_zero, List.set_cons_succ, List.set_nil, List.eraseIdx_cons_zero, List.eraseIdx_cons_succ] at L
      have c := L.cell 0 rfl
      simp (implicitDefEqProofs := false) only [go_sem, c]
      refine L.stoAll 1 rfl rfl (one_agg (t := []) rfl) fun HZ L => ?_
      simp only [List.set_cons_zero, List.set_cons_succ, List.set_nil, List.eraseIdx_cons_zero, List.eraseIdx_cons_succ] at L
      have c := L.cell 1 rfl
      simp (implicitDefEqProofs := false) only [go_sem, c]
      exact L.fin hp (.inl (by simp))
    · rw [if_neg k6] at hp
      have c := L.cell 1 rfl
      simp (implicitDefEqProofs := false) only [go_sem, tkC, k6, c]
      refine declaration_ok.goN hs L hp fun kk tt nn aa ks kv r1 H6 L hp he => ?_
      have hlt := declP_lt he hne
      have c := L.cell 1 rfl
      simp (implicitDefEqProofs := false) only [go_sem, c]
      refine L.newS fun bA HA L => ?_
      have c := L.cell 2 rfl
      simp (implicitDefEqProofs := false) only [go_sem, c]
      refine L.appN (ns := ns) (ks := ks) 0 rfl (by simp) (by omega) fun a c g' HB L => ?_
      simp only [List.set_cons_zero, List.set_cons_succ, List.set_nil, List.eraseIdx_cons_zero, List.eraseIdx_cons_succ] at L
      simp (implicitDefEqProofs := false) only [go_sem]
      refine L.stoOne 1 rfl (by simp) rfl fun HC L => ?_
      simp only [List.set_cons_zero, List.set_cons_succ, List.set_nil, List.eraseIdx_cons_zero, List.eraseIdx_cons_succ] at L
      simp (implicitDefEqProofs := false) only [go_sem]
      obtain ⟨f, rfl⟩ : ∃ f', f = f' + 1 := ⟨f - 1, by omega⟩
      refine loopK_intro (r1, ns ++ [.mk kk tt nn aa ks], (a, c)) ?_ ?_ ⟨g', f, L.drop (List.Sublist.refl _) (by simp), ?_, hp, show r1.length ≤ f by omega⟩
      · show r1.length < cur.length
        omega
      · simp (implicitDefEqProofs := false) only [go_sem]
      · simp only [List.length_append, List.length_cons, List.length_nil]; omega

section
variable (s : Bs) (hl : s.length ≤ maxLen) {H : Heap} (hG : GlobH H)
include hl hG
theorem pexpr_ok : HCalls Tryd.prog 16 #[sv s] H fun v H' => ResR (srcP (exprP (loK 64)) s) v H H' ∧ Fr [] H H' := by
  refine calls_of_vc (args := [_]) Tryd.func16 c16ok (Nat.le_of_ble_eq_true rfl) ?_
  have L : Lv [] H [] (fun _ => True) H [] [] := Lv.start (by simp) (fun _ _ _ _ => trivial)
  simp (implicitDefEqProofs := false) only [go_sem, c16]
  refine L.newP fun b1 H1 L => ?_
  simp (implicitDefEqProofs := false) only [go_sem]
  refine L.newP fun b2 H2 L => ?_
  simp (implicitDefEqProofs := false) only [go_sem]
  refine (prun_ok (g := 25) (by kernel_rfl) pexpr1_ok s hl (hG.ext L.fr)).mono ?_
  rintro v H3 ⟨hv, hf3⟩
  cases e : srcP (exprP (loK 64)) s with
  | error e =>
    rw [e] at hv
    simp only [ResR] at hv
    subst hv
    have L := L.ext hf3
    simp (implicitDefEqProofs := false) only [go_sem, zeroN, sv]
    refine L.stoAll 1 rfl rfl (by simp [Value.oneCell']) fun H4 L => ?_
    simp only [List.set_cons_zero, List.set_cons_succ, List.set_nil, List.eraseIdx_cons_zero, List.eraseIdx_cons_succ] at L
    simp (implicitDefEqProofs := false) only [go_sem]
    refine L.stoAll 0 rfl rfl (by simp [Value.oneCell']) fun H5 L => ?_
    simp only [List.set_cons_zero, List.set_cons_succ, List.set_nil, List.eraseIdx_cons_zero, List.eraseIdx_cons_succ] at L
    have c0 := L.cell 0 rfl
    have c1 := L.cell 1 rfl
    simp (implicitDefEqProofs := false) only [go_sem, c0, c1]
    exact ⟨by simp [ResR, zeroN, sv], L.fr⟩
  | ok n =>
    rw [e] at hv
    simp only [ResR] at hv
    obtain ⟨cs, rfl, hr⟩ := hv
    obtain ⟨kk, tt, nn, aa, ks⟩ := n
    obtain ⟨kv, rfl, hkv⟩ := RepP.nd_open hr
    have L := (L.ext hf3).add (L.built hkv)
    simp (implicitDefEqProofs := false) only [go_sem]
    refine L.stoAll 1 rfl rfl (one_agg (nd_one (L.dat (kidsD ks, [kv]) (by simp)))) fun H4 L => ?_
    simp only [List.set_cons_zero, List.set_cons_succ, List.set_nil, List.eraseIdx_cons_zero, List.eraseIdx_cons_succ] at L
    simp (implicitDefEqProofs := false) only [go_sem]
    refine L.stoAll 0 rfl rfl (by simp [Value.oneCell']) fun H5 L => ?_
    simp only [List.set_cons_zero, List.set_cons_succ, List.set_nil, List.eraseIdx_cons_zero, List.eraseIdx_cons_succ] at L
    have c0 := L.cell 0 rfl
    have c1 := L.cell 1 rfl
    simp (implicitDefEqProofs := false) only [go_sem, c0, c1]
    exact ⟨⟨_, rfl, RepP.nd ((L.dat (kidsD ks, [kv]) (by simp)).more fun x hx => .inl (.inl hx))⟩, L.fr⟩
theorem pparse_ok : HCalls Tryd.prog 21 #[sv s] H fun v H' => ResR (srcP progP s) v H H' ∧ Fr [] H H' := by
  refine calls_of_vc (args := [_]) Tryd.func21 c21ok (Nat.le_of_ble_eq_true rfl) ?_
  have L : Lv [] H [] (fun _ => True) H [] [] := Lv.start (by simp) (fun _ _ _ _ => trivial)
  simp (implicitDefEqProofs := false) only [go_sem, c21]
  refine L.newP fun b1 H1 L => ?_
  simp (implicitDefEqProofs := false) only [go_sem]
  refine L.newP fun b2 H2 L => ?_
  simp (implicitDefEqProofs := false) only [go_sem]
  refine (prun_ok (g := 28) (by kernel_rfl) pparse1_ok s hl (hG.ext L.fr)).mono ?_
  rintro v H3 ⟨hv, hf3⟩
  cases e : srcP progP s with
  | error e =>
    rw [e] at hv
    simp only [ResR] at hv
    subst hv
    have L := L.ext hf3
    simp (implicitDefEqProofs := false) only [go_sem, zeroN, sv]
    refine L.stoAll 1 rfl rfl (by simp [Value.oneCell']) fun H4 L => ?_
    simp only [List.set_cons_zero, List.set_cons_succ, List.set_nil, List.eraseIdx_cons_zero, List.eraseIdx_cons_succ] at L
    simp (implicitDefEqProofs := false) only [go_sem]
    refine L.stoAll 0 rfl rfl (by simp [Value.oneCell']) fun H5 L => ?_
    simp only [List.set_cons_zero, List.set_cons_succ, List.set_nil, List.eraseIdx_cons_zero, List.eraseIdx_cons_succ] at L
    have c0 := L.cell 0 rfl
    have c1 := L.cell 1 rfl
    simp (implicitDefEqProofs := false) only [go_sem, c0, c1]
    exact ⟨by simp [ResR, zeroN, sv], L.fr⟩
  | ok n =>
    rw [e] at hv
    simp only [ResR] at hv
    obtain ⟨cs, rfl, hr⟩ := hv
    obtain ⟨kk, tt, nn, aa, ks⟩ := n
    obtain ⟨kv, rfl, hkv⟩ := RepP.nd_open hr
    have L := (L.ext hf3).add (L.built hkv)
    simp (implicitDefEqProofs := false) only [go_sem]
    refine L.stoAll 1 rfl rfl (one_agg (nd_one (L.dat (kidsD ks, [kv]) (by simp)))) fun H4 L => ?_
    simp only [List.set_cons_zero, List.set_cons_succ, List.set_nil, List.eraseIdx_cons_zero, List.eraseIdx_cons_succ] at L
    simp (implicitDefEqProofs := false) only [go_sem]
    refine L.stoAll 0 rfl rfl (by simp [Value.oneCell']) fun H5 L => ?_
    simp only [List.set_cons_zero, List.set_cons_succ, List.set_nil, List.eraseIdx_cons_zero, List.eraseIdx_cons_succ] at L
    have c0 := L.cell 0 rfl
    have c1 := L.cell 1 rfl
    simp (implicitDefEqProofs := false) only [go_sem, c0, c1]
    exact ⟨⟨_, rfl, RepP.nd ((L.dat (kidsD ks, [kv]) (by simp)).more fun x hx => .inl (.inl hx))⟩, L.fr⟩
end
end Go.Proofs.YtbgjgaaobnbijaaDoor
end
section
/- Trees compared and counted: contracts. -/
set_option linter.unusedSimpArgs false
set_option linter.unusedVariables false
set_option maxRecDepth 8000
namespace Go.Proofs.YtbgjgaaobnbijaaDoor
open Gx Go

mutual
def sameN : Nd → Nd → Bool
  | .mk k t n _ ks, .mk k' t' n' _ ks' => decide (k = k') && decide (t = t') && decide (n = n') && decide (ks.length = ks'.length) && sameL ks ks'
def sameL : List Nd → List Nd → Bool
  | x :: xs, y :: ys => sameN x y && sameL xs ys
  | _, _ => true
end
mutual
def eqN : Nd → Nd → Bool
  | .mk k t n a ks, .mk k' t' n' a' ks' => decide (k = k') && decide (t = t') && decide (n = n') && decide (a = a') && decide (ks.length = ks'.length) && eqL ks ks'
def eqL : List Nd → List Nd → Bool
  | x :: xs, y :: ys => eqN x y && eqL xs ys
  | _, _ => true
end
mutual
def sizeN : Nd → Nat
  | .mk _ _ _ _ ks => sizeL ks + 1
def sizeL : List Nd → Nat
  | [] => 0
  | x :: xs => sizeN x + sizeL xs
end
theorem sizeL_get : ∀ (l : List Nd) (i : Nat) (h : i < l.length), sizeN l[i] ≤ sizeL l
  | x :: xs, 0, _ => by simp only [List.getElem_cons_zero, sizeL]; omega
  | x :: xs, i + 1, h => by
    have := sizeL_get xs i (by simpa using h)
    simp only [List.getElem_cons_succ, sizeL]; omega
/-- The cells of a tree, in memory that is read. -/
def NA (H : Heap) (n : Nd) (v : Value) : Prop := ∃ cs, v = .agg cs.toArray ∧ Rep H [] n.dat cs
theorem NA.ext {H H' : Heap} {n : Nd} {v : Value} (h : NA H n v) (hf : Fr [] H H') : NA H' n v := by
  obtain ⟨cs, h1, h2⟩ := h
  exact ⟨cs, h1, h2.ext hf⟩
theorem NA.open {H : Heap} {k n a : Int} {t : Bs} {ks : List Nd} {v : Value} (h : NA H (.mk k t n a ks) v) : ∃ kv, v = .agg #[.int .i64 k, sv t, .int .i64 n, .int .i64 a, kv] ∧ Rep H [] (kidsD ks) [kv] := by
  obtain ⟨cs, rfl, h2⟩ := h
  obtain ⟨kv, rfl, h3⟩ := nd_rep.1 h2
  exact ⟨kv, rfl, h3⟩
/-- A child in its row. -/
theorem kid_at {H : Heap} {ks : List Nd} {v : Value} (h : Rep H [] (kidsD ks) [v]) (j : Nat) (hj : j < ks.length) :
    ∃ b o c k t n a kks kv, v = .slice (some ⟨b, o, none⟩) ks.length c ∧ ks[j] = .mk k t n a kks ∧ (cellB H b (o + j * 5 + 0) = some (.int .i64 k) ∧ cellB H b (o + j * 5 + 1) = some (sv t) ∧ cellB H b (o + j * 5 + 2) = some (.int .i64 n) ∧ cellB H b (o + j * 5 + 3) = some (.int .i64 a) ∧ cellB H b (o + j * 5 + 4) = some kv) ∧ Rep H [] (kidsD kks) [kv] := by
  obtain ⟨b, o, c, x, h1, _, h3, h4, h5⟩ := Rep.at h j (by simpa using hj) (by decide)
  rw [List.getElem_map] at h5
  rw [List.length_map] at h1
  cases e : ks[j] with
  | mk k t n a kks =>
    rw [e] at h5
    obtain ⟨kv, rfl, h6⟩ := nd_rep.1 h5
    exact ⟨b, o, c, k, t, n, a, kks, kv, h1, rfl, ⟨h4 0 (by decide), h4 1 (by decide), h4 2 (by decide), h4 3 (by decide), h4 4 (by decide)⟩, h6⟩
theorem NA.mk {H : Heap} {k n a : Int} {t : Bs} {ks : List Nd} {kv : Value} (h : Rep H [] (kidsD ks) [kv]) : NA H (.mk k t n a ks) (.agg #[.int .i64 k, sv t, .int .i64 n, .int .i64 a, kv]) := ⟨_, rfl, nd_rep.2 ⟨kv, rfl, h⟩⟩
theorem kids_len {H : Heap} {ks : List Nd} {v : Value} (h : Rep H [] (kidsD ks) [v]) : ∃ a c, v = .slice a ks.length c ∧ ks.length ≤ c ∧ ks.length ≤ maxLen := by
  obtain ⟨a, c, h1, h2, h3⟩ := Rep.slice h
  simp only [List.length_map] at h1 h2
  exact ⟨a, c, h1, h2, by omega⟩
theorem wrap_add (a b : Int) : IntKind.i64.wrap (IntKind.i64.wrap a + IntKind.i64.wrap b) = IntKind.i64.wrap (a + b) := by
  simp only [IntKind.wrap, IntKind.bits, IntKind.signed]
  simp
  omega
theorem wrap_at {i n : Nat} (h : i < n) (hn : n ≤ maxLen) : IntKind.i64.wrap ((i : Int) + 1) = ((i + 1 : Nat) : Int) := by
  unfold maxLen at hn
  rw [wrap_i64_id _ (by omega) (by omega)]; omega
theorem L0 (H : Heap) : Lv [] H [] (fun _ => True) H [] [] := Lv.start (by simp) (fun _ _ _ _ => trivial)

theorem sameL_drop : ∀ (l m : List Nd) (i : Nat), (∀ j (h : j < l.length) (h' : j < m.length), j < i → sameN l[j] m[j] = true) → sameL l m = sameL (l.drop i) (m.drop i)
  | l, m, 0, _ => rfl
  | [], m, i + 1, _ => by simp [sameL]
  | x :: l, [], i + 1, _ => by simp [sameL]
  | x :: l, y :: m, i + 1, h => by
    have h0 := h 0 (by simp) (by simp) (by omega)
    simp only [List.getElem_cons_zero] at h0
    simp only [sameL, h0, Bool.true_and, List.drop_succ_cons]
    exact sameL_drop l m i fun j h1 h2 h3 => by
      have := h (j + 1) (by simp; omega) (by simp; omega) (by omega)
      simpa using this

theorem eqL_drop : ∀ (l m : List Nd) (i : Nat), (∀ j (h : j < l.length) (h' : j < m.length), j < i → eqN l[j] m[j] = true) → eqL l m = eqL (l.drop i) (m.drop i)
  | l, m, 0, _ => rfl
  | [], m, i + 1, _ => by simp [eqL]
  | x :: l, [], i + 1, _ => by simp [eqL]
  | x :: l, y :: m, i + 1, h => by
    have h0 := h 0 (by simp) (by simp) (by omega)
    simp only [List.getElem_cons_zero] at h0
    simp only [eqL, h0, Bool.true_and, List.drop_succ_cons]
    exact eqL_drop l m i fun j h1 h2 h3 => by
      have := h (j + 1) (by simp; omega) (by simp; omega) (by omega)
      simpa using this

theorem same_ok : ∀ (N : Nat) (x y : Nd), sizeN x ≤ N → ∀ {H : Heap} {vx vy : Value}, NA H x vx → NA H y vy → HCalls Tryd.prog 12 #[vx, vy] H fun v H' => v = .bool (sameN x y) ∧ Fr [] H H' := by
  intro N
  induction N with
  | zero =>
    intro x y hx
    cases x; simp only [sizeN] at hx; omega
  | succ N ih =>
  intro x y hx H vx vy hax hay
  obtain ⟨k, t, n, a, ks⟩ := x
  obtain ⟨k', t', n', a', ks'⟩ := y
  obtain ⟨kv, rfl, hk⟩ := hax.open
  obtain ⟨kv', rfl, hk'⟩ := hay.open
  obtain ⟨aa, cc, rfl, hcc, hmx⟩ := kids_len hk
  obtain ⟨aa', cc', rfl, hcc', hmx'⟩ := kids_len hk'
  refine calls_of_vc (args := [_, _]) Tryd.func12 c12ok (Nat.le_of_ble_eq_true rfl) ?_
  have L := L0 H
  simp (implicitDefEqProofs := false) only [go_sem, c12]
  refine L.newP fun bx H1 L => ?_
  simp (implicitDefEqProofs := false) only [go_sem]
  refine L.newP fun bb H2 L => ?_
  have ca := L.cell 1 rfl
  have cb := L.cell 0 rfl
  by_cases ek : k = k'
  case neg =>
    have hs : sameN (.mk k t n a ks) (.mk k' t' n' a' ks') = false := by simp [sameN, ek]
    rw [hs]
    simp (implicitDefEqProofs := false) only [go_sem, ca, cb, ba_eq, ek, sv]
    exact L.fr
  by_cases et : t = t'
  case neg =>
    have hs : sameN (.mk k t n a ks) (.mk k' t' n' a' ks') = false := by simp [sameN, et]
    rw [hs]
    simp (implicitDefEqProofs := false) only [go_sem, ca, cb, ek, ba_eq, et, sv]
    exact L.fr
  by_cases en : n = n'
  case neg =>
    have hs : sameN (.mk k t n a ks) (.mk k' t' n' a' ks') = false := by simp [sameN, en]
    rw [hs]
    simp (implicitDefEqProofs := false) only [go_sem, ca, cb, ek, et, ba_eq, en, sv]
    exact L.fr
  by_cases el : ks.length = ks'.length
  case neg =>
    have hs : sameN (.mk k t n a ks) (.mk k' t' n' a' ks') = false := by simp [sameN, el]
    rw [hs]
    have el' : ¬ ((ks.length : Int) = (ks'.length : Int)) := by omega
    simp (implicitDefEqProofs := false) only [go_sem, ca, cb, ek, et, en, ba_eq, el', sv]
    exact L.fr
  have hs : sameN (.mk k t n a ks) (.mk k' t' n' a' ks') = sameL ks ks' := by simp [sameN, ek, et, en, el]
  rw [hs]
  have el' : (ks.length : Int) = (ks'.length : Int) := by omega
  simp (implicitDefEqProofs := false) only [go_sem, ca, cb, ek, et, en, ba_eq, el', sv]
  refine vc_loop (fun (i : Nat) H' => i ≤ ks.length ∧ Lv [] H [] (fun _ => True) H' [.blk bb 24 [.int .i64 k', sv t', .int .i64 n', .int .i64 a', .slice aa' ks'.length cc'], .blk bx 24 [.int .i64 k, sv t, .int .i64 n, .int .i64 a, .slice aa ks.length cc]] [] ∧ ∀ j (h : j < ks.length) (h' : j < ks'.length), j < i → sameN ks[j] ks'[j] = true)
    (fun i => [(2, .pointer (some ⟨bx, 0, none⟩)), (3, .pointer (some ⟨bb, 0, none⟩)), (36, .int .i64 ks'.length), (37, .int .i64 i)]) (fun i => ks.length - i) 0 ?_ ?_ ?_
  · refine ⟨Nat.zero_le _, ?_, fun j _ _ h => by omega⟩
    exact L
  · simp (implicitDefEqProofs := false) only [go_sem, el']
  · rintro i H3 ⟨hi, L, hall⟩
    have ca := L.cell 1 rfl
    have cb := L.cell 0 rfl
    rcases Nat.lt_or_ge i ks.length with hlt | hge
    · have h0 : (0 : Int) ≤ (i : Int) := by omega
      have h1 : (i : Int) < (ks.length : Int) := by omega
      have h2 : (i : Int) < (ks'.length : Int) := by omega
      have hw := wrap_at hlt hmx
      obtain ⟨b, o, c, k1, t1, n1, a1, kks, kv1, e1, e2, ⟨q0, q1, q2, q3, q4⟩, hr⟩ := kid_at (hk.ext L.fr) i hlt
      obtain ⟨b', o', c', k2, t2, n2, a2, kks', kv2, e1', e2', ⟨p0, p1, p2, p3, p4⟩, hr'⟩ := kid_at (hk'.ext L.fr) i (by omega)
      cases e1; cases e1'
      simp only [Nat.add_zero] at q0 p0
      have hsz := sizeL_get ks i hlt
      simp only [sizeN] at hx
      have hcall := ih ks[i] ks'[i] (by omega) (H := H3) (e2 ▸ NA.mk hr) (e2' ▸ NA.mk hr')
      unfold sv at *
      simp (implicitDefEqProofs := false) only [go_sem, h0, h1, h2, ca, cb, q0, q1, q2, q3, q4, p0, p1, p2, p3, p4]
      refine hcall.mono ?_
      rintro v H4 ⟨rfl, hf⟩
      have L := L.ext hf
      cases e : sameN ks[i] ks'[i] with
      | false =>
        have hno : sameL ks ks' = false := by
          rw [sameL_drop ks ks' i fun j h h' hj => hall j h h' hj, List.drop_eq_getElem_cons hlt, List.drop_eq_getElem_cons (by omega : i < ks'.length)]
          simp [sameL, e]
        rw [hno]
        simp (implicitDefEqProofs := false) only [go_sem]
        exact L.fr
      | true =>
        simp (implicitDefEqProofs := false) only [go_sem, hw]
        refine loopK_intro (i + 1) ?_ ?_ ⟨by omega, L, fun j h h' hj => ?_⟩
        · show ks.length - (i + 1) < ks.length - i
          omega
        · simp (implicitDefEqProofs := false) only [go_sem, hw]
        · rcases Nat.lt_or_ge j i with q | q
          · exact hall j h h' q
          · obtain rfl : j = i := by omega
            exact e
    · have hfin : sameL ks ks' = true := by
        rw [sameL_drop ks ks' i fun j h h' hj => hall j h h' hj, List.drop_eq_nil_of_le hge]
        simp [sameL]
      rw [hfin]
      have h1 : ¬ ((i : Int) < (ks.length : Int)) := by omega
      have h2 : ¬ ((i : Int) < (ks'.length : Int)) := by omega
      simp (implicitDefEqProofs := false) only [go_sem, h1, h2, ca, cb]
      exact L.fr

theorem rsame_ok : ∀ (N : Nat) (x y : Nd), sizeN x ≤ N → ∀ {H : Heap} {vx vy : Value}, NA H x vx → NA H y vy → HCalls Tryd.prog 13 #[vx, vy] H fun v H' => v = .bool (sameN x y) ∧ Fr [] H H' := by
  intro N
  induction N with
  | zero =>
    intro x y hx
    cases x; simp only [sizeN] at hx; omega
  | succ N ih =>
  intro x y hx H vx vy hax hay
  obtain ⟨k, t, n, a, ks⟩ := x
  obtain ⟨k', t', n', a', ks'⟩ := y
  obtain ⟨kv, rfl, hk⟩ := hax.open
  obtain ⟨kv', rfl, hk'⟩ := hay.open
  obtain ⟨aa, cc, rfl, hcc, hmx⟩ := kids_len hk
  obtain ⟨aa', cc', rfl, hcc', hmx'⟩ := kids_len hk'
  refine calls_of_vc (args := [_, _]) Tryd.func13 c13ok (Nat.le_of_ble_eq_true rfl) ?_
  have L := L0 H
  simp (implicitDefEqProofs := false) only [go_sem, c13]
  refine L.newP fun bx H1 L => ?_
  simp (implicitDefEqProofs := false) only [go_sem]
  refine L.newP fun bb H2 L => ?_
  have ca := L.cell 1 rfl
  have cb := L.cell 0 rfl
  by_cases ek : k = k'
  case neg =>
    have hs : sameN (.mk k t n a ks) (.mk k' t' n' a' ks') = false := by simp [sameN, ek]
    rw [hs]
    simp (implicitDefEqProofs := false) only [go_sem, ca, cb, ba_eq, ek, sv]
    exact L.fr
  by_cases et : t = t'
  case neg =>
    have hs : sameN (.mk k t n a ks) (.mk k' t' n' a' ks') = false := by simp [sameN, et]
    rw [hs]
    simp (implicitDefEqProofs := false) only [go_sem, ca, cb, ek, ba_eq, et, sv]
    exact L.fr
  by_cases en : n = n'
  case neg =>
    have hs : sameN (.mk k t n a ks) (.mk k' t' n' a' ks') = false := by simp [sameN, en]
    rw [hs]
    simp (implicitDefEqProofs := false) only [go_sem, ca, cb, ek, et, ba_eq, en, sv]
    exact L.fr
  by_cases el : ks.length = ks'.length
  case neg =>
    have hs : sameN (.mk k t n a ks) (.mk k' t' n' a' ks') = false := by simp [sameN, el]
    rw [hs]
    have el' : ¬ ((ks.length : Int) = (ks'.length : Int)) := by omega
    simp (implicitDefEqProofs := false) only [go_sem, ca, cb, ek, et, en, ba_eq, el', sv]
    exact L.fr
  have hs : sameN (.mk k t n a ks) (.mk k' t' n' a' ks') = sameL ks ks' := by simp [sameN, ek, et, en, el]
  rw [hs]
  have el' : (ks.length : Int) = (ks'.length : Int) := by omega
  simp (implicitDefEqProofs := false) only [go_sem, ca, cb, ek, et, en, ba_eq, el', sv]
  refine vc_loop (fun (i : Nat) H' => i ≤ ks.length ∧ Lv [] H [] (fun _ => True) H' [.blk bb 24 [.int .i64 k', sv t', .int .i64 n', .int .i64 a', .slice aa' ks'.length cc'], .blk bx 24 [.int .i64 k, sv t, .int .i64 n, .int .i64 a, .slice aa ks.length cc]] [] ∧ ∀ j (h : j < ks.length) (h' : j < ks'.length), j < i → sameN ks[j] ks'[j] = true)
    (fun i => [(2, .pointer (some ⟨bx, 0, none⟩)), (3, .pointer (some ⟨bb, 0, none⟩)), (5, .int .i64 i)]) (fun i => ks.length - i) 0 ?_ ?_ ?_
  · refine ⟨Nat.zero_le _, ?_, fun j _ _ h => by omega⟩
    exact L
  · simp (implicitDefEqProofs := false) only [go_sem, el']
  · rintro i H3 ⟨hi, L, hall⟩
    have ca := L.cell 1 rfl
    have cb := L.cell 0 rfl
    rcases Nat.lt_or_ge i ks.length with hlt | hge
    · have h0 : (0 : Int) ≤ (i : Int) := by omega
      have h1 : (i : Int) < (ks.length : Int) := by omega
      have h2 : (i : Int) < (ks'.length : Int) := by omega
      have hw := wrap_at hlt hmx
      obtain ⟨b, o, c, k1, t1, n1, a1, kks, kv1, e1, e2, ⟨q0, q1, q2, q3, q4⟩, hr⟩ := kid_at (hk.ext L.fr) i hlt
      obtain ⟨b', o', c', k2, t2, n2, a2, kks', kv2, e1', e2', ⟨p0, p1, p2, p3, p4⟩, hr'⟩ := kid_at (hk'.ext L.fr) i (by omega)
      cases e1; cases e1'
      simp only [Nat.add_zero] at q0 p0
      have hsz := sizeL_get ks i hlt
      simp only [sizeN] at hx
      have hcall := ih ks[i] ks'[i] (by omega) (H := H3) (e2 ▸ NA.mk hr) (e2' ▸ NA.mk hr')
      unfold sv at *
      simp (implicitDefEqProofs := false) only [go_sem, h0, h1, h2, ca, cb, q0, q1, q2, q3, q4, p0, p1, p2, p3, p4]
      refine hcall.mono ?_
      rintro v H4 ⟨rfl, hf⟩
      have L := L.ext hf
      cases e : sameN ks[i] ks'[i] with
      | false =>
        have hno : sameL ks ks' = false := by
          rw [sameL_drop ks ks' i fun j h h' hj => hall j h h' hj, List.drop_eq_getElem_cons hlt, List.drop_eq_getElem_cons (by omega : i < ks'.length)]
          simp [sameL, e]
        rw [hno]
        simp (implicitDefEqProofs := false) only [go_sem]
        exact L.fr
      | true =>
        simp (implicitDefEqProofs := false) only [go_sem, hw]
        refine loopK_intro (i + 1) ?_ ?_ ⟨by omega, L, fun j h h' hj => ?_⟩
        · show ks.length - (i + 1) < ks.length - i
          omega
        · simp (implicitDefEqProofs := false) only [go_sem, hw]
        · rcases Nat.lt_or_ge j i with q | q
          · exact hall j h h' q
          · obtain rfl : j = i := by omega
            exact e
    · have hfin : sameL ks ks' = true := by
        rw [sameL_drop ks ks' i fun j h h' hj => hall j h h' hj, List.drop_eq_nil_of_le hge]
        simp [sameL]
      rw [hfin]
      have h1 : ¬ ((i : Int) < (ks.length : Int)) := by omega
      have h2 : ¬ ((i : Int) < (ks'.length : Int)) := by omega
      simp (implicitDefEqProofs := false) only [go_sem, h1, h2, ca, cb]
      exact L.fr


theorem sizeL_take (l : List Nd) (i : Nat) (h : i < l.length) : sizeL (l.take (i + 1)) = sizeL (l.take i) + sizeN l[i] := by
  induction l generalizing i with
  | nil => simp at h
  | cons x xs ih =>
    cases i with
    | zero => simp [sizeL]
    | succ i =>
      have := ih i (by simpa using h)
      simp only [List.take_succ_cons, sizeL, List.getElem_cons_succ, this]; omega
theorem sizeL_all (l : List Nd) : sizeL (l.take l.length) = sizeL l := by rw [List.take_length]

theorem sizeL_le (l : List Nd) (i : Nat) : sizeL (l.take i) ≤ sizeL l := by
  induction l generalizing i with
  | nil => simp
  | cons x xs ih =>
    cases i with
    | zero => simp [sizeL]
    | succ i =>
      have := ih i
      simp only [List.take_succ_cons, sizeL]; omega

theorem size_ok : ∀ (N : Nat) (x : Nd), sizeN x ≤ N → ∀ {H : Heap} {vx : Value}, NA H x vx → HCalls Tryd.prog 14 #[vx] H fun v H' => v = .int .i64 (IntKind.i64.wrap (sizeN x)) ∧ Fr [] H H' := by
  intro N
  induction N with
  | zero =>
    intro x hx
    cases x; simp only [sizeN] at hx; omega
  | succ N ih =>
  intro x hx H vx hax
  obtain ⟨k, t, n, a, ks⟩ := x
  obtain ⟨kv, rfl, hk⟩ := hax.open
  obtain ⟨aa, cc, rfl, hcc, hmx⟩ := kids_len hk
  refine calls_of_vc (args := [_]) Tryd.func14 c14ok (Nat.le_of_ble_eq_true rfl) ?_
  have L := L0 H
  simp (implicitDefEqProofs := false) only [go_sem, c14]
  refine L.newP fun bx H1 L => ?_
  have ca := L.cell 0 rfl
  simp (implicitDefEqProofs := false) only [go_sem, ca]
  refine vc_loop (fun (i : Nat) H' => i ≤ ks.length ∧ Lv [] H [] (fun _ => True) H' [.blk bx 24 [.int .i64 k, sv t, .int .i64 n, .int .i64 a, .slice aa ks.length cc]] [])
    (fun i => [(3, .int .i64 (IntKind.i64.wrap ((1 + sizeL (ks.take i) : Nat) : Int))), (7, .slice aa ks.length cc), (8, .int .i64 ks.length), (9, .int .i64 i)]) (fun i => ks.length - i) 0 ?_ ?_ ?_
  · exact ⟨Nat.zero_le _, L⟩
  · simp (implicitDefEqProofs := false) only [go_sem, sizeL, List.take_zero]
    exact rfl
  · rintro i H3 ⟨hi, L⟩
    have ca := L.cell 0 rfl
    rcases Nat.lt_or_ge i ks.length with hlt | hge
    · have h0 : (0 : Int) ≤ (i : Int) := by omega
      have h1 : (i : Int) < (ks.length : Int) := by omega
      have hw := wrap_at hlt hmx
      obtain ⟨b, o, c, k1, t1, n1, a1, kks, kv1, e1, e2, ⟨q0, q1, q2, q3, q4⟩, hr⟩ := kid_at (hk.ext L.fr) i hlt
      cases e1
      simp only [Nat.add_zero] at q0
      have hsz := sizeL_get ks i hlt
      simp only [sizeN] at hx
      unfold sv at *
      simp (implicitDefEqProofs := false) only [go_sem, h0, h1, ca, q0, q1, q2, q3, q4]
      refine NewP_intro fun H5 hn5 hf5 _ => ?_
      have L5 := L.push hf5 hn5
      simp (implicitDefEqProofs := false) only [go_sem]
      refine Sto_all hn5 rfl (one_agg (nd_one (RepP.of_rep hr))) fun H6 hn6 hf6 _ => ?_
      have L := L5.sto 0 rfl hf6 hn6
      simp only [List.set_cons_zero, List.set_cons_succ, List.set_nil, List.eraseIdx_cons_zero, List.eraseIdx_cons_succ] at L
      have hr' := hr.ext (hf5.trans' hf6 (by simp) : Fr [] H3 H6)
      have ck := L.cell 0 rfl
      have hcall := ih ks[i] (by omega) (H := H6) (e2 ▸ (NA.mk hr').ext (Fr.refl [] _))
      unfold sv at *
      simp (implicitDefEqProofs := false) only [go_sem, ck]
      refine hcall.mono ?_
      rintro v H4 ⟨rfl, hf⟩
      have L := L.ext hf
      have hs := sizeL_take ks i hlt
      have hwa := wrap_add (1 + sizeL (ks.take i) : Nat) (sizeN ks[i])
      have hsum : ((1 + sizeL (ks.take i) : Nat) : Int) + (sizeN ks[i] : Int) = ((1 + sizeL (ks.take (i + 1)) : Nat) : Int) := by rw [hs]; omega
      rw [hsum] at hwa
      simp (implicitDefEqProofs := false) only [go_sem, hw, hwa]
      refine loopK_intro (i + 1) ?_ ?_ ⟨by omega, L.drop (List.sublist_cons_self _ _) (by simp)⟩
      · show ks.length - (i + 1) < ks.length - i
        omega
      · simp (implicitDefEqProofs := false) only [go_sem, hw, hwa]
    · have h1 : ¬ ((i : Int) < (ks.length : Int)) := by omega
      obtain rfl : i = ks.length := by omega
      simp (implicitDefEqProofs := false) only [go_sem, h1, ca]
      rw [sizeL_all]
      refine ⟨?_, L.fr⟩
      have e : 1 + sizeL ks = sizeL ks + 1 := by omega
      simp only [sizeN, e]

theorem rsize_ok : ∀ (N : Nat) (x : Nd), sizeN x ≤ N → ∀ {H : Heap} {vx : Value}, NA H x vx → HCalls Tryd.prog 15 #[vx] H fun v H' => v = .int .i64 (IntKind.i64.wrap (sizeN x)) ∧ Fr [] H H' := by
  intro N
  induction N with
  | zero =>
    intro x hx
    cases x; simp only [sizeN] at hx; omega
  | succ N ih =>
  intro x hx H vx hax
  obtain ⟨k, t, n, a, ks⟩ := x
  obtain ⟨kv, rfl, hk⟩ := hax.open
  obtain ⟨aa, cc, rfl, hcc, hmx⟩ := kids_len hk
  refine calls_of_vc (args := [_]) Tryd.func15 c15ok (Nat.le_of_ble_eq_true rfl) ?_
  have L := L0 H
  simp (implicitDefEqProofs := false) only [go_sem, c15]
  refine L.newP fun bx H1 L => ?_
  have ca := L.cell 0 rfl
  simp (implicitDefEqProofs := false) only [go_sem, ca]
  refine vc_loop (fun (i : Nat) H' => i ≤ ks.length ∧ Lv [] H [] (fun _ => True) H' [.blk bx 24 [.int .i64 k, sv t, .int .i64 n, .int .i64 a, .slice aa ks.length cc]] [])
    (fun i => [(1, .pointer (some ⟨bx, 0, none⟩)), (3, .int .i64 (IntKind.i64.wrap ((1 + sizeL (ks.take i) : Nat) : Int))), (4, .int .i64 i)]) (fun i => ks.length - i) 0 ?_ ?_ ?_
  · exact ⟨Nat.zero_le _, L⟩
  · simp (implicitDefEqProofs := false) only [go_sem, sizeL, List.take_zero]
    exact rfl
  · rintro i H3 ⟨hi, L⟩
    have ca := L.cell 0 rfl
    rcases Nat.lt_or_ge i ks.length with hlt | hge
    · have h0 : (0 : Int) ≤ (i : Int) := by omega
      have h1 : (i : Int) < (ks.length : Int) := by omega
      have hw := wrap_at hlt hmx
      obtain ⟨b, o, c, k1, t1, n1, a1, kks, kv1, e1, e2, ⟨q0, q1, q2, q3, q4⟩, hr⟩ := kid_at (hk.ext L.fr) i hlt
      cases e1
      simp only [Nat.add_zero] at q0
      have hsz := sizeL_get ks i hlt
      simp only [sizeN] at hx
      have hcall := ih ks[i] (by omega) (H := H3) (e2 ▸ NA.mk hr)
      unfold sv at *
      simp (implicitDefEqProofs := false) only [go_sem, h0, h1, ca, q0, q1, q2, q3, q4]
      refine hcall.mono ?_
      rintro v H4 ⟨rfl, hf⟩
      have L := L.ext hf
      have hs := sizeL_take ks i hlt
      have hwa := wrap_add (1 + sizeL (ks.take i) : Nat) (sizeN ks[i])
      have hsum : ((1 + sizeL (ks.take i) : Nat) : Int) + (sizeN ks[i] : Int) = ((1 + sizeL (ks.take (i + 1)) : Nat) : Int) := by rw [hs]; omega
      rw [hsum] at hwa
      simp (implicitDefEqProofs := false) only [go_sem, hw, hwa]
      refine loopK_intro (i + 1) ?_ ?_ ⟨by omega, L⟩
      · show ks.length - (i + 1) < ks.length - i
        omega
      · simp (implicitDefEqProofs := false) only [go_sem, hw, hwa]
    · have h1 : ¬ ((i : Int) < (ks.length : Int)) := by omega
      obtain rfl : i = ks.length := by omega
      simp (implicitDefEqProofs := false) only [go_sem, h1, ca]
      rw [sizeL_all]
      refine ⟨?_, L.fr⟩
      have e : 1 + sizeL ks = sizeL ks + 1 := by omega
      simp only [sizeN, e]

theorem room_ok : ∀ (N : Nat) (x : Nd), sizeN x ≤ N → ∀ {H : Heap} {vx : Value} {m : Nat}, m < 2^62 → NA H x vx → HCalls Tryd.prog 23 #[vx, .int .i64 m] H fun v H' => v = .int .i64 (if sizeN x ≤ m then (m : Int) - sizeN x else -1) ∧ Fr [] H H' := by
  intro N
  induction N with
  | zero =>
    intro x hx
    cases x; simp only [sizeN] at hx; omega
  | succ N ih =>
  intro x hx H vx m hm hax
  obtain ⟨k, t, n, a, ks⟩ := x
  obtain ⟨kv, rfl, hk⟩ := hax.open
  obtain ⟨aa, cc, rfl, hcc, hmx⟩ := kids_len hk
  refine calls_of_vc (args := [_, _]) Tryd.func23 c23ok (Nat.le_of_ble_eq_true rfl) ?_
  have L := L0 H
  have hw0 : IntKind.i64.wrap ((m : Int) - 1) = (m : Int) - 1 := wrap_i64_id _ (by omega) (by omega)
  simp (implicitDefEqProofs := false) only [go_sem, c23, hw0]
  refine L.newP fun bx H1 L => ?_
  simp (implicitDefEqProofs := false) only [go_sem, hw0]
  refine vc_loop (fun (i : Nat) H' => i ≤ ks.length ∧ Lv [] H [] (fun _ => True) H' [.blk bx 24 [.int .i64 k, sv t, .int .i64 n, .int .i64 a, .slice aa ks.length cc]] [])
    (fun i => [(1, .int .i64 (if 1 + sizeL (ks.take i) ≤ m then (m : Int) - (1 + sizeL (ks.take i) : Nat) else -1)), (2, .pointer (some ⟨bx, 0, none⟩)), (5, .int .i64 i)]) (fun i => ks.length - i) 0 ?_ ?_ ?_
  · exact ⟨Nat.zero_le _, L⟩
  · simp (implicitDefEqProofs := false) only [go_sem, sizeL, List.take_zero]
    split
    · simp
    · rename_i h
      have : m = 0 := by omega
      subst this; rfl
  · rintro i H3 ⟨hi, L⟩
    have ca := L.cell 0 rfl
    obtain ⟨cur, hcur⟩ : ∃ cur, cur = if 1 + sizeL (ks.take i) ≤ m then (m : Int) - (1 + sizeL (ks.take i) : Nat) else -1 := ⟨_, rfl⟩
    rw [← hcur]
    rcases Nat.lt_or_ge i ks.length with hlt | hge
    · have h0 : (0 : Int) ≤ (i : Int) := by omega
      have h1 : (i : Int) < (ks.length : Int) := by omega
      have hs := sizeL_take ks i hlt
      by_cases hc : 1 + sizeL (ks.take i) ≤ m
      · rw [if_pos hc] at hcur
        have hc0 : (0 : Int) ≤ cur := by omega
        obtain ⟨cn, hcn⟩ : ∃ cn : Nat, cur = cn := ⟨cur.toNat, by omega⟩
        have hw := wrap_at hlt hmx
        obtain ⟨b, o, c, k1, t1, n1, a1, kks, kv1, e1, e2, ⟨q0, q1, q2, q3, q4⟩, hr⟩ := kid_at (hk.ext L.fr) i hlt
        cases e1
        simp only [Nat.add_zero] at q0
        have hsz := sizeL_get ks i hlt
        simp only [sizeN] at hx
        have hcall := ih ks[i] (by omega) (H := H3) (m := cn) (by omega) (e2 ▸ NA.mk hr)
        rw [← hcn] at hcall
        unfold sv at *
        simp (implicitDefEqProofs := false) only [go_sem, h0, h1, hc0, ca, q0, q1, q2, q3, q4]
        refine hcall.mono ?_
        rintro v H4 ⟨rfl, hf⟩
        have L := L.ext hf
        have hval : (if sizeN ks[i] ≤ cn then cur - sizeN ks[i] else -1) = if 1 + sizeL (ks.take (i + 1)) ≤ m then (m : Int) - (1 + sizeL (ks.take (i + 1)) : Nat) else -1 := by
          rw [hs]
          by_cases h : sizeN ks[i] ≤ cn
          · rw [if_pos h, if_pos (by omega)]; omega
          · rw [if_neg h, if_neg (by omega)]
        rw [hval]
        simp (implicitDefEqProofs := false) only [go_sem, hw]
        refine loopK_intro (i + 1) ?_ ?_ ⟨by omega, L⟩
        · show ks.length - (i + 1) < ks.length - i
          omega
        · simp (implicitDefEqProofs := false) only [go_sem, hw]
      · rw [if_neg hc] at hcur
        have hfin : ¬ (sizeN (.mk k t n a ks) ≤ m) := by
          have h2 := sizeL_le ks i
          simp only [sizeN]; omega
        rw [if_neg hfin]
        subst hcur
        simp (implicitDefEqProofs := false) only [go_sem, h1, ca]
        exact L.fr
    · have h1 : ¬ ((i : Int) < (ks.length : Int)) := by omega
      obtain rfl : i = ks.length := by omega
      simp (implicitDefEqProofs := false) only [go_sem, h1, ca]
      have e : cur = if sizeN (.mk k t n a ks) ≤ m then (m : Int) - sizeN (.mk k t n a ks) else -1 := by
        rw [hcur, sizeL_all]
        by_cases h : 1 + sizeL ks ≤ m
        · rw [if_pos h, if_pos (by simp only [sizeN]; omega)]; simp only [sizeN]; omega
        · rw [if_neg h, if_neg (by simp only [sizeN]; omega)]
      rw [e]
      exact ⟨rfl, L.fr⟩
theorem small_ok (x : Nd) {H : Heap} {vx : Value} {m : Nat} (hm : m < 2^62) (hax : NA H x vx) : HCalls Tryd.prog 11 #[vx, .int .i64 m] H fun v H' => v = .bool (decide (sizeN x ≤ m)) ∧ Fr [] H H' := by
  obtain ⟨k, t, n, a, ks⟩ := x
  obtain ⟨kv, rfl, hk⟩ := hax.open
  obtain ⟨aa, cc, rfl, hcc, hmx⟩ := kids_len hk
  refine calls_of_vc (args := [_, _]) Tryd.func11 c11ok (Nat.le_of_ble_eq_true rfl) ?_
  have L := L0 H
  simp (implicitDefEqProofs := false) only [go_sem, c11]
  refine L.newP fun bx H1 L => ?_
  have ca := L.cell 0 rfl
  have hcall := room_ok _ (.mk k t n a ks) (Nat.le_refl _) (H := H1) hm ((NA.mk hk).ext L.fr)
  simp (implicitDefEqProofs := false) only [go_sem, ca]
  refine hcall.mono ?_
  rintro v H2 ⟨rfl, hf⟩
  have hF := L.fr.trans hf
  by_cases h : sizeN (.mk k t n a ks) ≤ m
  · rw [if_pos h]
    have h2 : (0 : Int) ≤ (m : Int) - sizeN (.mk k t n a ks) := by omega
    simp (implicitDefEqProofs := false) only [go_sem, h, h2]
    exact hF
  · rw [if_neg h]
    simp (implicitDefEqProofs := false) only [go_sem, h]
    exact hF
end Go.Proofs.YtbgjgaaobnbijaaDoor
end
section
/- Readings of trees; the example. -/
set_option linter.unusedSimpArgs false
set_option linter.unusedVariables false
set_option maxRecDepth 8000
namespace Go.Proofs.YtbgjgaaobnbijaaDoor
open Gx Go

def OpensF (P : Program) (F : Nat) (t : TypeId) {α : Type} (R : α → List Value → Heap → Prop) : Prop :=
  ∀ {H : Type} {enc : TypeId × Value → H} {W : World} {base : Nat} {sp : Nat → Bool} {held : Bool} {fuel : Nat} {cs : List Value} {x : DataW H × List MemPlace},
    fuel ≤ F → DataW.trod enc P W base sp held fuel t cs = some x → ∃ a, R a cs W.heap
theorem Opens.at {P : Program} {t : TypeId} {α : Type} {R : α → List Value → Heap → Prop} (h : Opens P t R) (F : Nat) : OpensF P F t R := by
  intro H enc W base sp held fuel cs x _ hx
  exact h hx

section
variable {P : Program}
theorem opensF_slice {t e m F : Nat} {α : Type} {R : α → List Value → Heap → Prop} (ht : P.underlying t = some (.slice e)) (hc : P.cellsOf e = m) (hm : 0 < m) (he : OpensF P F e R) : OpensF P (F + 1) t (SlR R m) := by
  intro H enc W base sp held fuel cs x hF h
  rcases DataW.trod_slice ht h with ⟨h0, _⟩ | ⟨a, len, cap, elems, rest, n, hn, rfl, rfl, hb, hl, hmx, hlen, hel, _, _⟩
  · exact ⟨[], none, 0, h0, by simp, by simp [maxLen], .inl rfl⟩
  · have hi : ∀ i, i < len → ∃ y : α, ∃ vs, vs.length = m ∧ (∀ j, j < m → cellAt W.heap (a.add (i * m + j)) = vs[j]?) ∧ R y vs W.heap := by
      intro i hi
      have h1 := hel i hi
      have h2 : elems[i]? = some elems[i] := List.getElem?_eq_getElem (by omega)
      rw [h2, Option.bind_eq_some_iff] at h1
      obtain ⟨vs, hv, hr⟩ := h1
      obtain ⟨h3, h4, h5⟩ := World.cells?_some hv
      obtain ⟨y, hy⟩ := he (by omega) hr
      rw [hc] at h4 h5 hv
      refine ⟨y, vs, h4, fun j hj => ?_, hy⟩
      have := h5 j hj
      rw [← this]
      show _ = cellAt W.heap _
      congr 1
      simp only [Addr.add]
      repeat' split
      all_goals first | rfl | omega | simp_all [Nat.add_assoc]
    obtain ⟨l, hl1, hl2⟩ := list_of (β := Unit) hi
    refine ⟨l, some a, cap, by rw [hl1], by omega, hmx, ?_⟩
    rcases Nat.eq_zero_or_pos l.length with h0 | h0
    · exact .inl (List.eq_nil_of_length_eq_zero h0)
    · have hspot : a.spot = none := by
        obtain ⟨vs, h1, h2, _⟩ := hl2 0 h0
        have h3 := h2 0 hm
        rw [List.getElem?_eq_getElem (by omega)] at h3
        unfold cellAt at h3
        split at h3
        · split at h3
          · cases h3
          · rename_i hs; simpa [Addr.add] using hs
        · cases h3
      obtain ⟨b, o, s⟩ := a
      simp only at hspot
      subst hspot
      refine .inr ⟨b, o, rfl, fun j hj => ?_⟩
      obtain ⟨vs, h1, h2, h3⟩ := hl2 j hj
      refine ⟨vs, h1, fun i hi => ?_, h3⟩
      rw [← h2 i hi, add_mk, cellAt_mk, Nat.add_assoc]

theorem structF_fields {H : Type} {enc : TypeId × Value → H} {W : World} {base : Nat} {sp : Nat → Bool} {held : Bool} {fuel F : Nat} {t : TypeId} {cs : List Value} {x : DataW H × List MemPlace} {fs : Array Field} (ht : P.underlying t = some (.struct fs))
    (hF : fuel ≤ F + 1) (h : DataW.trod enc P W base sp held fuel t cs = some x) : cs.length = P.cellsOf t ∧
      ∀ (i : Nat) (f : Field), fs[i]? = some f → ∀ {α : Type} {R : α → List Value → Heap → Prop} {m : Nat}, P.cellsOf f.type = m → OpensF P F f.type R → ∃ a, R a ((cs.drop f.offset).take m) W.heap := by
  obtain ⟨xs, n, hn, _, hl, hx, hf⟩ := DataW.trod_struct ht h
  refine ⟨hl, fun i f hi α R m hm ho => ?_⟩
  have h1 := hf i f hi
  have hlt : i < xs.length := by
    rw [hx]; exact (Array.getElem?_eq_some_iff.1 hi).1
  rw [List.getElem?_eq_getElem hlt, hm] at h1
  exact ho (by omega) h1
end

theorem Reps.of {H : Heap} {M : List Nat} : ∀ {ds : List Dat} {css : List (List Value)}, css.length = ds.length → (∀ (i : Nat) (h : i < css.length) (h' : i < ds.length), Rep H M ds[i] css[i]) → Reps H M ds css
  | [], [], _, _ => by simp [Reps]
  | d :: ds, c :: css, hl, h => by
    simp only [Reps]
    exact ⟨c, css, rfl, h 0 (by simp) (by simp), Reps.of (by simpa using hl) fun i hi hi' => h (i + 1) (by simpa using hi) (by simpa using hi')⟩
  | [], _ :: _, hl, _ => by simp at hl
  | _ :: _, [], hl, _ => by simp at hl
theorem flat_get {m : Nat} {css : List (List Value)} (h : ∀ x ∈ css, x.length = m) {q r : Nat} (hq : q < css.length) (hr : r < m) : css.flatten[q * m + r]? = css[q][r]? := by
  have h1 := flatten_drop q h
  have h2 : css.flatten[q * m + r]? = (css.flatten.drop (q * m))[r]? := by simp
  rw [h2, h1, List.drop_eq_getElem_cons hq, List.flatten_cons, List.getElem?_append_left (by rw [h _ (List.getElem_mem hq)]; exact hr)]
theorem rep_of_SlR {α : Type} {R : α → List Value → Heap → Prop} {D : α → Dat} {m : Nat} (h0 : 0 < m) {H : Heap} (hR : ∀ x vs, R x vs H → Rep H [] (D x) vs) {l : List α} {cs : List Value} (h : SlR R m l cs H) : Rep H [] (.list m (l.map D)) cs := by
  obtain ⟨a, c, rfl, h1, h2, h3⟩ := h
  simp only [Rep]
  rcases h3 with h3 | ⟨b, o, h4, h5⟩
  · subst h3
    exact ⟨a, c, [], rfl, by simp, h2, by simp [Reps], by simp, .inl rfl⟩
  · have hq : ∀ i, i < l.length → ∃ vs : List Value, vs.length = m ∧ (∀ k, k < m → cellB H b (o + i * m + k) = vs[k]?) ∧ ∀ hi : i < l.length, Rep H [] (D l[i]) vs := fun i hi => by
      obtain ⟨vs, q1, q2, q3⟩ := h5 i hi
      exact ⟨vs, q1, q2, fun _ => hR _ _ q3⟩
    obtain ⟨css, e1, e2⟩ := list_of (β := Unit) hq
    have hm : ∀ x ∈ css, x.length = m := fun x hx => by
      obtain ⟨i, hi, rfl⟩ := List.getElem_of_mem hx
      exact (e2 i hi).1
    refine ⟨a, c, css, by simp, by simpa using h1, h2, Reps.of (by simpa using e1) fun i hi hi' => ?_, hm, .inr ⟨b, o, h4, by simp, fun j hj => ?_⟩⟩
    · rw [List.getElem_map]
      exact (e2 i hi).2.2 (by omega)
    · have hlen : css.flatten.length = css.length * m := flatten_len hm
      have hqj : j / m < css.length := by rw [hlen] at hj; exact (Nat.div_lt_iff_lt_mul h0).2 hj
      have hrj : j % m < m := Nat.mod_lt _ h0
      have e : j = j / m * m + j % m := by rw [Nat.mul_comm, Nat.div_add_mod]
      have h8 := (e2 _ hqj).2.1 _ hrj
      rw [← flat_get hm hqj hrj, ← e, Nat.add_assoc, ← e] at h8
      rw [h8, List.getElem?_eq_getElem hj]


theorem opens_nd_F : ∀ F : Nat, OpensF Tryd.prog F 24 (fun (n : Nd) cs H => Rep H [] n.dat cs) := by
  intro F
  induction F using Nat.strongRecOn with
  | _ F ihF =>
  match F, ihF with
  | 0, _ =>
    intro H enc W base sp held fuel cs x hF h
    obtain rfl : fuel = 0 := by omega
    simp [DataW.trod] at h
  | 1, _ =>
    intro H enc W base sp held fuel cs x hF h
    obtain ⟨xs, n, hn, _, hl, hx, hf⟩ := DataW.trod_struct Tryd.underlying24 h
    obtain rfl : n = 0 := by omega
    have := hf 0 _ rfl
    have hx0 : 0 < xs.length := by rw [hx]; decide
    rw [List.getElem?_eq_getElem hx0] at this
    simp [DataW.trod] at this
  | F + 2, ihF =>
    have ih : OpensF Tryd.prog F 24 (fun (n : Nd) cs H => Rep H [] n.dat cs) := ihF F (by omega)
    intro H enc W base sp held fuel cs x hF h
    obtain ⟨hl, hf⟩ := structF_fields (F := F + 1) Tryd.underlying24 hF h
    have hc : Tryd.prog.cellsOf 24 = 5 := by kernel_rfl
    rw [hc] at hl
    obtain ⟨k, hk⟩ := hf 0 _ rfl (m := 1) (by kernel_rfl) (Opens.at (opens_int (k := .i64) Tryd.underlying3) _)
    obtain ⟨t, ht⟩ := hf 1 _ rfl (m := 1) (by kernel_rfl) (Opens.at (opens_str Tryd.underlying9) _)
    obtain ⟨n, hn⟩ := hf 2 _ rfl (m := 1) (by kernel_rfl) (Opens.at (opens_int (k := .i64) Tryd.underlying2) _)
    obtain ⟨a, ha⟩ := hf 3 _ rfl (m := 1) (by kernel_rfl) (Opens.at (opens_int (k := .i64) Tryd.underlying3) _)
    obtain ⟨ks, hks⟩ := hf 4 _ rfl (m := 1) (by kernel_rfl) (opensF_slice (R := fun (n : Nd) cs H => Rep H [] n.dat cs) (m := 5) Tryd.underlying22 (by kernel_rfl) (by decide) ih)
    match cs, hl with
    | [v0, v1, v2, v3, v4], _ =>
      obtain ⟨e0, _⟩ := hk
      obtain ⟨e1, _⟩ := ht
      obtain ⟨e2, _⟩ := hn
      obtain ⟨e3, _⟩ := ha
      change [v0] = _ at e0
      change [v1] = _ at e1
      change [v2] = _ at e2
      change [v3] = _ at e3
      cases e0; cases e1; cases e2; cases e3
      change SlR _ 5 ks [v4] _ at hks
      exact ⟨.mk k t n a ks, nd_rep.2 ⟨v4, rfl, rep_of_SlR (D := Nd.dat) (by decide) (fun x vs hx => hx) hks⟩⟩
theorem opens_nd : Opens Tryd.prog 24 (fun (n : Nd) cs H => Rep H [] n.dat cs) := by
  intro H enc W base sp held fuel cs x h
  exact opens_nd_F fuel (Nat.le_refl _) h

def exT : Nd := .mk 40 [] 0 6 [.mk 41 [] 0 2 [.mk 48 [97] 0 0 [], .mk 44 [] 1 4 []], .mk 49 [] 0 8 []]
theorem ex_ok : srcP (exprP (loK 64)) [97, 32, 45, 32, 49, 32, 43, 32, 115] = .ok exT := by rfl
theorem awake_ok {H : Heap} (hG : GlobH H) : HCalls Tryd.prog 10 #[] H fun v H' => v = .bool true ∧ Fr [] H H' := by
  refine calls_of_vc (args := []) Tryd.func10 c10ok (Nat.le_of_ble_eq_true rfl) ?_
  have L := L0 H
  have hx := pexpr_ok [97, 32, 45, 32, 49, 32, 43, 32, 115] (by decide) hG
  rw [ex_ok] at hx
  unfold sv at hx
  simp (implicitDefEqProofs := false) only [go_sem, c10]
  refine hx.mono ?_
  rintro v H1 ⟨⟨cs, rfl, hr⟩, hf⟩
  have L := L.ext hf
  unfold exT at hr
  obtain ⟨kv, rfl, hkv⟩ := RepP.nd_open hr
  simp (implicitDefEqProofs := false) only [go_sem]
  have L := L.add ((L0 H).built hkv)
  refine L.newP fun b1 H2 L => ?_
  simp (implicitDefEqProofs := false) only [go_sem]
  refine L.newP fun b2 H3 L => ?_
  simp (implicitDefEqProofs := false) only [go_sem]
  refine L.stoAll 1 rfl rfl (one_agg (t := []) (nd_one hkv)) fun H4 L => ?_
  simp only [List.set_cons_zero, List.set_cons_succ, List.set_nil, List.eraseIdx_cons_zero, List.eraseIdx_cons_succ] at L
  simp (implicitDefEqProofs := false) only [go_sem]
  refine L.stoAll 0 rfl rfl (by simp [Value.oneCell']) fun H5 L => ?_
  simp only [List.set_cons_zero, List.set_cons_succ, List.set_nil, List.eraseIdx_cons_zero, List.eraseIdx_cons_succ] at L
  have hr5 := (L.dat _ (List.mem_cons_self)).rep
  obtain ⟨aa, cc, rfl, _, _⟩ := kids_len hr5
  obtain ⟨b, o, c, k, t, n, a, kks, kv1, e1, e2, ⟨q0, q1, q2, q3, q4⟩, hr⟩ := kid_at hr5 0 (by decide)
  cases e1
  simp only [List.getElem_cons_zero, Nd.mk.injEq] at e2
  obtain ⟨rfl, rfl, rfl, rfl, rfl⟩ := e2
  have c0 := L.cell 0 rfl
  have c1 := L.cell 1 rfl
  simp only [Nat.zero_mul, Nat.add_zero] at q0
  have hs := size_ok _ exT (Nat.le_refl _) (H := H5) (NA.mk hr5)
  have e5 : IntKind.i64.wrap (sizeN exT) = 5 := by rfl
  rw [e5] at hs
  unfold sv at *
  simp (implicitDefEqProofs := false) only [go_sem, c0, c1, q0, List.length_cons, List.length_nil]
  refine hs.mono ?_
  rintro v H6 ⟨rfl, hf6⟩
  simp (implicitDefEqProofs := false) only [go_sem]
  exact L.fr.trans hf6
end Go.Proofs.YtbgjgaaobnbijaaDoor
end
section
/- Where the nodes of an expression stand: at tokens; where a fault stands. -/
set_option linter.unusedSimpArgs false
set_option linter.unusedVariables false
set_option maxRecDepth 8000
namespace Go.Proofs.YtbgjgaaobnbijaaDoor
open Gx Go
mutual
def Nd.al (A : Int → Prop) : Nd → Prop
  | .mk _ _ _ a ks => A a ∧ Nd.als A ks
def Nd.als (A : Int → Prop) : List Nd → Prop
  | [] => True
  | n :: l => Nd.al A n ∧ Nd.als A l
end
theorem als_app {A : Int → Prop} : ∀ {l m : List Nd}, Nd.als A l → Nd.als A m → Nd.als A (l ++ m)
  | [], m, _, h => h
  | x :: l, m, h, h' => by
    simp only [Nd.als, List.cons_append] at h ⊢
    exact ⟨h.1, als_app h.2 h'⟩
theorem als_one {A : Int → Prop} {n : Nd} (h : Nd.al A n) : Nd.als A [n] := by simp only [Nd.als]; exact ⟨h, trivial⟩
theorem als_two {A : Int → Prop} {n m : Nd} (h : Nd.al A n) (h' : Nd.al A m) : Nd.als A [n, m] := by simp only [Nd.als]; exact ⟨h, h', trivial⟩
theorem als_nil {A : Int → Prop} : Nd.als A [] := by simp only [Nd.als]
theorem al_mk {A : Int → Prop} {k : Int} {t : Bs} {n a : Int} {ks : List Nd} (h : A a) (h' : Nd.als A ks) : Nd.al A (.mk k t n a ks) := by simp only [Nd.al]; exact ⟨h, h'⟩
/-- What is known of the offsets of the tokens ahead. -/
structure Gd (A B : Int → Prop) (ts : List Tk) : Prop where
  a : ∀ t ∈ ts, t.kind ≠ 6 → A t.at_
  b : ∀ t ∈ ts, B t.at_
  z : B 0
section
variable {A B : Int → Prop}
theorem Gd.tl {ts : List Tk} (h : Gd A B ts) : Gd A B ts.tail := ⟨fun t ht => h.a t (List.mem_of_mem_tail ht), fun t ht => h.b t (List.mem_of_mem_tail ht), h.z⟩
theorem Gd.hb {ts : List Tk} (h : Gd A B ts) : B (hd ts).at_ := by
  cases ts with
  | nil => exact h.z
  | cons t r => exact h.b t (by simp)
theorem Gd.ha {ts : List Tk} (h : Gd A B ts) (hk : (hd ts).kind ≠ 6) : A (hd ts).at_ := by
  cases ts with
  | nil => exact absurd rfl hk
  | cons t r => exact h.a t (by simp) hk
/-- The result of a reading, and its fault. -/
def Wa (A B : Int → Prop) {α : Type} (p : PP α) (φ : α → Prop) (ts : List Tk) : Prop := match p ts with
  | .error e => e.1 ≠ 0 ∧ B e.2
  | .ok (a, r) => φ a ∧ Gd A B r
theorem Wa.bd {α β : Type} {p : PP α} {f : α → PP β} {φ : α → Prop} {ψ : β → Prop} {ts : List Tk} (h : Wa A B p φ ts) (hf : ∀ a r, φ a → Gd A B r → Wa A B (f a) ψ r) : Wa A B (bd p f) ψ ts := by
  unfold Wa at h
  cases e : p ts with
  | error e' =>
    rw [e] at h
    unfold Wa
    rw [bd_err e]; exact h
  | ok x =>
    obtain ⟨a, r⟩ := x
    rw [e] at h
    have := hf a r h.1 h.2
    unfold Wa at this ⊢
    rw [bd_ok e]; exact this
theorem Wa.ret {α : Type} {a : α} {φ : α → Prop} {ts : List Tk} (h : φ a) (hg : Gd A B ts) : Wa A B (ret a) φ ts := ⟨h, hg⟩
theorem Wa.mono {α : Type} {p : PP α} {φ ψ : α → Prop} {ts : List Tk} (h : Wa A B p φ ts) (hm : ∀ a, φ a → ψ a) : Wa A B p ψ ts := by
  unfold Wa at h ⊢
  cases e : p ts with
  | error e' => rw [e] at h; exact h
  | ok x =>
    obtain ⟨a, r⟩ := x
    rw [e] at h; exact ⟨hm a h.1, h.2⟩
theorem Wa.err {α : Type} {p : PP α} {φ : α → Prop} {ts : List Tk} {c : Int} (hg : Gd A B ts) (hc : c ≠ 0) (h : p ts = .error (c, (hd ts).at_)) : Wa A B p φ ts := by
  unfold Wa; rw [h]; exact ⟨hc, hg.hb⟩
theorem Wa.val {α : Type} {p : PP α} {φ : α → Prop} {ts r : List Tk} {a : α} (h : p ts = .ok (a, r)) (hφ : φ a) (hg : Gd A B r) : Wa A B p φ ts := by
  unfold Wa; rw [h]; exact ⟨hφ, hg⟩
theorem Wa.eq {α : Type} {p q : PP α} {φ : α → Prop} {ts ts' : List Tk} (h : p ts = q ts') (hq : Wa A B q φ ts') : Wa A B p φ ts := by
  unfold Wa at hq ⊢; rw [h]; exact hq
theorem Wa.take {k : Int} (hk : k ≠ 6) {ts : List Tk} (hg : Gd A B ts) : Wa A B (takeP k) (fun t => t = hd ts ∧ A t.at_ ∧ (hd ts).kind = k) ts := by
  by_cases h : (hd ts).kind = k
  · exact Wa.val (by unfold takeP; rw [if_pos h]) ⟨rfl, hg.ha (by rw [h]; exact hk), h⟩ hg.tl
  · exact Wa.err hg (c := 2) (by decide) (by unfold takeP; rw [if_neg h])
theorem Wa.exp {s : Bs} {ts : List Tk} (hg : Gd A B ts) : Wa A B (expP s) (fun _ => True) ts := by
  by_cases h : isB s ts = true
  · exact Wa.val (by unfold expP; rw [if_pos h]) trivial hg.tl
  · exact Wa.err hg (c := 2) (by decide) (by unfold expP; rw [if_neg h])
theorem Wa.ent {α β : Type} {lo : Option β} {s : Bs} {body : β → PP α} {φ : α → Prop} {ts : List Tk} (hg : Gd A B ts) (h : ∀ x, lo = some x → Wa A B (body x) φ ts.tail) : Wa A B (entP lo s body) φ ts := by
  by_cases e : isB s ts = true
  · cases lo with
    | none => exact Wa.err hg (c := 6) (by decide) (by simp only [entP, e, if_true])
    | some x => exact Wa.eq (by simp only [entP, e, if_true]) (h x rfl)
  · exact Wa.err hg (c := 2) (by decide) (by unfold entP; rw [if_neg e])
/-- An expression: its nodes stand at tokens, and it begins with one. -/
def Ex (A B : Int → Prop) (p : PP Nd) : Prop := ∀ ts, Gd A B ts → Wa A B p (fun n => Nd.al A n ∧ A (hd ts).at_) ts
theorem intP_ex : Ex A B intP := fun ts hg => by
  by_cases e : isB [45] ts = true
  · have ha := hg.ha (isB_kind e)
    refine Wa.eq (q := bd (takeP 3) fun t => ret (.mk 44 [] (IntKind.i64.wrap (0 - t.n)) (hd ts).at_ [])) (ts' := ts.tail) (by unfold intP; rw [if_pos e]) ?_
    exact (Wa.take (by decide) hg.tl).bd fun t r _ hr => Wa.ret ⟨al_mk ha als_nil, ha⟩ hr
  · refine Wa.eq (q := bd (takeP 3) fun t => ret (.mk 44 [] t.n (hd ts).at_ [])) (ts' := ts) (by unfold intP; rw [if_neg e]) ?_
    refine (Wa.take (by decide) hg).bd fun t r ht hr => ?_
    have ha : A (hd ts).at_ := ht.1 ▸ ht.2.1
    exact Wa.ret ⟨al_mk ha als_nil, ha⟩ hr
theorem namedP_ex (k : Int) : Ex A B (namedP k) := fun ts hg => (Wa.take (by decide) hg).bd fun t r ht hr => Wa.ret ⟨al_mk ht.2.1 als_nil, ht.1 ▸ ht.2.1⟩ hr
theorem quoteP_ex : Ex A B quoteP := fun ts hg => (Wa.take (by decide) hg).bd fun t r ht hr => Wa.ret ⟨al_mk ht.2.1 als_nil, ht.1 ▸ ht.2.1⟩ hr
theorem opAt_is {kd : Kd} {ts : List Tk} (h : opAt kd ts = true) : isB (hd ts).text ts = true := by
  unfold opAt at h
  rw [Bool.and_eq_true] at h
  exact h.2
theorem Wa.ite {α : Type} {c : List Tk → Prop} [∀ ts, Decidable (c ts)] {x y : PP α} {φ : α → Prop} {ts : List Tk} (h1 : c ts → Wa A B x φ ts) (h2 : ¬ c ts → Wa A B y φ ts) : Wa A B (fun ts => if c ts then x ts else y ts) φ ts := by
  by_cases h : c ts
  · exact Wa.eq (q := x) (ts' := ts) (if_pos h) (h1 h)
  · exact Wa.eq (q := y) (ts' := ts) (if_neg h) (h2 h)
theorem chainF_ex {op : PP Nd} {kd : Kd} (h : Ex A B op) : ∀ (f : Nat) (n : Nd) (ts : List Tk), Nd.al A n → Gd A B ts → Wa A B (chainF op kd f n) (Nd.al A) ts
  | 0, n, ts, hn, hg => Wa.ret hn hg
  | f + 1, n, ts, hn, hg => by
    by_cases e : opAt kd ts = true
    · have ha := hg.ha (isB_kind (opAt_is e))
      refine Wa.eq (q := bd op fun m => chainF op kd f (.mk (kdOf kd (hd ts).text) [] 0 (hd ts).at_ [n, m])) (ts' := ts.tail) (by simp only [chainF, e, if_true]) ?_
      exact (h _ hg.tl).bd fun m r hm hr => chainF_ex h f _ r (al_mk ha (als_two hn hm.1)) hr
    · refine Wa.val (a := n) (r := ts) ?_ hn hg
      have e' : opAt kd ts = false := by simpa using e
      simp only [chainF, e', Bool.false_eq_true, if_false]
theorem chainP_ex {op : PP Nd} {kd : Kd} (h : Ex A B op) : Ex A B (chainP op kd) := fun ts hg =>
  (h ts hg).bd fun n r hn hr => (Wa.eq (q := chainF op kd r.length n) rfl (chainF_ex h _ n r hn.1 hr)).mono fun _ hm => ⟨hm, hn.2⟩
def LoG (A B : Int → Prop) (lo : Lo) : Prop := ∀ x, lo = some x → Ex A B x.1 ∧ Ex A B x.2
theorem postF_ex {lo : Lo} (hlo : LoG A B lo) : ∀ (f : Nat) (n : Nd) (ts : List Tk), Nd.al A n → Gd A B ts → Wa A B (postF lo f n) (Nd.al A) ts
  | 0, n, ts, hn, hg => Wa.ret hn hg
  | f + 1, n, ts, hn, hg => by
    by_cases e : isB [46] ts = true
    · have ha := hg.ha (isB_kind e)
      refine Wa.eq (q := bd (takeP 1) fun t => postF lo f (.mk 42 t.text 0 (hd ts).at_ [n])) (ts' := ts.tail) (by simp only [postF, e, if_true]) ?_
      exact (Wa.take (by decide) hg.tl).bd fun t r _ hr => postF_ex hlo f _ r (al_mk ha (als_one hn)) hr
    · have e' : isB [46] ts = false := by simpa using e
      by_cases e2 : isB [91] ts = true
      · have ha := hg.ha (isB_kind e2)
        refine Wa.eq (q := entP lo [91] (fun x => bd x.1 fun m => bd (expP [93]) fun _ => postF lo f (.mk 43 [] 0 (hd ts).at_ [n, m]))) (ts' := ts) (by simp only [postF, e', e2, Bool.false_eq_true, if_false, if_true]) ?_
        refine Wa.ent hg fun x hx => ?_
        exact ((hlo x hx).1 _ hg.tl).bd fun m r hm hr => (Wa.exp hr).bd fun _ r2 _ hr2 => postF_ex hlo f _ r2 (al_mk ha (als_two hn hm.1)) hr2
      · have e2' : isB [91] ts = false := by simpa using e2
        exact Wa.val (a := n) (r := ts) (by simp only [postF, e', e2', Bool.false_eq_true, if_false]) hn hg
theorem argP_ex {e : PP Nd} (h : Ex A B e) (fn : Bs) (ts : List Tk) (hg : Gd A B ts) : Wa A B (argP e fn) (Nd.al A) ts := by
  by_cases e1 : fn = [114, 101, 99]
  · refine Wa.eq (q := bd (takeP 1) fun t => bd (expP [58]) fun _ => bd e fun x => ret (.mk 52 t.text 0 (hd ts).at_ [x])) (ts' := ts) (by unfold argP; rw [if_pos e1]) ?_
    refine (Wa.take (by decide) hg).bd fun t r ht hr => (Wa.exp hr).bd fun _ r2 _ hr2 => (h _ hr2).bd fun x r3 hx hr3 => Wa.ret (al_mk (ht.1 ▸ ht.2.1) (als_one hx.1)) hr3
  · by_cases e2 : fn = [109, 97, 112]
    · refine Wa.eq (q := bd e fun x => bd (expP [58]) fun _ => bd e fun y => ret (.mk 52 [] 0 (hd ts).at_ [x, y])) (ts' := ts) (by unfold argP; rw [if_neg e1, if_pos e2]) ?_
      exact (h ts hg).bd fun x r hx hr => (Wa.exp hr).bd fun _ r2 _ hr2 => (h _ hr2).bd fun y r3 hy hr3 => Wa.ret (al_mk hx.2 (als_two hx.1 hy.1)) hr3
    · exact (Wa.eq (q := e) (ts' := ts) (by unfold argP; rw [if_neg e1, if_neg e2]) (h ts hg)).mono fun _ hm => hm.1
theorem commaP_wa {ts : List Tk} (hg : Gd A B ts) : Wa A B commaP (fun _ => True) ts := by
  by_cases e : isB [44] ts = true
  · exact Wa.val (by unfold commaP; rw [if_pos e]) trivial hg.tl
  · exact Wa.eq (q := bd (expP [41]) fun _ => ret false) (ts' := ts) (by unfold commaP; rw [if_neg e]) ((Wa.exp hg).bd fun _ r _ hr => Wa.ret trivial hr)
theorem listF_ex {p : PP Nd} (h : ∀ ts, Gd A B ts → Wa A B p (Nd.al A) ts) : ∀ (f : Nat) (l : List Nd) (ts : List Tk), Nd.als A l → Gd A B ts → Wa A B (listF p f l) (Nd.als A) ts
  | 0, l, ts, hl, hg => Wa.ret hl hg
  | f + 1, l, ts, hl, hg => (h ts hg).bd fun a r ha hr => (commaP_wa hr).bd fun m r2 _ hr2 => by
    have hl2 := als_app hl (als_one ha)
    cases m with
    | true => exact listF_ex h f _ r2 hl2 hr2
    | false => exact Wa.ret hl2 hr2
theorem listP_ex {p : PP Nd} (h : ∀ ts, Gd A B ts → Wa A B p (Nd.al A) ts) (ts : List Tk) (hg : Gd A B ts) : Wa A B (listP p) (Nd.als A) ts := by
  by_cases e : isB [41] ts = true
  · exact Wa.val (by unfold listP; rw [if_pos e]) als_nil hg.tl
  · exact Wa.eq (q := listF p ts.length []) (ts' := ts) (by unfold listP; rw [if_neg e]) (listF_ex h _ _ ts als_nil hg)
theorem primP_ex {lo : Lo} (hlo : LoG A B lo) : Ex A B (primP lo) := fun ts hg => by
  have word : ∀ {s : Bs} {k : Int}, isB s ts = true → Nd.al A (.mk k [] 0 (hd ts).at_ []) ∧ A (hd ts).at_ := fun e => ⟨al_mk (hg.ha (isB_kind e)) als_nil, hg.ha (isB_kind e)⟩
  unfold primP
  refine Wa.ite (fun c1 => intP_ex ts hg) fun c1 => ?_
  refine Wa.ite (fun c2 => quoteP_ex ts hg) fun c2 => ?_
  refine Wa.ite (fun c3 => namedP_ex 48 ts hg) fun c3 => ?_
  refine Wa.ite (fun c4 => Wa.val rfl (word c4) hg.tl) fun c4 => ?_
  refine Wa.ite (fun c5 => Wa.val rfl (word c5) hg.tl) fun c5 => ?_
  refine Wa.ite (fun c6 => Wa.val rfl (word c6) hg.tl) fun c6 => ?_
  refine Wa.ite (fun c7 => Wa.val rfl (word c7) hg.tl) fun c7 => ?_
  refine Wa.ite (fun c8 => ?_) fun c8 => ?_
  · have ha := hg.ha (isB_kind c8)
    exact Wa.ent hg fun x hx => ((hlo x hx).1 _ hg.tl).bd fun n r hn hr => (Wa.exp hr).bd fun _ r2 _ hr2 => Wa.ret ⟨hn.1, ha⟩ hr2
  refine Wa.ite (fun c9 => ?_) fun c9 => ?_
  · have ha := hg.ha (by rw [c9.1]; decide)
    refine Wa.eq (q := entP lo [40] (fun x => bd (listP (argP x.1 (hd ts).text)) fun l => ret (.mk 51 (hd ts).text 0 (hd ts).at_ l))) (ts' := ts.tail) rfl ?_
    exact Wa.ent hg.tl fun x hx => (listP_ex (fun ts' hg' => argP_ex (hlo x hx).1 _ ts' hg') _ hg.tl.tl).bd fun l r hl hr => Wa.ret ⟨al_mk ha hl, ha⟩ hr
  exact Wa.err hg (c := 2) (by decide) rfl
theorem postP_ex {lo : Lo} (hlo : LoG A B lo) : Ex A B (postP lo) := fun ts hg =>
  (primP_ex hlo ts hg).bd fun n r hn hr => (Wa.eq (q := postF lo r.length n) rfl (postF_ex hlo _ n r hn.1 hr)).mono fun _ hm => ⟨hm, hn.2⟩
theorem cmpP_ex {lo : Lo} (hlo : LoG A B lo) : Ex A B (cmpP lo) := fun ts hg => by
  have hj : Ex A B (joinP lo) := chainP_ex (chainP_ex (postP_ex hlo))
  refine (hj ts hg).bd fun n r hn hr => ?_
  by_cases e : opAt kCmp r = true
  · have ha := hr.ha (isB_kind (opAt_is e))
    refine Wa.eq (q := bd (joinP lo) fun m => ret (.mk (kdOf kCmp (hd r).text) [] 0 (hd r).at_ [n, m])) (ts' := r.tail) (if_pos e) ?_
    exact (hj _ hr.tl).bd fun m r2 hm hr2 => Wa.ret ⟨al_mk ha (als_two hn.1 hm.1), hn.2⟩ hr2
  · exact Wa.val (if_neg e) ⟨hn.1, hn.2⟩ hr
theorem notP_ex {lo : Lo} (hlo : LoG A B lo) : Ex A B (notP lo) := fun ts hg => by
  by_cases e : isB [110, 111, 116] ts = true
  · have ha := hg.ha (isB_kind e)
    refine Wa.eq (q := entP lo [110, 111, 116] (fun x => bd x.2 fun n => ret (.mk 33 [] 0 (hd ts).at_ [n]))) (ts' := ts) (by unfold notP; rw [if_pos e]) ?_
    exact Wa.ent hg fun x hx => ((hlo x hx).2 _ hg.tl).bd fun n r hn hr => Wa.ret ⟨al_mk ha (als_one hn.1), ha⟩ hr
  · exact Wa.eq (q := cmpP lo) (ts' := ts) (by unfold notP; rw [if_neg e]) (cmpP_ex hlo ts hg)
theorem exprP_ex {lo : Lo} (hlo : LoG A B lo) : Ex A B (exprP lo) := fun ts hg => by
  by_cases e : isB [105, 102] ts = true
  · have ha := hg.ha (isB_kind e)
    refine Wa.eq (q := entP lo [105, 102] (fun x => bd x.1 fun a => bd (expP [116, 104, 101, 110]) fun _ => bd x.1 fun b => bd (expP [101, 108, 115, 101]) fun _ => bd x.1 fun c => ret (.mk 30 [] 0 (hd ts).at_ [a, b, c]))) (ts' := ts) (by unfold exprP; rw [if_pos e]) ?_
    refine Wa.ent hg fun x hx => ?_
    have hx1 := (hlo x hx).1
    exact (hx1 _ hg.tl).bd fun a r ha' hr => (Wa.exp hr).bd fun _ r2 _ hr2 => (hx1 _ hr2).bd fun b r3 hb hr3 => (Wa.exp hr3).bd fun _ r4 _ hr4 => (hx1 _ hr4).bd fun c r5 hc hr5 =>
      Wa.ret ⟨al_mk ha (by simp only [Nd.als]; exact ⟨ha'.1, hb.1, hc.1, trivial⟩), ha⟩ hr5
  · exact Wa.eq (q := orP lo) (ts' := ts) (by unfold exprP; rw [if_neg e]) (chainP_ex (chainP_ex (notP_ex hlo)) ts hg)
theorem lev_ex : ∀ k : Nat, Ex A B (lev k).1 ∧ Ex A B (lev k).2
  | 0 => ⟨exprP_ex fun x hx => (by cases hx), notP_ex fun x hx => (by cases hx)⟩
  | k + 1 => ⟨exprP_ex fun x hx => (by cases hx; exact lev_ex k), notP_ex fun x hx => (by cases hx; exact lev_ex k)⟩
theorem expr_ex (k : Nat) : Ex A B (exprP (loK k)) := by
  have := (lev_ex (A := A) (B := B) k).1
  rw [lev_eq] at this; exact this
end

/-! ### the tokens' offsets -/
theorem lexF_off : ∀ (f : Nat) (s : Bs) (o : Nat) (T : List Tk), lexF f s o = .ok T → (∀ t ∈ T, (o : Int) ≤ t.at_ ∧ t.at_ ≤ ((o + s.length : Nat) : Int)) ∧ T.Pairwise (fun a b => a.at_ < b.at_)
  | 0, s, o, T, h => by simp [lexF] at h
  | f + 1, s, o, T, h => by
    have hsk := skB_le false s
    unfold lexF at h
    split at h
    · cases h
    · rename_i k t n m he
      obtain ⟨h1, h2, h3⟩ := tokS_len he
      rw [List.length_drop] at h1
      split at h
      · cases h
        refine ⟨fun t' ht' => ?_, by simp⟩
        simp only [List.mem_singleton] at ht'
        subst ht'
        simp only; omega
      · rename_i hk
        have hne : s.drop (skB false s) ≠ [] := fun e => hk (h3 e)
        have hm := (h2 hne).1
        cases e : lexF f (s.drop (skB false s + m)) (o + skB false s + m) with
        | bad c j => rw [e] at h; cases h
        | ok T' =>
          rw [e] at h
          simp only [LR.cons, LR.ok.injEq] at h
          subst h
          obtain ⟨i1, i2⟩ := lexF_off f _ _ _ e
          rw [List.length_drop] at i1
          refine ⟨fun t' ht' => ?_, List.pairwise_cons.2 ⟨fun b hb => ?_, i2⟩⟩
          · rcases List.mem_cons.1 ht' with rfl | ht'
            · simp only; omega
            · have := i1 t' ht'; omega
          · have := i1 b hb
            simp only; omega
theorem lexF_badoff : ∀ (f : Nat) (s : Bs) (o : Nat) (c : Int) (k : Nat), s.length < f → lexF f s o = .bad c k → k ≤ o + s.length
  | 0, s, o, c, k, hf, h => by omega
  | f + 1, s, o, c, k, hf, h => by
    have hsk := skB_le false s
    unfold lexF at h
    split at h
    · cases h; omega
    · rename_i kd t n m he
      obtain ⟨h1, h2, h3⟩ := tokS_len he
      rw [List.length_drop] at h1
      split at h
      · cases h
      · rename_i hk
        have hne : s.drop (skB false s) ≠ [] := fun e => hk (h3 e)
        have hm := (h2 hne).1
        cases e : lexF f (s.drop (skB false s + m)) (o + skB false s + m) with
        | ok T' => rw [e] at h; cases h
        | bad c' j =>
          rw [e] at h
          simp only [LR.cons, LR.bad.injEq] at h
          obtain ⟨rfl, rfl⟩ := h
          have := lexF_badoff f _ _ _ _ (by rw [List.length_drop]; omega) e
          rw [List.length_drop] at this
          omega
/-- Where the tokens begin. -/
def Beg (T : List Tk) (a : Int) : Prop := ∃ t ∈ T, t.kind ≠ 6 ∧ t.at_ = a
theorem src_expr (s : Bs) : match srcP (exprP (loK 64)) s with
    | .error e => e.1 ≠ 0 ∧ 0 ≤ e.2 ∧ e.2 ≤ s.length
    | .ok n => ∃ T, lexT s = .ok T ∧ Nd.al (Beg T) n := by
  unfold srcP
  cases hl : lexT s with
  | bad c k =>
    have h1 := lexT_bad hl
    have h2 : k ≤ s.length := by
      unfold lexT at hl
      split at hl
      · cases hl; omega
      · have := lexF_badoff _ _ _ _ _ (by simp) hl
        simpa using this
    simp only
    exact ⟨h1, by omega, by omega⟩
  | ok T =>
    have hoff : ∀ t ∈ T, 0 ≤ t.at_ ∧ t.at_ ≤ (s.length : Int) := by
      unfold lexT at hl
      split at hl
      · cases hl
      · intro t ht
        have := (lexF_off _ _ _ _ hl).1 t ht
        simp at this
        exact this
    have hg : Gd (Beg T) (fun a => 0 ≤ a ∧ a ≤ (s.length : Int)) T := ⟨fun t ht hk => ⟨t, ht, hk, rfl⟩, hoff, by simp⟩
    have hw := expr_ex 64 T hg
    unfold Wa at hw
    simp only [topP]
    cases e : exprP (loK 64) T with
    | error er => rw [e] at hw; exact hw
    | ok x =>
      obtain ⟨n, r⟩ := x
      rw [e] at hw
      simp only at hw ⊢
      by_cases h6 : (hd r).kind = 6
      · rw [if_pos h6]
        exact ⟨T, rfl, hw.1.1⟩
      · rw [if_neg h6]
        exact ⟨show (2 : Int) ≠ 0 by decide, hw.2.hb⟩
end Go.Proofs.YtbgjgaaobnbijaaDoor
end
section
/- The walk of the law of offsets: the placed nodes. -/
set_option linter.unusedSimpArgs false
set_option linter.unusedVariables false
set_option maxRecDepth 8000
namespace Go.Proofs.YtbgjgaaobnbijaaDoor
open Gx Go
/-- An offset that is marked. -/
def StB (bl : List Bool) (a : Int) : Prop := ∃ i : Nat, a = i ∧ bl[i]? = some true
theorem als_get {A : Int → Prop} : ∀ {l : List Nd} (i : Nat) (h : i < l.length), Nd.als A l → Nd.al A l[i]
  | [], i, h, _ => by simp at h
  | x :: l, 0, h, ha => by simp only [Nd.als] at ha; exact ha.1
  | x :: l, i + 1, h, ha => by
    simp only [Nd.als] at ha
    exact als_get i (by simpa using h) ha.2
theorem al_of {A C : Int → Prop} (h : ∀ a, A a → C a) : ∀ (N : Nat) (x : Nd), sizeN x ≤ N → Nd.al A x → Nd.al C x := by
  intro N
  induction N with
  | zero => intro x hx; cases x; simp only [sizeN] at hx; omega
  | succ N ih =>
    intro x hx ha
    obtain ⟨k, t, n, a, ks⟩ := x
    simp only [Nd.al] at ha ⊢
    refine ⟨h a ha.1, ?_⟩
    simp only [sizeN] at hx
    have ha2 := ha.2
    have hx2 : sizeL ks ≤ N := by omega
    clear ha hx
    induction ks with
    | nil => exact als_nil
    | cons y l ih2 =>
      simp only [Nd.als, sizeL] at ha2 hx2 ⊢
      exact ⟨ih y (by omega) ha2.1, ih2 ha2.2 (by omega)⟩
set_option maxHeartbeats 1000000 in
theorem placed_ok {bs : Nat} {bl : List Bool} (hm : bl.length ≤ maxLen) : ∀ (N : Nat) (x : Nd), sizeN x ≤ N → Nd.al (StB bl) x → ∀ {H : Heap} {vx : Value}, NA H x vx → Blk H bs 4 (bl.map Value.bool) → HCalls Tryd.prog 18 #[vx, .slice (some ⟨bs, 0, none⟩) bl.length bl.length] H fun v H' => v = .bool true ∧ Fr [] H H' := by
  intro N
  induction N with
  | zero =>
    intro x hx
    cases x; simp only [sizeN] at hx; omega
  | succ N ih =>
  intro x hx hal H vx hax hB
  obtain ⟨k, t, n, a, ks⟩ := x
  obtain ⟨kv, rfl, hk⟩ := hax.open
  obtain ⟨aa, cc, rfl, hcc, hmx⟩ := kids_len hk
  simp only [Nd.al] at hal
  obtain ⟨⟨p, rfl, hp⟩, hals⟩ := hal
  have hpl : p < bl.length := (List.getElem?_eq_some_iff.1 hp).1
  refine calls_of_vc (args := [_, _]) Tryd.func18 c18ok (Nat.le_of_ble_eq_true rfl) ?_
  have L := L0 H
  simp (implicitDefEqProofs := false) only [go_sem, c18]
  refine L.newP fun bx H1 L => ?_
  have ca := L.cell 0 rfl
  have hB1 := hB.ext L.fr
  have cb : cellB H1 bs p = some (.bool true) := by
    rw [hB1.cell]; simp [hp]
  have g0 : ¬ ((p : Int) < 0) := by omega
  have g1 : ¬ ((bl.length : Int) ≤ (p : Int)) := by omega
  have g2 : (0 : Int) ≤ (p : Int) := by omega
  have g3 : (p : Int) < (bl.length : Int) := by omega
  simp (implicitDefEqProofs := false) only [go_sem, ca, g0, g1, g2, g3, cb]
  refine vc_loop (fun (i : Nat) H' => i ≤ ks.length ∧ Lv [] H [] (fun _ => True) H' [.blk bx 24 [.int .i64 k, sv t, .int .i64 n, .int .i64 p, .slice aa ks.length cc]] [])
    (fun i => [(1, .slice (some ⟨bs, 0, none⟩) bl.length bl.length), (2, .pointer (some ⟨bx, 0, none⟩)), (5, .int .i64 i)]) (fun i => ks.length - i) 0 ?_ ?_ ?_
  · exact ⟨Nat.zero_le _, L⟩
  · simp (implicitDefEqProofs := false) only [go_sem]
  · rintro i H3 ⟨hi, L⟩
    have ca := L.cell 0 rfl
    rcases Nat.lt_or_ge i ks.length with hlt | hge
    · have h0 : (0 : Int) ≤ (i : Int) := by omega
      have h1 : (i : Int) < (ks.length : Int) := by omega
      have hw := wrap_at hlt hmx
      obtain ⟨b, o, c, k1, t1, n1, a1, kks, kv1, e1, e2, ⟨q0, q1, q2, q3, q4⟩, hr⟩ := kid_at (hk.ext L.fr) i hlt
      cases e1
      simp only [Nat.add_zero] at q0
      have hsz := sizeL_get ks i hlt
      simp only [sizeN] at hx
      have hcall := ih ks[i] (by omega) (als_get i hlt hals) (H := H3) (e2 ▸ NA.mk hr) (hB.ext L.fr)
      unfold sv at *
      simp (implicitDefEqProofs := false) only [go_sem, h0, h1, ca, q0, q1, q2, q3, q4]
      refine hcall.mono ?_
      rintro v H4 ⟨rfl, hf⟩
      have L := L.ext hf
      simp (implicitDefEqProofs := false) only [go_sem, hw]
      refine loopK_intro (i + 1) ?_ ?_ ⟨by omega, L⟩
      · show ks.length - (i + 1) < ks.length - i
        omega
      · simp (implicitDefEqProofs := false) only [go_sem, hw]
    · have h1 : ¬ ((i : Int) < (ks.length : Int)) := by omega
      simp (implicitDefEqProofs := false) only [go_sem, h1, ca]
      exact L.fr
end Go.Proofs.YtbgjgaaobnbijaaDoor
end
section
/- The law of offsets. -/
set_option linter.unusedSimpArgs false
set_option linter.unusedVariables false
set_option maxRecDepth 8000
namespace Go.Proofs.YtbgjgaaobnbijaaDoor
open Gx Go
theorem made1 (v : Value) (hv : v.cells = #[v]) (n : Nat) : madeCells v.cells n = (List.replicate n v).toArray := by
  rw [hv]
  unfold madeCells
  apply Array.toList_inj.1
  apply List.ext_getElem
  · simp
  · intro i h1 h2
    simp [Nat.mod_one]
theorem Mk_blk {H : Heap} {t bytes : Nat} {v : Value} (hv : v.cells = #[v]) {n : Nat} (h1 : n ≤ maxLen) (h2 : bytes * n ≤ 281474976710656) {R : Value → Heap → Prop}
    (h : ∀ H', Blk H' H.size t (List.replicate n v) → Fr [] H H' → R (.slice (some ⟨H.size, 0, none⟩) n n) H') : Mk H t 1 v n n bytes R := by
  unfold maxLen at h1
  refine ⟨by omega, by omega, by omega, ?_, ?_⟩
  · have : ((bytes * n : Nat) : Int) = (bytes : Int) * (n : Int) := Int.natCast_mul _ _
    omega
  · rw [Int.toNat_natCast, Nat.mul_one, made1 v hv]
    exact h _ (by unfold Blk; simp) (fr_push _ _ _)
/-- The marks of tokens. -/
def marks : List Tk → List Bool → List Bool
  | [], bl => bl
  | t :: r, bl => marks r (bl.set t.at_.toNat (decide (t.kind ≠ 6)))
theorem marks_snoc : ∀ (l : List Tk) (t : Tk) (bl : List Bool), marks (l ++ [t]) bl = (marks l bl).set t.at_.toNat (decide (t.kind ≠ 6))
  | [], t, bl => rfl
  | x :: l, t, bl => marks_snoc l t _
theorem marks_len : ∀ (l : List Tk) (bl : List Bool), (marks l bl).length = bl.length
  | [], bl => rfl
  | x :: l, bl => by rw [marks, marks_len l, List.length_set]
theorem marks_no : ∀ (l : List Tk) (bl : List Bool) (p : Nat), (∀ t ∈ l, t.at_.toNat ≠ p) → (marks l bl)[p]? = bl[p]?
  | [], bl, p, h => rfl
  | x :: l, bl, p, h => by
    rw [marks, marks_no l _ p fun t ht => h t (List.mem_cons_of_mem _ ht), List.getElem?_set_ne (h x (by simp))]
theorem marks_at : ∀ (l : List Tk) (bl : List Bool), (∀ t ∈ l, 0 ≤ t.at_ ∧ t.at_ < bl.length) → l.Pairwise (fun a b => a.at_ < b.at_) → ∀ t ∈ l, (marks l bl)[t.at_.toNat]? = some (decide (t.kind ≠ 6))
  | [], bl, h, hp, t, ht => by simp at ht
  | x :: l, bl, h, hp, t, ht => by
    obtain ⟨h1, h2⟩ := List.pairwise_cons.1 hp
    have hx := h x (by simp)
    rcases List.mem_cons.1 ht with rfl | ht
    · rw [marks, marks_no l _ _ fun b hb => by have := h1 b hb; omega, List.getElem?_set_self (by omega)]
    · exact marks_at l _ (fun b hb => by rw [List.length_set]; exact h b (List.mem_cons_of_mem _ hb)) h2 t ht
set_option maxHeartbeats 2000000 in
theorem offsets_law (s : Bs) (hl : s.length ≤ maxLen) {H : Heap} (hG : GlobH H) : HCalls Tryd.prog 4 #[sv s] H fun v H' => v = .bool true ∧ Fr [] H H' := by
  refine calls_of_vc (args := [_]) Tryd.func4 c4ok (Nat.le_of_ble_eq_true rfl) ?_
  have L := L0 H
  simp (implicitDefEqProofs := false) only [go_sem, c4]
  refine (awake_ok (hG.ext L.fr)).mono ?_
  rintro v H1 ⟨rfl, hf1⟩
  have L := L.ext hf1
  simp (implicitDefEqProofs := false) only [go_sem]
  refine (pexpr_ok s hl (hG.ext L.fr)).mono ?_
  rintro v H2 ⟨hv, hf2⟩
  have hsrc := src_expr s
  cases e : srcP (exprP (loK 64)) s with
  | error er =>
    rw [e] at hv hsrc
    simp only [ResR] at hv
    subst hv
    obtain ⟨hc, ha, hb⟩ := hsrc
    have L := L.ext hf2
    simp (implicitDefEqProofs := false) only [go_sem, zeroN, sv]
    refine L.newP fun b1 H3 L => ?_
    simp (implicitDefEqProofs := false) only [go_sem]
    refine L.newP fun b2 H4 L => ?_
    simp (implicitDefEqProofs := false) only [go_sem]
    refine L.stoAll 1 rfl rfl (one_agg (t := []) rfl) fun H5 L => ?_
    simp only [List.set_cons_zero, List.set_cons_succ, List.set_nil, List.eraseIdx_cons_zero, List.eraseIdx_cons_succ] at L
    simp (implicitDefEqProofs := false) only [go_sem]
    refine L.stoAll 0 rfl rfl (by simp [Value.oneCell']) fun H6 L => ?_
    simp only [List.set_cons_zero, List.set_cons_succ, List.set_nil, List.eraseIdx_cons_zero, List.eraseIdx_cons_succ] at L
    have c0 := L.cell 0 rfl
    have c1 := L.cell 1 rfl
    have hz : NA H6 (.mk 0 [] 0 0 []) (.agg #[.int .i64 0, sv [], .int .i64 0, .int .i64 0, .slice none 0 0]) := NA.mk (zeroKids (B := fun _ => False) [] (by simp))
    have hsame := same_ok _ _ _ (Nat.le_refl _) hz hz
    have hrefl : sameN (.mk 0 [] 0 0 []) (.mk 0 [] 0 0 []) = true := by simp [sameN, sameL]
    rw [hrefl] at hsame
    unfold sv at hsame
    simp (implicitDefEqProofs := false) only [go_sem, c0, c1, hc, ha, hb, sv]
    refine hsame.mono ?_
    rintro v H7 ⟨rfl, hf7⟩
    have L := L.ext hf7
    have c0 := L.cell 0 rfl
    have c1 := L.cell 1 rfl
    simp (implicitDefEqProofs := false) only [go_sem, c0, c1]
    exact L.fr
  | ok n =>
    rw [e] at hv hsrc
    simp only [ResR] at hv
    obtain ⟨cs, rfl, hr⟩ := hv
    obtain ⟨T, hlex, hal⟩ := hsrc
    obtain ⟨kk, tt, nn, aa, ks⟩ := n
    obtain ⟨kv, rfl, hkv⟩ := RepP.nd_open hr
    have L := (L.ext hf2).add (L.built hkv)
    simp (implicitDefEqProofs := false) only [go_sem]
    refine L.newP fun b1 H3 L => ?_
    simp (implicitDefEqProofs := false) only [go_sem]
    refine L.newP fun b2 H4 L => ?_
    simp (implicitDefEqProofs := false) only [go_sem]
    refine L.stoAll 1 rfl rfl (one_agg (nd_one (L.dat (kidsD ks, [kv]) (by simp)))) fun H5 L => ?_
    simp only [List.set_cons_zero, List.set_cons_succ, List.set_nil, List.eraseIdx_cons_zero, List.eraseIdx_cons_succ] at L
    simp (implicitDefEqProofs := false) only [go_sem]
    refine L.stoAll 0 rfl rfl (by simp [Value.oneCell']) fun H6 L => ?_
    simp only [List.set_cons_zero, List.set_cons_succ, List.set_nil, List.eraseIdx_cons_zero, List.eraseIdx_cons_succ] at L
    have c0 := L.cell 0 rfl
    simp (implicitDefEqProofs := false) only [go_sem, c0]
    refine (lex_ok s hl (hG.ext L.fr)).mono ?_
    rintro v H7 ⟨hv, hf7⟩
    rw [hlex] at hv
    simp only [LexR] at hv
    obtain ⟨a, cT, rfl, hcap1, hcap2, hrow⟩ := hv
    have L := L.ext hf7
    simp (implicitDefEqProofs := false) only [go_sem, ftV]
    refine NewP_intro fun H8 hn8 hf8 hs8 => ?_
    have L := L.push hf8 hn8
    simp (implicitDefEqProofs := false) only [go_sem]
    refine Sto_all hn8 rfl (by simp [Value.oneCell']) fun H9 hn9 hf9 hs9 => ?_
    have L := L.sto 0 rfl hf9 hn9
    simp only [List.set_cons_zero, List.set_cons_succ, List.set_nil, List.eraseIdx_cons_zero, List.eraseIdx_cons_succ] at L
    have c0 := L.cell 0 rfl
    have h65 : s.length ≤ 65536 := by
      unfold lexT at hlex
      split at hlex
      · cases hlex
      · omega
    have hw : IntKind.i64.wrap ((s.length : Int) + 1) = ((s.length + 1 : Nat) : Int) := by rw [wrap_i64_id _ (by omega) (by omega)]; omega
    obtain ⟨hT1, hT2, hT3⟩ := lexT_len hlex
    have hoff : (∀ t ∈ T, 0 ≤ t.at_ ∧ t.at_ ≤ (s.length : Int)) ∧ T.Pairwise (fun a b => a.at_ < b.at_) := by
      unfold lexT at hlex
      split at hlex
      · cases hlex
      · obtain ⟨h1, h2⟩ := lexF_off _ _ _ _ hlex
        exact ⟨fun t ht => by have := h1 t ht; simp at this; exact this, h2⟩
    simp (implicitDefEqProofs := false) only [go_sem, c0, sv, hw]
    refine Mk_blk (n := s.length + 1) (t := 4) (bytes := 1) (v := .bool false) rfl (by unfold maxLen; omega) (by omega) fun H10 hB hf10 => ?_
    have hlt9 : ∀ rb o, a = some ⟨rb, o, none⟩ → rb < H7.size := by
      intro rb o ea
      obtain ⟨rb', ro, ha, hget⟩ := RowR.get hrow tkC_len 0 (List.length_pos_iff.2 hT2) (by decide)
      rw [ha] at ea; cases ea
      have := cellB_lt (hget 0 (by decide))
      omega
    have hrow9 : RowR tkC H9 a T := (hrow.ext hf8).fr hf9 fun b o ea => by have := hlt9 b o ea; simp only [List.mem_singleton]; omega
    have hrow10 := hrow9.ext hf10
    have hsz9 : H7.size ≤ H9.size := by have := hf8.size; have := hf9.size; omega
    have L := L.push hf10 hB
    simp (implicitDefEqProofs := false) only [go_sem]
    refine vc_loop (fun (i : Nat) H' => i ≤ T.length ∧ RowR tkC H' a T ∧ Lv [] H [] (fun _ => True) H' [.blk H9.size 4 ((marks (T.take i) (List.replicate (s.length + 1) false)).map Value.bool), .blk H7.size 31 [.int .i64 0, .int .i64 0], .blk b2 31 [.int .i64 0, .int .i64 0], .blk b1 24 [.int .i64 kk, sv tt, .int .i64 nn, .int .i64 aa, kv]] [(kidsD ks, [kv])])
      (fun i => [(0, sv s), (3, .pointer (some ⟨b1, 0, none⟩)), (5, .slice a T.length cT), (7, .slice (some ⟨H9.size, 0, none⟩) (s.length + 1) (s.length + 1)), (8, .int .i64 i)]) (fun i => T.length - i) 0 ?_ ?_ ?_
    · refine ⟨Nat.zero_le _, hrow10, ?_⟩
      simp only [List.take_zero, marks, List.map_replicate]
      exact L
    · simp (implicitDefEqProofs := false) only [go_sem, sv]
    · rintro i H11 ⟨hi, hrow, L⟩
      rcases Nat.lt_or_ge i T.length with hlt | hge
      · obtain ⟨rb, ro, ha, p⟩ := RowR.get hrow tkC_len i hlt (by decide)
        have hrb := hlt9 _ _ ha
        have q0 := p 0 (by decide)
        have q3 := p 3 (by decide)
        simp only [tkC, Nat.add_zero, List.getElem?_cons_zero, List.getElem?_cons_succ] at q0 q3
        have h0 : (0 : Int) ≤ (i : Int) := by omega
        have h1 : (i : Int) < (T.length : Int) := by omega
        obtain ⟨g0, g1⟩ := hoff.1 _ (List.getElem_mem hlt)
        have g2 : ¬ T[i].at_ < 0 := by omega
        have g3 : ¬ (s.length : Int) < T[i].at_ := by omega
        have g4 : T[i].at_ < ((s.length + 1 : Nat) : Int) := by omega
        have hw2 : IntKind.i64.wrap ((i : Int) + 1) = ((i + 1 : Nat) : Int) := by rw [wrap_i64_id _ (by omega) (by omega)]; omega
        rw [ha]
        simp (implicitDefEqProofs := false) only [go_sem, h0, h1, q0, q3, g0, g2, g3, g4, sv]
        refine Sto_one (L.get 0 rfl) (by simp only [List.length_map, marks_len, List.length_replicate]; omega) rfl fun H12 hn12 hf12 _ => ?_
        have L := L.sto 0 rfl hf12 hn12
        simp only [List.set_cons_zero, List.set_cons_succ, List.set_nil, List.eraseIdx_cons_zero, List.eraseIdx_cons_succ] at L
        have hrow := hrow.fr hf12 fun b o ea => by have := hlt9 b o ea; simp only [List.mem_singleton]; omega
        simp (implicitDefEqProofs := false) only [go_sem, hw2]
        refine loopK_intro (i + 1) ?_ ?_ ⟨by omega, by rw [← ha]; exact hrow, ?_⟩
        · show T.length - (i + 1) < T.length - i
          omega
        · simp (implicitDefEqProofs := false) only [go_sem, hw2, sv, ha]
        · have e : (marks (T.take (i + 1)) (List.replicate (s.length + 1) false)).map Value.bool = ((marks (T.take i) (List.replicate (s.length + 1) false)).map Value.bool).set T[i].at_.toNat (.bool !decide (T[i].kind = 6)) := by
            rw [List.take_succ_eq_append_getElem hlt, marks_snoc, List.map_set]
            simp
          rw [e]
          exact L
      · have h1 : ¬ ((i : Int) < (T.length : Int)) := by omega
        obtain rfl : i = T.length := by omega
        have cn := L.cell 3 rfl
        simp (implicitDefEqProofs := false) only [go_sem, h1, cn]
        have hbl : (marks T (List.replicate (s.length + 1) false)).length = s.length + 1 := by rw [marks_len, List.length_replicate]
        have hall : Nd.al (StB (marks T (List.replicate (s.length + 1) false))) (.mk kk tt nn aa ks) := by
          refine al_of ?_ _ _ (Nat.le_refl _) hal
          rintro _ ⟨t, ht, hk, rfl⟩
          have hto := hoff.1 t ht
          refine ⟨t.at_.toNat, by omega, ?_⟩
          rw [marks_at T _ (fun t' ht' => by have := hoff.1 t' ht'; rw [List.length_replicate]; omega) hoff.2 t ht, decide_eq_true hk]
        have hB2 := L.get 0 rfl
        rw [List.take_length] at hB2
        have hcall := placed_ok (bs := H9.size) (by rw [hbl]; unfold maxLen; omega) _ _ (Nat.le_refl _) hall (NA.mk (L.dat (kidsD ks, [kv]) (by simp)).rep) hB2
        rw [hbl] at hcall
        refine hcall.mono ?_
        rintro v H12 ⟨rfl, hf12⟩
        simp (implicitDefEqProofs := false) only [go_sem]
        exact L.fr.trans hf12
end Go.Proofs.YtbgjgaaobnbijaaDoor
end
section
/- From a call on heaps to a row that lists variables. -/
set_option linter.unusedSimpArgs false
set_option linter.unusedVariables false
set_option maxRecDepth 8000
namespace Go.Proofs.YtbgjgaaobnbijaaDoor
open Gx Go Go.ChangeShapes Go.WideShapes Go.ChangeAt Go.RowKit

def laidL : List (String × DataW Unit) := Rows.parserTreesRow.laid
theorem own : ownKnob Tryd.prog.godebug = none := by kernel_rfl
theorem laidOut : laidOutB Tryd.prog = true := by kernel_rfl
theorem plainLaid : (laidL.filter fun x => x.2.handleName?.isSome) = [] := by kernel_rfl

theorem heap_of_var {P : Program} {W : World} {name : String} {g : Nat} {cs : Array Value} (hg : P.globalNamed name = some g) (h : W.var? P name = some cs) : ∃ t fr, W.heap[g]? = some (.cells cs t fr) := by
  unfold World.var? at h
  rw [hg, Option.bind_some] at h
  split at h
  · rename_i c t fr he
    simp only [Option.some.injEq] at h
    subst h
    exact ⟨t, fr, he⟩
  · cases h

theorem glob_of_laid {W : World} (h : laidMetH Tryd.prog laidL W) : GlobH W.heap := by
  rw [MakeChecks.laidMetH_plain _ _ _ (by kernel_rfl)] at h
  obtain ⟨ps, ⟨g0, t0, cs0, f0, p0, q0, hg0, ht0, hv0, hd0, ⟨g1, t1, cs1, f1, p1, q1, hg1, ht1, hv1, hd1, ⟨g2, t2, cs2, f2, p2, q2, hg2, ht2, hv2, hd2, ⟨g3, t3, cs3, f3, p3, q3, hg3, ht3, hv3, hd3, _, _⟩, _⟩, _⟩, _⟩, _, _⟩ := h
  obtain rfl := Option.some.inj (gTab.symm.trans hg2)
  obtain rfl := Option.some.inj (gErr.symm.trans hg3)
  have e2 : (Tryd.prog.globals[0]?).map (·.type) = some 119 := by kernel_rfl
  have e3 : (Tryd.prog.globals[3]?).map (·.type) = some 84 := by kernel_rfl
  obtain rfl := Option.some.inj (e2.symm.trans ht2)
  obtain rfl := Option.some.inj (e3.symm.trans ht3)
  obtain ⟨t2', fr2, hh2⟩ := heap_of_var hg2 hv2
  obtain ⟨t3', fr3, hh3⟩ := heap_of_var hg3 hv3
  have hc := Lib.cells_of_tab (k := .u64) (zs := Lib.pow10Tab) Tryd.underlying119 Tryd.underlying103 (by kernel_rfl) (by kernel_rfl) hd2
  obtain ⟨_, u, v, hcs3, _, _⟩ := iface_of_trod Tryd.underlying84 hd3
  refine ⟨⟨.iface u v, ?_, .inr ⟨u, v, rfl⟩⟩, t2', fr2, ?_⟩
  · unfold cellB
    rw [hh3]
    show cs3[0]? = _
    rw [← Array.getElem?_toList, hcs3]; rfl
  · rw [hh2, ← hc]

/-- The door's own heap meets the condition. -/
theorem door_met (os : Os) (args : Array Value) : laidMetH Tryd.prog laidL ((World.doorLaid Tryd.prog 400 os).forCall (fun _ _ => 0) ⟨#[], args, []⟩).memory :=
  laidMetH_of_parts3 (fuel := 8) (laidMet_of_run' 8 (by kernel_rfl) (by kernel_rfl)) (by kernel_rfl) (by kernel_rfl)

theorem law_row_laid {H : Type} {enc : TypeId × Value → H} {os : Os} {f : FuncId} {fn : Func} {s : ChangeSpec} {tb : TypeId} (started : os.Started) (noInit : Tryd.prog.inits.idxOf? f = none) (hf : Tryd.prog.funcs[f]? = some fn)
    (hpar : fn.params.toList.all (fun t => Tryd.prog.readableRec t && decide (t < Tryd.prog.types.size)) = true) (hres : fn.resultTypes = #[tb]) (htb : Tryd.prog.underlying tb = some .bool) (hv : s.vars = [])
    (hfn : ∀ (K : Type) (ds : List (DataW K)), ds.length = fn.params.size → s.fn K ds = { results := [.lit (.bool true)], args := ds })
    (witness : ∃ (w : World) (tape : Tape) (i : Input), w.os = os ∧ (w.forCall tape i).Shaped Tryd.prog ∧ i.vars = [] ∧ Input.okWide Tryd.prog (w.forCall tape i) .any w.heap.size f i ∧
      ((s.pre enc Tryd.prog fn [] false (w.forCall tape i).memory i.args ∧ laidMetH Tryd.prog laidL (w.forCall tape i).memory) ∧ sizedMet enc Tryd.prog fn (OpenSpec.ofChange s) false (w.forCall tape i).memory i.args) ∧
      Assume.holds {} Tryd.prog (lone (Frame.enter Tryd.prog f i.args .normal) [] (w.forCall tape i)))
    (contract : ∀ (W : World) (base : Nat) (args : Array Value) (ds : List (DataW H)) (ps : List MemPlace),
      (∀ (j : Nat) t v, fn.params[j]? = some t → args[j]? = some v → Value.okWide Tryd.prog W .any base t v) →
      DataW.TrodAll enc Tryd.prog W 0 (fun _ => true) true fn.params.toList args.toList ds ps → GlobH W.heap → HCalls Tryd.prog f args W.heap fun v H' => v = .bool true ∧ Fr [] W.heap H') :
    ReturnsInHanded {} Tryd.checked os f .any (fun w args => (s.pre enc Tryd.prog fn [] false w args ∧ laidMetH Tryd.prog laidL w) ∧ sizedMet enc Tryd.prog fn (OpenSpec.ofChange s) false w args) (s.post enc Tryd.prog fn false true false false) := by
  refine returnsInHanded_of_change_and (C := Tryd.checked) (X := fun w _ => laidMetH Tryd.prog laidL w) (fun _ _ _ hh h => h.of_heap hh) own started noInit hf witness ?_
  intro W base args ds gs before hval hW _ _ hL _
  have hW' := hW
  obtain ⟨p, q, hA, hV, rfl, hz, hn⟩ := hW
  have hV' := hV
  rw [hv] at hV'
  obtain ⟨rfl, rfl⟩ := trodVars_none hV'
  refine ((contract W base args ds p hval hA (glob_of_laid hL)).out W rfl).mono fun e W' ⟨v, he, ⟨hvt, hfr⟩, hs⟩ => ?_
  subst hvt
  refine ⟨_, he, law_post laidOut hpar hres htb hv ?_ hW' (below_of hs hfr)⟩
  rw [List.append_nil]
  exact hfn H ds (by have := trodAll_len hA; simpa using this)
end Go.Proofs.YtbgjgaaobnbijaaDoor
end
