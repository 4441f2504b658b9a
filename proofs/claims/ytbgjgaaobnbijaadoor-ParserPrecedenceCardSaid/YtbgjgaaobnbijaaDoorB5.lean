import Derived.Test.YtbgjgaaobnbijaaDoorB4
import Derived.Test.YtbgjgaaobnbijaaDoorB3
section
/- Arguments; primaries: contracts. -/
set_option linter.unusedSimpArgs false
set_option linter.unusedVariables false
set_option maxRecDepth 8000
namespace Go.Proofs.YtbgjgaaobnbijaaDoor
open Gx Go

section
variable {X : Cx} {H0 H H' : Heap} {ts0 ts r : List Tk} {k0 k : Nat} {l : List Ent} {ds : List (Dat × List Value)}
/-- A tree more in a row of trees. -/
theorem _root_.Gx.Lv.appN {nb tn : Nat} {R : Value → Heap → Prop} {kk nn aa : Int} {tt : Bs} {ks : List Nd} {kv v : Value} {g : Option Nat} {ns : List Nd} (L : PLv X H0 ts k H (.blk nb tn [.int .i64 kk, sv tt, .int .i64 nn, .int .i64 aa, kv] :: l) ds)
    (i : Nat) (hi : l[i]? = some (.row 24 5 v (ns.map Nd.dat) g)) (hk : (kidsD ks, [kv]) ∈ ds) (h63 : ns.length + 1 ≤ 1048576)
    (hR : ∀ a c g' H', PLv X H0 ts k H' (l.set i (.row 24 5 (.slice a (ns ++ [Nd.mk kk tt nn aa ks]).length c) ((ns ++ [Nd.mk kk tt nn aa ks]).map Nd.dat) g')) ds → R (.slice a (ns ++ [Nd.mk kk tt nn aa ks]).length c) H') :
    App Tryd.prog 22 22 22 H v (.slice (some ⟨nb, 0, none⟩) 1 1) R := by
  have L1 : PLv X H0 ts k H l ds := Lv.drop L (List.sublist_cons_self _ _) fun p hp => hp
  refine Lv.app L ENd i hi Tryd.underlying22 rfl (one_agg (L.one hk)) (d := Nd.dat (.mk kk tt nn aa ks)) (L1.ndr hk) rfl (by simp [maxLen]; omega) (by simp; omega) fun a c g' H' L' => ?_
  have e : ns.map Nd.dat ++ [Nd.dat (.mk kk tt nn aa ks)] = (ns ++ [Nd.mk kk tt nn aa ks]).map Nd.dat := by simp
  have e2 : (ns.map Nd.dat).length + 1 = (ns ++ [Nd.mk kk tt nn aa ks]).length := by simp
  rw [e, e2] at L'
  rw [e2]
  exact hR a c g' H' L'
end

theorem argument_ok {k : Nat} {e : PP Nd} (hex : POk k 26 [] e NdR) (fn : Bs) : POk k 110 [sv fn] (argP e fn) NdR := by
  refine ⟨fun {X H ts} hs => ?_⟩
  refine pcalls_of_vc (args := [_, _]) Tryd.func110 c110ok (Nat.le_of_ble_eq_true rfl) ?_
  have L := hs.walk
  unfold sv
  simp (implicitDefEqProofs := false) only [go_sem, c110]
  refine L.newP fun b1 H1 L => ?_
  simp (implicitDefEqProofs := false) only [go_sem]
  refine look_go L fun H2 L => ?_
  simp (implicitDefEqProofs := false) only [go_sem, tkC]
  refine L.newP fun b2 H3 L => ?_
  simp (implicitDefEqProofs := false) only [go_sem]
  refine L.stoAll 0 rfl rfl (one_agg (t := []) rfl) fun H4 L => ?_
  simp only [List.set_cons_zero, List.set_cons_succ, List.set_nil, List.eraseIdx_cons_zero, List.eraseIdx_cons_succ] at L
  by_cases e1 : fn = [114, 101, 99]
  · subst e1
    have hp : argP e [114, 101, 99] ts = bd (takeP 1) (fun t => bd (expP [58]) fun _ => bd e fun x => ret (.mk 52 t.text 0 (hd ts).at_ [x])) ts := by simp only [argP, if_true]
    simp (implicitDefEqProofs := false) only [go_sem, ba_eq]
    refine (take_ok 1 (by decide)).go hs L hp fun t r v H5 L hp _ hv => ?_
    cases hv
    simp (implicitDefEqProofs := false) only [go_sem, tkC, sv]
    refine L.stoOne 0 rfl (by simp) rfl fun H6 L => ?_
    simp only [List.set_cons_zero, List.set_cons_succ, List.set_nil, List.eraseIdx_cons_zero, List.eraseIdx_cons_succ] at L
    simp (implicitDefEqProofs := false) only [go_sem]
    refine (expect_ok [58]).go hs L hp fun _ r v H7 L hp _ _ => ?_
    have L := L.row0 24 5
    have c := L.cell 1 rfl
    simp (implicitDefEqProofs := false) only [go_sem, c]
    refine hex.goN hs L hp fun kk tt nn aa ks kv r H8 L hp he => ?_
    have c := L.cell 1 rfl
    simp (implicitDefEqProofs := false) only [go_sem, c]
    refine L.newS fun b3 H9 L => ?_
    have c := L.cell 2 rfl
    simp (implicitDefEqProofs := false) only [go_sem, c]
    refine L.appN (ns := []) (ks := ks) 0 rfl (by simp) (by decide) fun a c g' H10 L => ?_
    simp only [List.set_cons_zero, List.set_cons_succ, List.set_nil, List.eraseIdx_cons_zero, List.eraseIdx_cons_succ] at L
    simp (implicitDefEqProofs := false) only [go_sem]
    refine L.stoOne 1 rfl (by simp) rfl fun H11 L => ?_
    simp only [List.set_cons_zero, List.set_cons_succ, List.set_nil, List.eraseIdx_cons_zero, List.eraseIdx_cons_succ] at L
    have L := L.rowN 0 [.mk kk tt nn aa ks] rfl
    simp only [List.set_cons_zero, List.set_cons_succ, List.set_nil, List.eraseIdx_cons_zero, List.eraseIdx_cons_succ] at L
    have c := L.cell 0 rfl
    simp (implicitDefEqProofs := false) only [go_sem, c]
    refine L.stoAll 1 rfl rfl (one_agg rfl) fun HZ L => ?_
    simp only [List.set_cons_zero, List.set_cons_succ, List.set_nil, List.eraseIdx_cons_zero, List.eraseIdx_cons_succ] at L
    have c := L.cell 1 rfl
    simp (implicitDefEqProofs := false) only [go_sem, c]
    exact L.fin hp (.inl (by simp))
  · by_cases e2 : fn = [109, 97, 112]
    · subst e2
      have hp : argP e [109, 97, 112] ts = bd e (fun x => bd (expP [58]) fun _ => bd e fun y => ret (.mk 52 [] 0 (hd ts).at_ [x, y])) ts := by simp [argP]
      simp (implicitDefEqProofs := false) only [go_sem, ba_eq, e1]
      refine hex.goN hs L hp fun kk tt nn aa ks kv r H5 L hp _ => ?_
      simp (implicitDefEqProofs := false) only [go_sem]
      refine L.newS fun b3 H6 L => ?_
      have L := L.rowN1 (ks := ks) (by simp)
      simp (implicitDefEqProofs := false) only [go_sem]
      refine L.stoOne 1 rfl (by simp) rfl fun H7 L => ?_
      simp only [List.set_cons_zero, List.set_cons_succ, List.set_nil, List.eraseIdx_cons_zero, List.eraseIdx_cons_succ] at L
      simp (implicitDefEqProofs := false) only [go_sem]
      refine (expect_ok [58]).go hs L hp fun _ r v H8 L hp _ _ => ?_
      have c := L.cell 1 rfl
      simp (implicitDefEqProofs := false) only [go_sem, c]
      refine hex.goN hs L hp fun kk' tt' nn' aa' ks' kv' r H9 L hp _ => ?_
      have c := L.cell 1 rfl
      simp (implicitDefEqProofs := false) only [go_sem, c]
      refine L.newS fun b4 H10 L => ?_
      have c := L.cell 2 rfl
      simp (implicitDefEqProofs := false) only [go_sem, c]
      refine L.appN (ns := [.mk kk tt nn aa ks]) (ks := ks') 0 rfl (by simp) (by simp) fun a c g' H11 L => ?_
      simp only [List.set_cons_zero, List.set_cons_succ, List.set_nil, List.eraseIdx_cons_zero, List.eraseIdx_cons_succ] at L
      simp (implicitDefEqProofs := false) only [go_sem]
      refine L.stoOne 1 rfl (by simp) rfl fun H12 L => ?_
      simp only [List.set_cons_zero, List.set_cons_succ, List.set_nil, List.eraseIdx_cons_zero, List.eraseIdx_cons_succ] at L
      have L := L.rowN 0 [.mk kk tt nn aa ks, .mk kk' tt' nn' aa' ks'] rfl
      simp only [List.set_cons_zero, List.set_cons_succ, List.set_nil, List.eraseIdx_cons_zero, List.eraseIdx_cons_succ] at L
      have c := L.cell 0 rfl
      simp (implicitDefEqProofs := false) only [go_sem, c]
      refine L.stoAll 1 rfl rfl (one_agg (t := []) rfl) fun HZ L => ?_
      simp only [List.set_cons_zero, List.set_cons_succ, List.set_nil, List.eraseIdx_cons_zero, List.eraseIdx_cons_succ] at L
      have c := L.cell 1 rfl
      simp (implicitDefEqProofs := false) only [go_sem, c]
      exact L.fin hp (.inl (by simp))
    · have hp : argP e fn ts = e ts := by simp only [argP, e1, e2, if_false]
      simp (implicitDefEqProofs := false) only [go_sem, ba_eq, e1, e2]
      refine hex.goL hs L hp fun kk tt nn aa ks kv r H5 L hp => ?_
      simp (implicitDefEqProofs := false) only [go_sem]
      refine L.stoAll 1 rfl rfl (one_agg (L.one (ks := ks) (by simp))) fun H6 L => ?_
      simp only [List.set_cons_zero, List.set_cons_succ, List.set_nil, List.eraseIdx_cons_zero, List.eraseIdx_cons_succ] at L
      have c := L.cell 1 rfl
      simp (implicitDefEqProofs := false) only [go_sem, c]
      exact L.fin hp (.inl (by simp))

theorem functions_ok (s : Bs) (H : Heap) : HCalls Tryd.prog 109 #[sv s] H fun v H' => v = .bool (decide (s ∈ fnList)) ∧ Fr [] H H' := by
  refine calls_of_vc (args := [_]) Tryd.func109 c109ok (Nat.le_of_ble_eq_true rfl) ?_
  unfold sv
  by_cases h : s ∈ fnList
  · rw [decide_eq_true h]
    simp only [fnList, List.mem_cons, List.not_mem_nil, or_false] at h
    rcases h with rfl | rfl | rfl | rfl | rfl | rfl | rfl | rfl | rfl | rfl | rfl | rfl | rfl | rfl | rfl | rfl | rfl <;>
      · simp (implicitDefEqProofs := false) only [go_sem, c109, ba_eq]
        simp [Fr.refl]
  · rw [decide_eq_false h]
    simp only [fnList, List.mem_cons, List.not_mem_nil, or_false, not_or] at h
    obtain ⟨h1, h2, h3, h4, h5, h6, h7, h8, h9, h10, h11, h12, h13, h14, h15, h16, h17⟩ := h
    simp (implicitDefEqProofs := false) only [go_sem, c109, ba_eq, h1, h2, h3, h4, h5, h6, h7, h8, h9, h10, h11, h12, h13, h14, h15, h16, h17]
    exact Fr.refl _ _

theorem comma_lt {ts r : List Tk} (h : commaP ts = .ok (true, r)) (hn : ts ≠ []) : r.length < ts.length := by
  unfold commaP at h
  split at h
  · cases h
    have := List.length_pos_iff.2 hn
    simp; omega
  · unfold bd at h
    split at h
    · cases h
    · simp [ret] at h
theorem lo_0 : loK 0 = none := rfl
theorem lo_s (j : Nat) : ∃ x, loK (j + 1) = some x := ⟨_, rfl⟩
set_option maxHeartbeats 2000000 in
theorem primary_ok {k : Nat} (hex : ∀ j, k = j + 1 → POk j 26 [] (lev j).1 NdR) : POk k 108 [] (primP (loK k)) NdR := by
  refine ⟨fun {X H ts} hs => ?_⟩
  refine pcalls_of_vc (args := [_]) Tryd.func108 c108ok (Nat.le_of_ble_eq_true rfl) ?_
  have L := hs.walk
  simp (implicitDefEqProofs := false) only [go_sem, c108]
  refine L.newP fun b1 H1 L => ?_
  simp (implicitDefEqProofs := false) only [go_sem]
  refine look_go L fun H2 L => ?_
  simp (implicitDefEqProofs := false) only [go_sem, tkC]
  refine L.newP fun b2 H3 L => ?_
  simp (implicitDefEqProofs := false) only [go_sem]
  refine L.stoAll 0 rfl rfl (one4' (hd ts)) fun H4 L => ?_
  simp only [List.set_cons_zero, List.set_cons_succ, List.set_nil, List.eraseIdx_cons_zero, List.eraseIdx_cons_succ] at L
  have c := L.cell 0 rfl
  simp (implicitDefEqProofs := false) only [go_sem, c]
  refine L.newP fun b3 H5 L => ?_
  simp (implicitDefEqProofs := false) only [go_sem]
  refine L.stoAll 0 rfl rfl (one_agg (t := []) rfl) fun H6 L => ?_
  simp only [List.set_cons_zero, List.set_cons_succ, List.set_nil, List.eraseIdx_cons_zero, List.eraseIdx_cons_succ] at L
  have c := L.cell 1 rfl
  obtain ⟨hp, _⟩ : primP (loK k) ts = primP (loK k) ts ∧ True := ⟨rfl, trivial⟩
  conv at hp => rhs; unfold primP
  by_cases k3 : (hd ts).kind = 3
  · rw [if_pos (.inl k3)] at hp
    simp (implicitDefEqProofs := false) only [go_sem, c, k3]
    refine integer_ok.goL hs L hp fun kk tt nn aa ks kv r H5 L hp => ?_
    simp (implicitDefEqProofs := false) only [go_sem]
    refine L.stoAll 2 rfl rfl (one_agg (L.one (ks := ks) (by simp))) fun HZ L => ?_
    simp only [List.set_cons_zero, List.set_cons_succ, List.set_nil, List.eraseIdx_cons_zero, List.eraseIdx_cons_succ] at L
    have c := L.cell 2 rfl
    simp (implicitDefEqProofs := false) only [go_sem, c]
    exact L.fin hp (.inl (by simp))
  simp (implicitDefEqProofs := false) only [go_sem, c, k3]
  refine is_go L [45] fun H7 L => ?_
  cases e45 : isB [45] ts with
  | true =>
    rw [if_pos (.inr e45)] at hp
    simp (implicitDefEqProofs := false) only [go_sem]
    refine integer_ok.goL hs L hp fun kk tt nn aa ks kv r H5 L hp => ?_
    simp (implicitDefEqProofs := false) only [go_sem]
    refine L.stoAll 2 rfl rfl (one_agg (L.one (ks := ks) (by simp))) fun HZ L => ?_
    simp only [List.set_cons_zero, List.set_cons_succ, List.set_nil, List.eraseIdx_cons_zero, List.eraseIdx_cons_succ] at L
    have c := L.cell 2 rfl
    simp (implicitDefEqProofs := false) only [go_sem, c]
    exact L.fin hp (.inl (by simp))
  | false =>
  rw [if_neg (by rw [e45]; simp [k3])] at hp
  have c := L.cell 1 rfl
  by_cases k4 : (hd ts).kind = 4
  · rw [if_pos k4] at hp
    simp (implicitDefEqProofs := false) only [go_sem, c, k4]
    refine quote_ok.goL hs L hp fun kk tt nn aa ks kv r H5 L hp => ?_
    simp (implicitDefEqProofs := false) only [go_sem]
    refine L.stoAll 2 rfl rfl (one_agg (L.one (ks := ks) (by simp))) fun HZ L => ?_
    simp only [List.set_cons_zero, List.set_cons_succ, List.set_nil, List.eraseIdx_cons_zero, List.eraseIdx_cons_succ] at L
    have c := L.cell 2 rfl
    simp (implicitDefEqProofs := false) only [go_sem, c]
    exact L.fin hp (.inl (by simp))
  rw [if_neg k4] at hp
  by_cases k1 : (hd ts).kind = 1
  · rw [if_pos k1] at hp
    simp (implicitDefEqProofs := false) only [go_sem, c, k4, k1]
    refine (named_ok 48).goL hs L hp fun kk tt nn aa ks kv r H5 L hp => ?_
    simp (implicitDefEqProofs := false) only [go_sem]
    refine L.stoAll 2 rfl rfl (one_agg (L.one (ks := ks) (by simp))) fun HZ L => ?_
    simp only [List.set_cons_zero, List.set_cons_succ, List.set_nil, List.eraseIdx_cons_zero, List.eraseIdx_cons_succ] at L
    have c := L.cell 2 rfl
    simp (implicitDefEqProofs := false) only [go_sem, c]
    exact L.fin hp (.inl (by simp))
  rw [if_neg k1] at hp
  simp (implicitDefEqProofs := false) only [go_sem, c, k4, k1]
  refine accept_go hs L [116, 114, 117, 101] (fun e H7 L => ?_) fun e H7 L => ?_
  · rw [if_pos e] at hp
    simp (implicitDefEqProofs := false) only [go_sem]
    refine L.stoOne 0 rfl (by simp) rfl fun H8 L => ?_
    simp only [List.set_cons_zero, List.set_cons_succ, List.set_nil, List.eraseIdx_cons_zero, List.eraseIdx_cons_succ] at L
    simp (implicitDefEqProofs := false) only [go_sem]
    have c := L.cell 0 rfl
    simp (implicitDefEqProofs := false) only [go_sem, c]
    refine L.stoAll 2 rfl rfl (one_agg (t := []) rfl) fun HZ L => ?_
    simp only [List.set_cons_zero, List.set_cons_succ, List.set_nil, List.eraseIdx_cons_zero, List.eraseIdx_cons_succ] at L
    have c := L.cell 2 rfl
    simp (implicitDefEqProofs := false) only [go_sem, c]
    exact L.fin hp (.inr ⟨rfl, rfl⟩)
  rw [if_neg (by rw [e]; decide)] at hp
  simp (implicitDefEqProofs := false) only [go_sem]
  refine accept_go hs L [102, 97, 108, 115, 101] (fun e H7 L => ?_) fun e H7 L => ?_
  · rw [if_pos e] at hp
    simp (implicitDefEqProofs := false) only [go_sem]
    refine L.stoOne 0 rfl (by simp) rfl fun H8 L => ?_
    simp only [List.set_cons_zero, List.set_cons_succ, List.set_nil, List.eraseIdx_cons_zero, List.eraseIdx_cons_succ] at L
    simp (implicitDefEqProofs := false) only [go_sem]
    have c := L.cell 0 rfl
    simp (implicitDefEqProofs := false) only [go_sem, c]
    refine L.stoAll 2 rfl rfl (one_agg (t := []) rfl) fun HZ L => ?_
    simp only [List.set_cons_zero, List.set_cons_succ, List.set_nil, List.eraseIdx_cons_zero, List.eraseIdx_cons_succ] at L
    have c := L.cell 2 rfl
    simp (implicitDefEqProofs := false) only [go_sem, c]
    exact L.fin hp (.inr ⟨rfl, rfl⟩)
  rw [if_neg (by rw [e]; decide)] at hp
  simp (implicitDefEqProofs := false) only [go_sem]
  refine accept_go hs L [115] (fun e H7 L => ?_) fun e H7 L => ?_
  · rw [if_pos e] at hp
    simp (implicitDefEqProofs := false) only [go_sem]
    refine L.stoOne 0 rfl (by simp) rfl fun H8 L => ?_
    simp only [List.set_cons_zero, List.set_cons_succ, List.set_nil, List.eraseIdx_cons_zero, List.eraseIdx_cons_succ] at L
    simp (implicitDefEqProofs := false) only [go_sem]
    have c := L.cell 0 rfl
    simp (implicitDefEqProofs := false) only [go_sem, c]
    refine L.stoAll 2 rfl rfl (one_agg (t := []) rfl) fun HZ L => ?_
    simp only [List.set_cons_zero, List.set_cons_succ, List.set_nil, List.eraseIdx_cons_zero, List.eraseIdx_cons_succ] at L
    have c := L.cell 2 rfl
    simp (implicitDefEqProofs := false) only [go_sem, c]
    exact L.fin hp (.inr ⟨rfl, rfl⟩)
  rw [if_neg (by rw [e]; decide)] at hp
  simp (implicitDefEqProofs := false) only [go_sem]
  refine accept_go hs L [98, 111, 116, 116, 111, 109] (fun e H7 L => ?_) fun e H7 L => ?_
  · rw [if_pos e] at hp
    simp (implicitDefEqProofs := false) only [go_sem]
    refine L.stoOne 0 rfl (by simp) rfl fun H8 L => ?_
    simp only [List.set_cons_zero, List.set_cons_succ, List.set_nil, List.eraseIdx_cons_zero, List.eraseIdx_cons_succ] at L
    simp (implicitDefEqProofs := false) only [go_sem]
    have c := L.cell 0 rfl
    simp (implicitDefEqProofs := false) only [go_sem, c]
    refine L.stoAll 2 rfl rfl (one_agg (t := []) rfl) fun HZ L => ?_
    simp only [List.set_cons_zero, List.set_cons_succ, List.set_nil, List.eraseIdx_cons_zero, List.eraseIdx_cons_succ] at L
    have c := L.cell 2 rfl
    simp (implicitDefEqProofs := false) only [go_sem, c]
    exact L.fin hp (.inr ⟨rfl, rfl⟩)
  rw [if_neg (by rw [e]; decide)] at hp
  simp (implicitDefEqProofs := false) only [go_sem]
  refine is_go L [40] fun H7 L => ?_
  cases e40 : isB [40] ts with
  | true =>
    rw [if_pos e40] at hp
    simp (implicitDefEqProofs := false) only [go_sem]
    refine enter_go (lo := loK) hs L lo_0 lo_s hp fun j x H8 hj hx L _ hp => ?_
    cases hx
    simp (implicitDefEqProofs := false) only [go_sem]
    refine (hex j hj).goN hs L hp fun kk tt nn aa ks kv r H9 L hp _ => ?_
    simp (implicitDefEqProofs := false) only [go_sem]
    refine L.stoAll 0 rfl rfl (one_agg (L.one (ks := ks) (by simp))) fun H10 L => ?_
    simp only [List.set_cons_zero, List.set_cons_succ, List.set_nil, List.eraseIdx_cons_zero, List.eraseIdx_cons_succ] at L
    simp (implicitDefEqProofs := false) only [go_sem]
    refine (expect_ok [41]).go hs L hp fun _ r v H11 L hp _ _ => ?_
    simp (implicitDefEqProofs := false) only [go_sem]
    refine leave_go hs L hj hs.k64 fun _ H12 L => ?_
    have c := L.cell 0 rfl
    simp (implicitDefEqProofs := false) only [go_sem, c]
    refine L.stoAll 2 rfl rfl (one_agg (L.one (ks := ks) (by simp))) fun HZ L => ?_
    simp only [List.set_cons_zero, List.set_cons_succ, List.set_nil, List.eraseIdx_cons_zero, List.eraseIdx_cons_succ] at L
    have c := L.cell 2 rfl
    simp (implicitDefEqProofs := false) only [go_sem, c]
    exact L.fin hp (.inl (by simp))
  | false =>
  rw [if_neg (by rw [e40]; decide)] at hp
  have c := L.cell 1 rfl
  by_cases k2 : (hd ts).kind = 2
  · simp (implicitDefEqProofs := false) only [go_sem, c, k2]
    refine (functions_ok (hd ts).text _).mono ?_
    rintro v H8 ⟨rfl, hf8⟩
    have L := L.ext hf8
    by_cases hfn : (hd ts).text ∈ fnList
    · rw [if_pos ⟨k2, hfn⟩] at hp
      obtain ⟨i, hb, hw, hnext⟩ := L.ps.step (by omega)
      have hc := hb.cell
      have c := L.cell 1 rfl
      unfold ptr
      simp (implicitDefEqProofs := false) only [go_sem, hfn, hc, hw]
      refine Sto_one hb (by simp) rfl fun H9 hn9 hf9 _ => ?_
      have L := L.pto hs hf9 (hnext H9 hn9 hf9)
      have c := L.cell 1 rfl
      simp (implicitDefEqProofs := false) only [go_sem, c]
      refine L.stoOne 0 rfl (by simp) rfl fun H10 L => ?_
      simp only [List.set_cons_zero, List.set_cons_succ, List.set_nil, List.eraseIdx_cons_zero, List.eraseIdx_cons_succ] at L
      have c := L.cell 1 rfl
      simp (implicitDefEqProofs := false) only [go_sem, c, sv]
      refine L.stoOne 0 rfl (by simp) rfl fun H11 L => ?_
      simp only [List.set_cons_zero, List.set_cons_succ, List.set_nil, List.eraseIdx_cons_zero, List.eraseIdx_cons_succ] at L
      have L : PLv X H ts.tail k H11 [.blk b3 24 [.int .i64 51, sv (hd ts).text, .int .i64 0, .int .i64 (hd ts).at_, .slice none 0 0], .blk b2 39 (tkC (hd ts)), .blk b1 24 [.int .i64 0, sv [], .int .i64 0, .int .i64 0, .slice none 0 0]] [] := L
      simp (implicitDefEqProofs := false) only [go_sem]
      refine enter_go (lo := loK) hs L lo_0 lo_s hp fun j x H12 hj hx L _ hp => ?_
      cases hx
      have hcap := hs.cap
      have hlen : ts.tail.tail.length ≤ 1048576 := by
        obtain ⟨i', _, e', _⟩ := L.ps.ex
        rw [e', List.length_drop]; omega
      have L := L.row0 24 5
      have hdn : Dn (argP (lev j).1 (hd ts).text) := argP_dn (lev_dn j).1 _
      obtain ⟨cur0, hcur0⟩ : ∃ cur, cur = ts.tail.tail := ⟨_, rfl⟩
      rw [← hcur0] at L hp hlen
      simp (implicitDefEqProofs := false) only [go_sem]
      refine accept_u hs L [41] fun H13 L => ?_
      simp (implicitDefEqProofs := false) only [go_sem]
      refine vc_loop (fun (s : Bool × List Tk × List Nd × Value) H' => ∃ g f, PLv X H s.2.1 j H' [.row 24 5 s.2.2.2 (s.2.2.1.map Nd.dat) g, .blk b3 24 [.int .i64 51, sv (hd ts).text, .int .i64 0, .int .i64 (hd ts).at_, s.2.2.2], .blk b2 39 (tkC (hd ts)), .blk b1 24 [.int .i64 0, sv [], .int .i64 0, .int .i64 0, .slice none 0 0]] [] ∧
        (s.1 = true → primP (loK k) ts = bd (listF (argP (lev j).1 (hd ts).text) f s.2.2.1) (fun l => ret (.mk 51 (hd ts).text 0 (hd ts).at_ l)) s.2.1 ∧ s.2.1.length ≤ f ∧ s.2.2.1.length + s.2.1.length ≤ 1048576) ∧
        (s.1 = false → primP (loK k) ts = ret (Nd.mk 51 (hd ts).text 0 (hd ts).at_ s.2.2.1) s.2.1))
        (fun s => [(0, ptr X.b), (2, .pointer (some ⟨b1, 0, none⟩)), (3, .pointer (some ⟨b2, 0, none⟩)), (4, .pointer (some ⟨b3, 0, none⟩)), (5, .bool s.1)]) (fun s => if s.1 then s.2.1.length + 1 else 0) (!(isB [41] cur0), (if isB [41] cur0 then cur0.tail else cur0), [], .slice none 0 0) ?_ ?_ ?_
      · refine ⟨none, cur0.length, L, fun h => ?_, fun h => ?_⟩
        · have e : isB [41] cur0 = false := by simpa using h
          simp only [e, Bool.false_eq_true, if_false]
          rw [hp]
          refine ⟨?_, Nat.le_refl _, by simpa using hlen⟩
          unfold bd listP; simp only [e, Bool.false_eq_true, if_false]
        · have e : isB [41] cur0 = true := by simpa using h
          simp only [e, if_true]
          rw [hp]
          unfold bd listP; simp only [e, if_true]
      · simp (implicitDefEqProofs := false) only [go_sem, ptr]
      · rintro ⟨more, cur, ns, v⟩ H14 ⟨g, f, L, hT, hF⟩
        simp only at L hT hF ⊢
        cases more with
        | false =>
          have hp := hF rfl
          simp (implicitDefEqProofs := false) only [go_sem]
          refine leave_go hs L hj hs.k64 fun _ H15 L => ?_
          have L := L.rowN 0 ns rfl
          simp only [List.set_cons_zero, List.set_cons_succ, List.set_nil, List.eraseIdx_cons_zero, List.eraseIdx_cons_succ] at L
          have c := L.cell 0 rfl
          simp (implicitDefEqProofs := false) only [go_sem, c]
          refine L.stoAll 2 rfl rfl (one_agg (L.one (ks := ns) (by simp))) fun HZ L => ?_
          simp only [List.set_cons_zero, List.set_cons_succ, List.set_nil, List.eraseIdx_cons_zero, List.eraseIdx_cons_succ] at L
          have c := L.cell 2 rfl
          simp (implicitDefEqProofs := false) only [go_sem, c]
          exact L.fin hp (.inl (by simp))
        | true =>
          obtain ⟨hp, hf, hle⟩ := hT rfl
          have hcur := List.length_pos_iff.2 L.ps.nil
          obtain ⟨f, rfl⟩ : ∃ f', f = f' + 1 := ⟨f - 1, by omega⟩
          have hp : primP (loK k) ts = bd (argP (lev j).1 (hd ts).text) (fun a => bd (bd commaP fun m => if m then listF (argP (lev j).1 (hd ts).text) f (ns ++ [a]) else ret (ns ++ [a])) (fun l => ret (.mk 51 (hd ts).text 0 (hd ts).at_ l))) cur := by
            rw [hp]; simp only [listF, bd_bd]
          have c := L.cell 1 rfl
          have c2 := L.cell 2 rfl
          simp (implicitDefEqProofs := false) only [go_sem, c, c2, tkC]
          refine (argument_ok (hex j hj) _).goN hs L hp fun kk tt nn aa ks kv r1 H15 L hp he => ?_
          have hle1 := hdn.of he
          have hne1 := L.ps.nil
          simp only [bd_bd] at hp
          have c := L.cell 1 rfl
          simp (implicitDefEqProofs := false) only [go_sem, c]
          refine L.newS fun bA HA L => ?_
          have c := L.cell 2 rfl
          simp (implicitDefEqProofs := false) only [go_sem, c]
          refine L.appN (ns := ns) (ks := ks) 0 rfl (by simp) (by omega) fun a c g' HB L => ?_
          simp only [List.set_cons_zero, List.set_cons_succ, List.set_nil, List.eraseIdx_cons_zero, List.eraseIdx_cons_succ] at L
          simp (implicitDefEqProofs := false) only [go_sem]
          refine L.stoOne 1 rfl (by simp) rfl fun HC L => ?_
          simp only [List.set_cons_zero, List.set_cons_succ, List.set_nil, List.eraseIdx_cons_zero, List.eraseIdx_cons_succ] at L
          simp (implicitDefEqProofs := false) only [go_sem]
          refine comma_ok.go hs L hp fun m r2 v HD L hp hcm hv => ?_
          cases hv
          have L := L.drop (ds' := []) (List.Sublist.refl _) (by simp)
          simp (implicitDefEqProofs := false) only [go_sem]
          refine loopK_intro (m, r2, ns ++ [.mk kk tt nn aa ks], .slice a (ns ++ [Nd.mk kk tt nn aa ks]).length c) ?_ ?_ ⟨g', f, L, fun h => ?_, fun h => ?_⟩
          · have := commaP_dn.of hcm
            cases m
            · show 0 < cur.length + 1
              omega
            · have := comma_lt hcm hne1
              show r2.length + 1 < cur.length + 1
              omega
          · simp (implicitDefEqProofs := false) only [go_sem]
          · simp only at h; subst h
            have := comma_lt hcm hne1
            refine ⟨hp, show r2.length ≤ f by omega, ?_⟩
            simp only [List.length_append, List.length_cons, List.length_nil]; omega
          · simp only at h; subst h
            exact hp
    · rw [if_neg (fun h => hfn h.2)] at hp
      simp (implicitDefEqProofs := false) only [go_sem, hfn]
      exact fail_go L hp
  · rw [if_neg (fun h => k2 h.1)] at hp
    simp (implicitDefEqProofs := false) only [go_sem, c, k2]
    exact fail_go L hp
end Go.Proofs.YtbgjgaaobnbijaaDoor
end
section
/- Expressions at all levels; lattices, declarations and programs: the grammar as functions on tokens. -/
set_option linter.unusedSimpArgs false
set_option linter.unusedVariables false
set_option maxRecDepth 8000
namespace Go.Proofs.YtbgjgaaobnbijaaDoor
open Gx Go

theorem lev_ok : ∀ k : Nat, POk k 26 [] (exprP (loK k)) NdR ∧ POk k 74 [] (notP (loK k)) NdR := by
  have key : ∀ k : Nat, (∀ j, k = j + 1 → POk j 26 [] (lev j).1 NdR ∧ POk j 74 [] (lev j).2 NdR) → POk k 26 [] (exprP (loK k)) NdR ∧ POk k 74 [] (notP (loK k)) NdR := fun k h => by
    have hl := loK_dn k
    have h1 := primary_ok fun j hj => (h j hj).1
    have h2 := postfix_ok (fun j hj => (h j hj).1) h1
    have h3 := sum_ok hl h2
    have h4 := joined_ok hl h3
    have h5 := comparison_ok hl h4
    have h6 := not_ok (fun j hj => (h j hj).2) h5
    have h7 := and_ok hl h6
    have h8 := or_ok hl h7
    exact ⟨expression_ok (fun j hj => (h j hj).1) h8, h6⟩
  intro k
  induction k with
  | zero => exact key 0 fun j hj => by omega
  | succ k ih =>
    refine key (k + 1) fun j hj => ?_
    obtain rfl : j = k := by omega
    rw [lev_eq]; exact ih

/-! ### lattices -/
def quotesF : Nat → List Nd → PP (List Nd)
  | 0, l => ret l
  | f + 1, l => fun ts => if isB [44] ts then bd quoteP (fun q => quotesF f (l ++ [q])) ts.tail else .ok (l, ts)
def quotesP : PP (List Nd) := bd quoteP fun q r => quotesF r.length [q] r
def allowedP : PP (List Nd) := fun ts => if isB [40] ts then bd quotesP (fun l => bd (expP [41]) fun _ => ret l) ts.tail else .ok ([], ts)
def twoP (p : PP Nd) : PP (List Nd) := bd (expP [40]) fun _ => bd p fun a => bd (expP [44]) fun _ => bd p fun b => bd (expP [41]) fun _ => ret [a, b]
def optQ : PP (List Nd) := fun ts => if (hd ts).kind = 4 then quotesP ts else .ok ([], ts)
def ruleP : PP Nd := fun ts => bd optQ (fun q => bd (expP [61, 62]) fun _ => bd quoteP fun c => ret (.mk 20 [] 0 (hd ts).at_ (q ++ [c]))) ts
def rulesF : Nat → List Nd → PP (List Nd)
  | 0, l => ret l
  | f + 1, l => fun ts => if isB [59] ts then bd ruleP (fun r => rulesF f (l ++ [r])) ts.tail else .ok (l, ts)
def closedP : PP (List Nd) := bd (expP [40]) fun _ => bd optQ fun l ts => bd (rulesF ts.length l) (fun l => bd (expP [41]) fun _ => ret l) ts
def memP (x : PP Nd) : PP Nd := bd (takeP 1) fun t => bd (expP [58]) fun _ => bd x fun y => ret (.mk 22 t.text 0 t.at_ [y])
def memF (x : PP Nd) : Nat → List Nd → PP (List Nd)
  | 0, l => ret l
  | f + 1, l => bd (memP x) fun m ts => if isB [44] ts then memF x f (l ++ [m]) ts.tail else .ok (l ++ [m], ts)
def memsP (x : PP Nd) : PP (List Nd) := fun ts => bd (memF x (ts.length + 1) []) (fun l => bd (expP [125]) fun _ => ret l) ts
abbrev LLo := Option (PP Nd)
def latP (lo : LLo) : PP Nd := fun ts =>
  if (hd ts).kind = 1 then namedP 21 ts
  else if isB [102, 108, 97, 103] ts then .ok (.mk 10 [] 0 (hd ts).at_ [], ts.tail)
  else if isB [114, 101, 103, 105, 115, 116, 101, 114] ts then .ok (.mk 18 [] 0 (hd ts).at_ [], ts.tail)
  else if isB [115, 101, 116] ts then bd allowedP (fun l => ret (.mk 13 [] 0 (hd ts).at_ l)) ts.tail
  else if isB [102, 108, 97, 116] ts then bd allowedP (fun l => ret (.mk 17 [] 0 (hd ts).at_ l)) ts.tail
  else if isB [109, 97, 112] ts then entP lo [109, 97, 112] (fun x => bd allowedP fun l => bd x fun y => ret (.mk 14 [] 0 (hd ts).at_ (l ++ [y]))) ts
  else if isB [109, 97, 120] ts then bd (twoP intP) (fun l => ret (.mk 11 [] 0 (hd ts).at_ l)) ts.tail
  else if isB [109, 105, 110] ts then bd (twoP intP) (fun l => ret (.mk 12 [] 0 (hd ts).at_ l)) ts.tail
  else if isB [108, 101, 120] ts then entP lo [108, 101, 120] (fun x => bd (twoP x) fun l => ret (.mk 16 [] 0 (hd ts).at_ l)) ts
  else if isB [123] ts then entP lo [123] (fun x => bd (memsP x) fun l => ret (.mk 15 [] 0 (hd ts).at_ l)) ts
  else if isB [99, 108, 111, 115, 101, 100] ts then bd closedP (fun l => ret (.mk 19 [] 0 (hd ts).at_ l)) ts.tail
  else .error (2, (hd ts).at_)
def levL : Nat → PP Nd
  | 0 => latP none
  | k + 1 => latP (some (levL k))
def loL : Nat → LLo
  | 0 => none
  | k + 1 => some (levL k)
theorem levL_eq (k : Nat) : levL k = latP (loL k) := by cases k <;> rfl

/-! ### declarations -/
def sortP : PP Int := fun ts =>
  if isB [105, 110, 116] ts then .ok (1, ts.tail)
  else if isB [98, 111, 111, 108] ts then .ok (2, ts.tail)
  else if isB [110, 97, 109, 101] ts then .ok (3, ts.tail)
  else if isB [110, 97, 109, 101, 115] ts then .ok (4, ts.tail)
  else .error (2, (hd ts).at_)
def paramP : PP Nd := bd (takeP 1) fun t => bd (expP [58]) fun _ => bd sortP fun s => ret (.mk 6 t.text s t.at_ [])
/-- What stands behind "update" or "query". -/
def funcP (at_ kind : Int) : PP Nd := bd (takeP 1) fun t => bd (expP [40]) fun _ => bd (listP paramP) fun ps => bd (expP [111, 110]) fun _ => bd (namedP 48) fun o =>
  bd (if kind = 5 then bd (expP [58]) fun _ => sortP else ret 0) fun n => bd (expP [61]) fun _ => bd (exprP (loK 64)) fun e => bd (expP [59]) fun _ => ret (.mk kind t.text n at_ (ps ++ [o] ++ [e]))
def latD (at_ kind : Int) (s : Bs) : PP Nd := bd (takeP 1) fun t => bd (expP s) fun _ => bd (levL 64) fun x => bd (expP [59]) fun _ => ret (.mk kind t.text 0 at_ [x])
def declP : PP Nd := fun ts =>
  if isB [108, 97, 116, 116, 105, 99, 101] ts then latD (hd ts).at_ 2 [61] ts.tail
  else if isB [111, 98, 106, 101, 99, 116] ts then latD (hd ts).at_ 3 [58] ts.tail
  else if isB [117, 112, 100, 97, 116, 101] ts then funcP (hd ts).at_ 4 ts.tail
  else if isB [113, 117, 101, 114, 121] ts then funcP (hd ts).at_ 5 ts.tail
  else .error (2, (hd ts).at_)
def progF : Nat → List Nd → PP (List Nd)
  | 0, l => ret l
  | f + 1, l => fun ts => if (hd ts).kind = 6 then .ok (l, ts) else bd declP (fun d => progF f (l ++ [d])) ts
def progP : PP Nd := fun ts => bd (progF (ts.length + 1) []) (fun l => ret (.mk 1 [] 0 0 l)) ts
/-- The whole of the tokens. -/
def topP (p : PP Nd) (ts : List Tk) : Except Flt Nd := match p ts with
  | .error e => .error e
  | .ok (n, r) => if (hd r).kind = 6 then .ok n else .error (2, (hd r).at_)

/-! ### nothing is read but in front -/
theorem quotesF_dn : ∀ f l, Dn (quotesF f l)
  | 0, l => Dn.ret l
  | f + 1, l => by
    intro ts r b hb
    simp only [quotesF] at hb
    split at hb
    · exact Dn.tl (quoteP_dn.bnd fun m => quotesF_dn f _) hb
    · cases hb; exact Nat.le_refl _
theorem quotesP_dn : Dn quotesP := quoteP_dn.bnd' fun n ts r b hb => (quotesF_dn _ _).of hb
theorem allowedP_dn : Dn allowedP := by
  intro ts r b hb
  unfold allowedP at hb
  split at hb
  · exact Dn.tl (quotesP_dn.bnd fun _ => (expP_dn _).bnd fun _ => Dn.ret _) hb
  · cases hb; exact Nat.le_refl _
theorem twoP_dn {p : PP Nd} (h : Dn p) : Dn (twoP p) := (expP_dn _).bnd fun _ => h.bnd fun _ => (expP_dn _).bnd fun _ => h.bnd fun _ => (expP_dn _).bnd fun _ => Dn.ret _
theorem optQ_dn : Dn optQ := by
  intro ts r b hb
  unfold optQ at hb
  split at hb
  · exact quotesP_dn.of hb
  · cases hb; exact Nat.le_refl _
theorem ruleP_dn : Dn ruleP := by
  intro ts r b hb
  unfold ruleP at hb
  exact Dn.of (optQ_dn.bnd fun _ => (expP_dn _).bnd fun _ => quoteP_dn.bnd fun _ => Dn.ret _) hb
theorem rulesF_dn : ∀ f l, Dn (rulesF f l)
  | 0, l => Dn.ret l
  | f + 1, l => by
    intro ts r b hb
    simp only [rulesF] at hb
    split at hb
    · exact Dn.tl (ruleP_dn.bnd fun m => rulesF_dn f _) hb
    · cases hb; exact Nat.le_refl _
theorem closedP_dn : Dn closedP := (expP_dn _).bnd fun _ => optQ_dn.bnd' fun l ts r b hb => Dn.of ((rulesF_dn _ l).bnd fun _ => (expP_dn _).bnd fun _ => Dn.ret _) hb
theorem memP_dn {x : PP Nd} (h : Dn x) : Dn (memP x) := (takeP_dn 1).bnd fun _ => (expP_dn _).bnd fun _ => h.bnd fun _ => Dn.ret _
theorem memF_dn {x : PP Nd} (h : Dn x) : ∀ f l, Dn (memF x f l)
  | 0, l => Dn.ret l
  | f + 1, l => (memP_dn h).bnd' fun m ts r b hb => by
    split at hb
    · exact Dn.tl (memF_dn h f _) hb
    · cases hb; exact Nat.le_refl _
theorem memsP_dn {x : PP Nd} (h : Dn x) : Dn (memsP x) := by
  intro ts r b hb
  unfold memsP at hb
  exact Dn.of ((memF_dn h _ _).bnd fun _ => (expP_dn _).bnd fun _ => Dn.ret _) hb
theorem ite_le {α : Type} {c : Prop} [Decidable c] {x y : Except Flt (α × List Tk)} {n : Nat} (hx : ∀ b r, x = .ok (b, r) → r.length ≤ n) (hy : ∀ b r, y = .ok (b, r) → r.length ≤ n) : ∀ b r, (if c then x else y) = .ok (b, r) → r.length ≤ n := by
  intro b r h
  by_cases hc : c
  · rw [if_pos hc] at h; exact hx b r h
  · rw [if_neg hc] at h; exact hy b r h
theorem ok_le {α : Type} {n : α} {ts : List Tk} : ∀ b r, (Except.ok (n, ts.tail) : Except Flt (α × List Tk)) = .ok (b, r) → r.length ≤ ts.length := by
  intro b r h; cases h; exact tail_le _
theorem latP_dn {lo : LLo} (hl : ∀ x, lo = some x → Dn x) : Dn (latP lo) := by
  intro ts r b hb
  unfold latP at hb
  revert b r
  suffices h : ∀ b r, latP lo ts = .ok (b, r) → r.length ≤ ts.length from fun r b hb => h b r hb
  unfold latP
  refine ite_le (fun b r h => (namedP_dn _).of h) (ite_le ok_le (ite_le ok_le (ite_le (fun b r h => Dn.tl (allowedP_dn.bnd fun _ => Dn.ret _) h) (ite_le (fun b r h => Dn.tl (allowedP_dn.bnd fun _ => Dn.ret _) h) (ite_le ?_ (ite_le (fun b r h => Dn.tl ((twoP_dn intP_dn).bnd fun _ => Dn.ret _) h) (ite_le (fun b r h => Dn.tl ((twoP_dn intP_dn).bnd fun _ => Dn.ret _) h) (ite_le ?_ (ite_le ?_ (ite_le (fun b r h => Dn.tl (closedP_dn.bnd fun _ => Dn.ret _) h) fun b r h => ?_))))))))))
  · intro b r h; exact Dn.of (entP_dn fun x hx => allowedP_dn.bnd fun _ => (hl x hx).bnd fun _ => Dn.ret _) h
  · intro b r h; exact Dn.of (entP_dn fun x hx => (twoP_dn (hl x hx)).bnd fun _ => Dn.ret _) h
  · intro b r h; exact Dn.of (entP_dn fun x hx => (memsP_dn (hl x hx)).bnd fun _ => Dn.ret _) h
  · cases h
theorem levL_dn : ∀ k, Dn (levL k)
  | 0 => latP_dn fun x hx => by cases hx
  | k + 1 => latP_dn fun x hx => by cases hx; exact levL_dn k
theorem loL_dn (k : Nat) : ∀ x, loL k = some x → Dn x := by
  intro x hx
  cases k with
  | zero => cases hx
  | succ k => cases hx; exact levL_dn k
theorem sortP_dn : Dn sortP := by
  intro ts r b hb
  unfold sortP at hb
  split at hb
  · cases hb; exact tail_le _
  split at hb
  · cases hb; exact tail_le _
  split at hb
  · cases hb; exact tail_le _
  split at hb
  · cases hb; exact tail_le _
  · cases hb
theorem paramP_dn : Dn paramP := (takeP_dn 1).bnd fun _ => (expP_dn _).bnd fun _ => sortP_dn.bnd fun _ => Dn.ret _
theorem funcP_dn (a k : Int) : Dn (funcP a k) := (takeP_dn 1).bnd fun _ => (expP_dn _).bnd fun _ => (listP_dn paramP_dn).bnd fun _ => (expP_dn _).bnd fun _ => (namedP_dn _).bnd fun _ => Dn.bnd (by
  split
  · exact (expP_dn _).bnd fun _ => sortP_dn
  · exact Dn.ret _) fun _ => (expP_dn _).bnd fun _ => (exprP_dn (loK_dn 64)).bnd fun _ => (expP_dn _).bnd fun _ => Dn.ret _
theorem latD_dn (a k : Int) (s : Bs) : Dn (latD a k s) := (takeP_dn 1).bnd fun _ => (expP_dn _).bnd fun _ => (levL_dn 64).bnd fun _ => (expP_dn _).bnd fun _ => Dn.ret _
/-- A declaration reads a token at least. -/
theorem declP_lt {ts r : List Tk} {n : Nd} (h : declP ts = .ok (n, r)) (hn : ts ≠ []) : r.length < ts.length := by
  have hp := List.length_pos_iff.2 hn
  have ht : ts.tail.length = ts.length - 1 := by simp
  unfold declP at h
  split at h
  · have := (latD_dn _ _ _).of h; omega
  split at h
  · have := (latD_dn _ _ _).of h; omega
  split at h
  · have := (funcP_dn _ _).of h; omega
  split at h
  · have := (funcP_dn _ _).of h; omega
  · cases h
end Go.Proofs.YtbgjgaaobnbijaaDoor
end
section
/- Parts of lattices: contracts. -/
set_option linter.unusedSimpArgs false
set_option linter.unusedVariables false
set_option maxRecDepth 8000
namespace Go.Proofs.YtbgjgaaobnbijaaDoor
open Gx Go
theorem nb {s : Bs} {ts : List Tk} (h : isB s ts = false) : ¬ isB s ts = true := by rw [h]; decide
/-- A row of trees of one's own. -/
def KdR (ns : List Nd) (v : Value) (H H' : Heap) : Prop := ∃ g, LsO H' (fun x => x < H.size) 24 5 v (ns.map Nd.dat) g ∧ ∀ b, g = some b → H.size ≤ b
/-- What a call leaves with a row of its own. -/
theorem _root_.Gx.Lv.callRow {O0 O : List Nat} {S S' : Heap → Prop} {H0 H H' : Heap} {l : List Ent} {ds : List (Dat × List Value)} {e m : Nat} {v : Value} {dl : List Dat} {g : Option Nat} (L : Lv O0 H0 O S H l ds) (hf : Fr O H H')
    (hS : ∀ (M : List Nat) (H'' : Heap), Fr M H' H'' → (∀ x ∈ M, H0.size ≤ x ∧ x ∉ O) → S' H'') (hr : LsO H' (fun x => x < H.size) e m v dl g) (hg : ∀ b, g = some b → H.size ≤ b) : Lv O0 H0 O S' H' (.row e m v dl g :: l) ds := by
  have L' := Lv.call L hf hS
  have hsz := L.fr.size
  have hb : ∀ x, Lk H0.size O (.row e m v dl g :: l) x → Lk H0.size O l x ∨ H.size ≤ x := by
    rintro x (q | q | q)
    · exact .inl (.inl q)
    · exact .inl (.inr (.inl q))
    · simp only [List.flatMap_cons, Ent.bs, List.mem_append, Option.mem_toList] at q
      rcases q with q | q
      · exact .inr (hg x q)
      · exact .inl (.inr (.inr q))
  have hold : ∀ x, Lk H0.size O l x → x < H.size := by
    rintro x (q | q | q)
    · omega
    · exact (L.own x q).1
    · exact (L.lo x q).2.2
  refine ⟨L'.fr, L'.own, ?_, fun x hx => ?_, fun p hp => ?_, fun p hp => ?_, hS⟩
  · simp only [List.flatMap_cons, Ent.bs, List.nodup_append]
    refine ⟨by cases g <;> simp, L.nd, fun a ha b hb => ?_⟩
    have h1 := hg a (by simpa using ha)
    have h2 := (L.lo b hb).2.2
    omega
  · simp only [List.flatMap_cons, Ent.bs, List.mem_append, Option.mem_toList] at hx
    rcases hx with hx | hx
    · have := hg x hx
      exact ⟨by omega, fun q => by have := (L.own x q).1; omega, LsO.lt hr hx⟩
    · exact L'.lo x hx
  · rcases List.mem_cons.1 hp with rfl | hp
    · obtain ⟨css, h1, h2, h3⟩ := hr
      refine ⟨css, h1, h2, h3.more fun x hx => .inl ?_⟩
      rcases hx with (q | q | q) | q
      · exact .inl (by omega)
      · exact .inl (L.own x q).1
      · simp only [List.flatMap_cons, Ent.bs, List.mem_append, Option.mem_toList] at q
        rcases q with q | q
        · exact .inr q
        · exact .inl (L.lo x q).2.2
      · exact .inr q
    · refine Ent.ok_step (L.ok p hp) hf (fun x hx => .inl (.inr (.inl hx))) (fun x hx hm => ?_) hb
      exact (L.lo x (List.mem_flatMap.2 ⟨p, hp, hx⟩)).2.1 hm
  · exact RepP.fr (L.dat p hp) hf (fun x hx => .inl (.inr (.inl hx))) hb
section
variable {X : Cx} {H0 H H' : Heap} {ts0 ts r : List Tk} {k0 k : Nat} {l : List Ent} {ds : List (Dat × List Value)} {γ : Type} {P0 : Except Flt (γ × List Tk)} {Q : Value → Heap → Prop}
theorem POk.goR {f : Nat} {av : List Value} {p : PP (List Nd)} {g : List Nd → PP γ} (h : POk k f av p KdR) (h0 : Ps X H0 ts0 k0) (L : PLv X H0 ts k H l ds) (hp : P0 = bd p g ts)
    (hR : ∀ ns a c gb r H', PLv X H0 r k H' (.row 24 5 (.slice a ns.length c) (ns.map Nd.dat) gb :: l) ds → P0 = g ns r → p ts = .ok (ns, r) → Q (.slice a ns.length c) H') : PCalls Tryd.prog f (ptr X.b :: av).toArray H Q (PEr X H0 P0) :=
  h.use L.ps (fun e H' he hf => ⟨e, by rw [hp, bd_err he], rfl, L.fr.trans hf⟩) fun ns r v H' he ⟨gb, h1, h2⟩ hs hf => by
    obtain ⟨a, c, hv, _⟩ := h1.slice
    rw [List.length_map] at hv
    subst hv
    exact hR ns a c gb r H' (L.callRow hf (fun M H'' hf' hM => Ps.on h0 hs hf' fun x hx => (hM x hx).1) h1 h2) (by rw [hp, bd_ok he]) he
/-- A row is returned. -/
theorem _root_.Gx.Lv.finR {P0 : Except Flt (List Nd × List Tk)} {ns : List Nd} {v : Value} {g : Option Nat} (L : PLv X H0 r k H l ds) (hp : P0 = ret ns r) (i : Nat) (hi : l[i]? = some (.row 24 5 v (ns.map Nd.dat) g)) :
    ∃ a r, P0 = .ok (a, r) ∧ KdR a v H0 H ∧ Ps X H r k ∧ Fr [X.b] H0 H :=
  ⟨ns, r, hp, ⟨g, (L.rowGet i hi).ext (Fr.refl [] _) fun x hx => .inl (.inl hx), fun b hb => (L.lo b (List.mem_flatMap.2 ⟨_, List.mem_of_getElem? hi, by simp [Ent.bs, hb]⟩)).1⟩, L.ps, L.fr⟩
end

theorem quotes_ok {k : Nat} : POk k 77 [] quotesP KdR := by
  refine ⟨fun {X H ts} hs => ?_⟩
  refine pcalls_of_vc (args := [_]) Tryd.func77 c77ok (Nat.le_of_ble_eq_true rfl) ?_
  have L := hs.walk
  have hcap := hs.cap
  simp (implicitDefEqProofs := false) only [go_sem, c77]
  refine quote_ok.goN hs L (P0 := quotesP ts) rfl fun kk tt nn aa ks kv r H1 L hp he => ?_
  simp (implicitDefEqProofs := false) only [go_sem]
  refine L.newS fun b1 H2 L => ?_
  have L := L.rowN1 (ks := ks) (by simp)
  have hlen : r.length ≤ 1048576 := by
    obtain ⟨i', _, e', _⟩ := L.ps.ex
    rw [e', List.length_drop]; omega
  simp (implicitDefEqProofs := false) only [go_sem]
  refine vc_loop (fun (s : List Tk × List Nd × Value) H' => ∃ g f, PLv X H s.1 k H' [.row 24 5 s.2.2 (s.2.1.map Nd.dat) g] [] ∧ quotesP ts = quotesF f s.2.1 s.1 ∧ s.1.length ≤ f ∧ s.2.1.length + s.1.length ≤ 1048577)
    (fun s => [(0, ptr X.b), (3, s.2.2)]) (fun s => s.1.length) (r, [.mk kk tt nn aa ks], .slice (some ⟨b1, 0, none⟩) 1 1) ?_ ?_ ?_
  · exact ⟨_, r.length, L.drop (List.Sublist.refl _) (by simp), hp, Nat.le_refl _, by simp; omega⟩
  · simp (implicitDefEqProofs := false) only [go_sem, ptr]
  · rintro ⟨cur, ns, v⟩ H3 ⟨g, f, L, hp, hf, hle⟩
    simp only at L hp hf hle ⊢
    have hcur := List.length_pos_iff.2 L.ps.nil
    obtain ⟨f, rfl⟩ : ∃ f', f = f' + 1 := ⟨f - 1, by omega⟩
    have htl : cur.tail.length = cur.length - 1 := by simp
    conv at hp => rhs; unfold quotesF
    simp (implicitDefEqProofs := false) only [go_sem]
    refine accept_go hs L [44] (fun e H4 L => ?_) fun e H4 L => ?_
    · rw [if_pos e] at hp
      have hct := List.length_pos_iff.2 L.ps.nil
      simp (implicitDefEqProofs := false) only [go_sem]
      refine quote_ok.goN hs L hp fun kk tt nn aa ks kv r' H5 L hp he => ?_
      have hle1 := quoteP_dn.of he
      simp (implicitDefEqProofs := false) only [go_sem]
      refine L.newS fun bA HA L => ?_
      simp (implicitDefEqProofs := false) only [go_sem]
      refine L.appN (ns := ns) (ks := ks) 0 rfl (by simp) (by omega) fun a c g' HB L => ?_
      simp only [List.set_cons_zero, List.set_cons_succ, List.set_nil, List.eraseIdx_cons_zero, List.eraseIdx_cons_succ] at L
      simp (implicitDefEqProofs := false) only [go_sem]
      refine loopK_intro (r', ns ++ [.mk kk tt nn aa ks], .slice a (ns ++ [Nd.mk kk tt nn aa ks]).length c) ?_ ?_ ⟨g', f, L.drop (List.Sublist.refl _) (by simp), hp, show r'.length ≤ f by omega, ?_⟩
      · show r'.length < cur.length
        omega
      · simp (implicitDefEqProofs := false) only [go_sem]
      · simp only [List.length_append, List.length_cons, List.length_nil]; omega
    · rw [if_neg (nb e)] at hp
      simp (implicitDefEqProofs := false) only [go_sem]
      exact L.finR hp 0 rfl
theorem allowed_ok {k : Nat} : POk k 65 [] allowedP KdR := by
  refine ⟨fun {X H ts} hs => ?_⟩
  refine pcalls_of_vc (args := [_]) Tryd.func65 c65ok (Nat.le_of_ble_eq_true rfl) ?_
  have L := hs.walk
  obtain ⟨hp, _⟩ : allowedP ts = allowedP ts ∧ True := ⟨rfl, trivial⟩
  conv at hp => rhs; unfold allowedP
  simp (implicitDefEqProofs := false) only [go_sem, c65]
  refine accept_go hs L [40] (fun e H1 L => ?_) fun e H1 L => ?_
  · rw [if_pos e] at hp
    simp (implicitDefEqProofs := false) only [go_sem]
    refine quotes_ok.goR hs L hp fun ns a c gb r H2 L hp _ => ?_
    simp (implicitDefEqProofs := false) only [go_sem]
    refine (expect_ok [41]).go hs L hp fun _ r v H3 L hp _ _ => ?_
    simp (implicitDefEqProofs := false) only [go_sem]
    exact L.finR hp 0 rfl
  · rw [if_neg (nb e)] at hp
    simp (implicitDefEqProofs := false) only [go_sem]
    exact (L.row0 24 5).finR (ns := []) hp 0 rfl

theorem two_ok {k g : Nat} {p : PP Nd} (hg : hasBody Tryd.prog g = true) (hop : POk k g [] p NdR) {X : Cx} {H : Heap} {ts : List Tk} (hs : Ps X H ts k) :
    PCalls Tryd.prog 66 #[ptr X.b, .func (.func g) #[ptr X.b] #[]] H (fun v H' => ∃ a r, twoP p ts = .ok (a, r) ∧ KdR a v H H' ∧ Ps X H' r k ∧ Fr [X.b] H H') (PEr X H (twoP p ts)) := by
  refine pcalls_of_vc (args := [_, _]) Tryd.func66 c66ok (Nat.le_of_ble_eq_true rfl) ?_
  have L := hs.walk
  simp (implicitDefEqProofs := false) only [go_sem, c66]
  refine (expect_ok [40]).go hs L (P0 := twoP p ts) rfl fun _ r v H1 L hp _ _ => ?_
  simp (implicitDefEqProofs := false) only [go_sem]
  refine ⟨hg, hop.goN hs L hp fun kk tt nn aa ks kv r H2 L hp _ => ?_⟩
  simp (implicitDefEqProofs := false) only [go_sem]
  refine L.newP fun b1 H3 L => ?_
  simp (implicitDefEqProofs := false) only [go_sem]
  refine L.stoAll 0 rfl rfl (one_agg (L.one (ks := ks) (by simp))) fun H4 L => ?_
  simp only [List.set_cons_zero, List.set_cons_succ, List.set_nil, List.eraseIdx_cons_zero, List.eraseIdx_cons_succ] at L
  simp (implicitDefEqProofs := false) only [go_sem]
  refine (expect_ok [44]).go hs L hp fun _ r v H5 L hp _ _ => ?_
  simp (implicitDefEqProofs := false) only [go_sem]
  refine ⟨hg, hop.goN hs L hp fun kk' tt' nn' aa' ks' kv' r H6 L hp _ => ?_⟩
  simp (implicitDefEqProofs := false) only [go_sem]
  refine L.newP fun b2 H7 L => ?_
  simp (implicitDefEqProofs := false) only [go_sem]
  refine L.stoAll 0 rfl rfl (one_agg (L.one (ks := ks') (by simp))) fun H8 L => ?_
  simp only [List.set_cons_zero, List.set_cons_succ, List.set_nil, List.eraseIdx_cons_zero, List.eraseIdx_cons_succ] at L
  simp (implicitDefEqProofs := false) only [go_sem]
  refine (expect_ok [41]).go hs L hp fun _ r v H9 L hp _ _ => ?_
  have c := L.cell 0 rfl
  have c' := L.cell 1 rfl
  simp (implicitDefEqProofs := false) only [go_sem, c, c']
  refine L.newS fun b3 H10 L => ?_
  simp (implicitDefEqProofs := false) only [go_sem]
  have L := L.rowOwn (dl := [Nd.mk kk tt nn aa ks, Nd.mk kk' tt' nn' aa' ks'].map Nd.dat) (m := 5) (n := 2) (css := [[.int .i64 kk, sv tt, .int .i64 nn, .int .i64 aa, kv], [.int .i64 kk', sv tt', .int .i64 nn', .int .i64 aa', kv']]) (by simp only [List.flatten_cons, List.flatten_nil, List.append_nil, List.cons_append, List.nil_append]) (by simp) ((RepsP.nil.cons (L.ndr (ks := ks') (by simp))).cons (L.ndr (ks := ks) (by simp))) rfl (by simp [maxLen])
  exact L.finR hp 0 rfl

theorem nth4 {α : Type} {a b c d : α} {P : Nat → α → Prop} (h0 : P 0 a) (h1 : P 1 b) (h2 : P 2 c) (h3 : P 3 d) : ∀ i x, [a, b, c, d][i]? = some x → P i x := by
  intro i x h
  match i, h with
  | 0, h => cases h; exact h0
  | 1, h => cases h; exact h1
  | 2, h => cases h; exact h2
  | 3, h => cases h; exact h3
def sorts : List Bs := [[105, 110, 116], [98, 111, 111, 108], [110, 97, 109, 101], [110, 97, 109, 101, 115]]
theorem sort_ok {k : Nat} : POk k 48 [] sortP IntR' := by
  refine ⟨fun {X H ts} hs => ?_⟩
  refine pcalls_of_vc (args := [_]) Tryd.func48 c48ok (Nat.le_of_ble_eq_true rfl) ?_
  have L := hs.walk
  obtain ⟨hp, _⟩ : sortP ts = sortP ts ∧ True := ⟨rfl, trivial⟩
  conv at hp => rhs; unfold sortP
  simp (implicitDefEqProofs := false) only [go_sem, c48]
  refine L.newS fun b1 H1 L => ?_
  simp (implicitDefEqProofs := false) only [go_sem]
  refine vc_loop (fun (i : Nat) H' => i ≤ 4 ∧ PLv X H ts k H' [.blk b1 9 [.string ⟨⟨[105, 110, 116]⟩⟩, .string ⟨⟨[98, 111, 111, 108]⟩⟩, .string ⟨⟨[110, 97, 109, 101]⟩⟩, .string ⟨⟨[110, 97, 109, 101, 115]⟩⟩]] [] ∧ ∀ j s, j < i → sorts[j]? = some s → isB s ts = false)
    (fun i => [(0, ptr X.b), (5, .slice (some ⟨b1, 0, none⟩) 4 4), (6, .int .i64 4), (7, .int .i64 i)]) (fun i => 4 - i) 0 ?_ ?_ ?_
  · exact ⟨by decide, L, fun j s h => by omega⟩
  · simp (implicitDefEqProofs := false) only [go_sem, ptr]
  · rintro i H2 ⟨hi, L, hno⟩
    have h5 : i = 0 ∨ i = 1 ∨ i = 2 ∨ i = 3 ∨ i = 4 := by omega
    rcases h5 with rfl | rfl | rfl | rfl | rfl
    · have c := L.cell 0 rfl
      have w : IntKind.i64.wrap 1 = 1 := rfl
      simp (implicitDefEqProofs := false) only [go_sem, c]
      refine accept_go hs L [105, 110, 116] (fun e H3 L => ?_) fun e H3 L => ?_
      · skip
        rw [if_pos e] at hp
        simp (implicitDefEqProofs := false) only [go_sem, w]
        exact ⟨1, ts.tail, hp, rfl, L.ps, L.fr⟩
      · simp (implicitDefEqProofs := false) only [go_sem]
        refine loopK_intro (1 : Nat) (by simp) ?_ ⟨by simp, L, fun j s hj hsj => ?_⟩
        · simp (implicitDefEqProofs := false) only [go_sem, w]
        · rcases Nat.lt_or_ge j (1 - 1) with q | q
          · exact hno j s (by omega) hsj
          · obtain rfl : j = 1 - 1 := by omega
            simp [sorts] at hsj
            subst hsj; exact e
    · have c := L.cell 0 rfl
      have w : IntKind.i64.wrap 2 = 2 := rfl
      simp (implicitDefEqProofs := false) only [go_sem, c]
      refine accept_go hs L [98, 111, 111, 108] (fun e H3 L => ?_) fun e H3 L => ?_
      · rw [if_neg (nb (hno 0 _ (by omega) rfl))] at hp
        rw [if_pos e] at hp
        simp (implicitDefEqProofs := false) only [go_sem, w]
        exact ⟨2, ts.tail, hp, rfl, L.ps, L.fr⟩
      · simp (implicitDefEqProofs := false) only [go_sem]
        refine loopK_intro (2 : Nat) (by simp) ?_ ⟨by simp, L, fun j s hj hsj => ?_⟩
        · simp (implicitDefEqProofs := false) only [go_sem, w]
        · rcases Nat.lt_or_ge j (2 - 1) with q | q
          · exact hno j s (by omega) hsj
          · obtain rfl : j = 2 - 1 := by omega
            simp [sorts] at hsj
            subst hsj; exact e
    · have c := L.cell 0 rfl
      have w : IntKind.i64.wrap 3 = 3 := rfl
      simp (implicitDefEqProofs := false) only [go_sem, c]
      refine accept_go hs L [110, 97, 109, 101] (fun e H3 L => ?_) fun e H3 L => ?_
      · rw [if_neg (nb (hno 0 _ (by omega) rfl)), if_neg (nb (hno 1 _ (by omega) rfl))] at hp
        rw [if_pos e] at hp
        simp (implicitDefEqProofs := false) only [go_sem, w]
        exact ⟨3, ts.tail, hp, rfl, L.ps, L.fr⟩
      · simp (implicitDefEqProofs := false) only [go_sem]
        refine loopK_intro (3 : Nat) (by simp) ?_ ⟨by simp, L, fun j s hj hsj => ?_⟩
        · simp (implicitDefEqProofs := false) only [go_sem, w]
        · rcases Nat.lt_or_ge j (3 - 1) with q | q
          · exact hno j s (by omega) hsj
          · obtain rfl : j = 3 - 1 := by omega
            simp [sorts] at hsj
            subst hsj; exact e
    · have c := L.cell 0 rfl
      have w : IntKind.i64.wrap 4 = 4 := rfl
      simp (implicitDefEqProofs := false) only [go_sem, c]
      refine accept_go hs L [110, 97, 109, 101, 115] (fun e H3 L => ?_) fun e H3 L => ?_
      · rw [if_neg (nb (hno 0 _ (by omega) rfl)), if_neg (nb (hno 1 _ (by omega) rfl)), if_neg (nb (hno 2 _ (by omega) rfl))] at hp
        rw [if_pos e] at hp
        simp (implicitDefEqProofs := false) only [go_sem, w]
        exact ⟨4, ts.tail, hp, rfl, L.ps, L.fr⟩
      · simp (implicitDefEqProofs := false) only [go_sem]
        refine loopK_intro (4 : Nat) (by simp) ?_ ⟨by simp, L, fun j s hj hsj => ?_⟩
        · simp (implicitDefEqProofs := false) only [go_sem, w]
        · rcases Nat.lt_or_ge j (4 - 1) with q | q
          · exact hno j s (by omega) hsj
          · obtain rfl : j = 4 - 1 := by omega
            simp [sorts] at hsj
            subst hsj; exact e
    · rw [if_neg (nb (hno 0 _ (by omega) rfl)), if_neg (nb (hno 1 _ (by omega) rfl)), if_neg (nb (hno 2 _ (by omega) rfl)), if_neg (nb (hno 3 _ (by omega) rfl))] at hp
      simp (implicitDefEqProofs := false) only [go_sem]
      exact fail_go L hp
end Go.Proofs.YtbgjgaaobnbijaaDoor
end
section
/- Lattices: contracts. -/
set_option linter.unusedSimpArgs false
set_option linter.unusedVariables false
set_option maxRecDepth 8000
namespace Go.Proofs.YtbgjgaaobnbijaaDoor
open Gx Go

theorem takeP_eq {k : Int} {ts r : List Tk} {t : Tk} (h : takeP k ts = .ok (t, r)) : t = hd ts ∧ t.kind = k ∧ r = ts.tail := by
  unfold takeP at h
  split at h
  · cases h; exact ⟨rfl, by assumption, rfl⟩
  · cases h
theorem quoteP_eq {ts r : List Tk} {n : Nd} (h : quoteP ts = .ok (n, r)) : n = .mk 47 (hd ts).text 0 (hd ts).at_ [] ∧ (hd ts).kind = 4 ∧ r = ts.tail := by
  unfold quoteP bd at h
  split at h
  · cases h
  · rename_i t q hq
    obtain ⟨rfl, h2, rfl⟩ := takeP_eq hq
    cases h; exact ⟨rfl, h2, rfl⟩
theorem hd_pos {ts : List Tk} {k : Int} (h : (hd ts).kind = k) (hk : k ≠ 6) : 0 < ts.length := by
  cases ts with
  | nil => exact absurd h.symm hk
  | cons t r => simp
theorem quotesF_len : ∀ (f : Nat) (l ns : List Nd) (ts r : List Tk), quotesF f l ts = .ok (ns, r) → ns.length + r.length ≤ l.length + ts.length
  | 0, l, ns, ts, r, h => by
    simp only [quotesF, ret, Except.ok.injEq, Prod.mk.injEq] at h
    obtain ⟨rfl, rfl⟩ := h; exact Nat.le_refl _
  | f + 1, l, ns, ts, r, h => by
    simp only [quotesF] at h
    split at h
    · unfold bd at h
      split at h
      · cases h
      · rename_i a q hq
        have h1 := quotesF_len f _ _ _ _ h
        have h2 := (quoteP_eq hq).2
        have h3 := hd_pos h2.1 (by decide)
        rw [h2.2] at h1
        simp only [List.length_append, List.length_cons, List.length_nil, List.length_tail] at h1 h3
        omega
    · cases h; exact Nat.le_refl _
theorem quotesP_len {ns : List Nd} {ts r : List Tk} (h : quotesP ts = .ok (ns, r)) : ns.length + r.length ≤ ts.length := by
  unfold quotesP bd at h
  split at h
  · cases h
  · rename_i a q hq
    have h1 := quotesF_len _ _ _ _ _ h
    have h2 := (quoteP_eq hq).2
    have h3 := hd_pos h2.1 (by decide)
    rw [h2.2] at h1
    simp only [List.length_cons, List.length_nil, List.length_tail] at h1
    omega
theorem _root_.Gx.Lv.len {X : Cx} {H0 H : Heap} {ts : List Tk} {k : Nat} {l : List Ent} {ds : List (Dat × List Value)} (L : PLv X H0 ts k H l ds) : ts.length ≤ 1048576 := by
  obtain ⟨i', _, e', _⟩ := L.ps.ex
  have := L.ps.cap
  rw [e', List.length_drop]; omega

theorem param_ok {k : Nat} : POk k 46 [] paramP NdR := by
  refine ⟨fun {X H ts} hs => ?_⟩
  refine pcalls_of_vc (args := [_]) Tryd.func46 c46ok (Nat.le_of_ble_eq_true rfl) ?_
  have L := hs.walk
  have hp : paramP ts = bd (namedP 6) (fun n => match n with | .mk kk tt nn aa ks => bd (expP [58]) fun _ => bd sortP fun s => ret (.mk kk tt s aa ks)) ts := by
    unfold paramP namedP
    rw [bd_bd]; rfl
  simp (implicitDefEqProofs := false) only [go_sem, c46]
  refine L.newP fun b1 H1 L => ?_
  simp (implicitDefEqProofs := false) only [go_sem]
  refine (named_ok 6).goN hs L hp fun kk tt nn aa ks kv r H2 L hp _ => ?_
  simp only at hp
  simp (implicitDefEqProofs := false) only [go_sem]
  refine L.newP fun b2 H3 L => ?_
  simp (implicitDefEqProofs := false) only [go_sem]
  refine L.stoAll 0 rfl rfl (one_agg (L.one (ks := ks) (by simp))) fun H4 L => ?_
  simp only [List.set_cons_zero, List.set_cons_succ, List.set_nil, List.eraseIdx_cons_zero, List.eraseIdx_cons_succ] at L
  simp (implicitDefEqProofs := false) only [go_sem]
  refine (expect_ok [58]).go hs L hp fun _ r v H5 L hp _ _ => ?_
  simp (implicitDefEqProofs := false) only [go_sem]
  refine sort_ok.go hs L hp fun n r v H6 L hp _ hv => ?_
  cases hv
  simp (implicitDefEqProofs := false) only [go_sem]
  refine L.stoOne 0 rfl (by simp) rfl fun H7 L => ?_
  simp only [List.set_cons_zero, List.set_cons_succ, List.set_nil, List.eraseIdx_cons_zero, List.eraseIdx_cons_succ] at L
  have c := L.cell 0 rfl
  simp (implicitDefEqProofs := false) only [go_sem, c]
  refine L.stoAll 1 rfl rfl (one_agg (L.one (ks := ks) (by simp))) fun HZ L => ?_
  simp only [List.set_cons_zero, List.set_cons_succ, List.set_nil, List.eraseIdx_cons_zero, List.eraseIdx_cons_succ] at L
  have c := L.cell 1 rfl
  simp (implicitDefEqProofs := false) only [go_sem, c]
  exact L.fin hp (.inl (by simp))

/-- A rule, behind its premises. -/
theorem rule_rest {k : Nat} {X : Cx} {H H1 : Heap} {ts r : List Tk} {b : Nat} {ns qs : List Nd} {v w : Value} {g gq : Option Nat} {aa : Int} {γ : Type} {P0 : Except Flt (γ × List Tk)} {G : Nd → PP γ} {x1 x4 x5 x6 : Option Value} {Q : Post} (hs : Ps X H ts k)
    (L : PLv X H r k H1 [.row 24 5 w (qs.map Nd.dat) gq, .blk b 24 [.int .i64 20, sv [], .int .i64 0, .int .i64 aa, w], .row 24 5 v (ns.map Nd.dat) g] []) (hl : qs.length + 1 ≤ 1048576) (hl2 : ns.length + 1 ≤ 1048576)
    (hp : P0 = bd (bd (expP [61, 62]) fun _ => bd quoteP fun c => ret (.mk 20 [] 0 aa (qs ++ [c]))) G r)
    (hQ : ∀ a c g' H' r' n, PLv X H r' k H' [.row 24 5 (.slice a (ns.length + 1) c) ((ns ++ [n]).map Nd.dat) g'] [] → P0 = G n r' → r'.length ≤ r.length → Q .nrm [some (ptr X.b), x1, some (.slice a (ns.length + 1) c), some (.pointer (some ⟨b, 0, none⟩)), x4, x5, x6] H') :
    vc Tryd.prog (PEr X H P0) c68s17 [some (ptr X.b), x1, some v, some (.pointer (some ⟨b, 0, none⟩)), x4, x5, x6] H1 Q := by
  rw [c68s17eq]
  simp only [bd_bd] at hp
  simp (implicitDefEqProofs := false) only [go_sem]
  refine (expect_ok [61, 62]).go hs L hp fun _ r1 v H2 L hp he _ => ?_
  have hle1 := (expP_dn _).of he
  rw [bd_bd] at hp
  have c := L.cell 1 rfl
  simp (implicitDefEqProofs := false) only [go_sem, c]
  refine quote_ok.goN hs L hp fun kk tt nn aa' ks kv r2 H3 L hp he => ?_
  have hle2 := quoteP_dn.of he
  have c := L.cell 1 rfl
  simp (implicitDefEqProofs := false) only [go_sem, c]
  refine L.newS fun bA HA L => ?_
  have c := L.cell 2 rfl
  simp (implicitDefEqProofs := false) only [go_sem, c]
  refine L.appN (ns := qs) (ks := ks) 0 rfl (by simp) hl fun a c g' HB L => ?_
  simp only [List.set_cons_zero, List.set_cons_succ, List.set_nil, List.eraseIdx_cons_zero, List.eraseIdx_cons_succ] at L
  simp (implicitDefEqProofs := false) only [go_sem]
  refine L.stoOne 1 rfl (by simp) rfl fun HC L => ?_
  simp only [List.set_cons_zero, List.set_cons_succ, List.set_nil, List.eraseIdx_cons_zero, List.eraseIdx_cons_succ] at L
  have L := L.rowN 0 (qs ++ [.mk kk tt nn aa' ks]) rfl
  simp only [List.set_cons_zero, List.set_cons_succ, List.set_nil, List.eraseIdx_cons_zero, List.eraseIdx_cons_succ] at L
  have c := L.cell 0 rfl
  simp (implicitDefEqProofs := false) only [go_sem, c]
  refine L.newS fun bD HD L => ?_
  simp (implicitDefEqProofs := false) only [go_sem]
  refine L.appN (kk := 20) (tt := []) (nn := 0) (aa := aa) (ns := ns) (ks := qs ++ [.mk kk tt nn aa' ks]) 1 rfl (by simp) hl2 fun a c g' HB L => ?_
  simp only [List.set_cons_zero, List.set_cons_succ, List.set_nil, List.eraseIdx_cons_zero, List.eraseIdx_cons_succ] at L
  have e : (ns ++ [Nd.mk 20 [] 0 aa (qs ++ [.mk kk tt nn aa' ks])]).length = ns.length + 1 := by simp
  rw [e] at L ⊢
  simp (implicitDefEqProofs := false) only [go_sem]
  exact hQ a c g' HB r2 _ (L.drop (by simp) (by simp)) hp (by omega)

theorem ruleP_bd {γ : Type} {G : Nd → PP γ} {ts : List Tk} : bd ruleP G ts = bd optQ (fun q => bd (bd (expP [61, 62]) fun _ => bd quoteP fun c => ret (.mk 20 [] 0 (hd ts).at_ (q ++ [c]))) G) ts := by
  have e : ruleP ts = bd optQ (fun q => bd (expP [61, 62]) fun _ => bd quoteP fun c => ret (.mk 20 [] 0 (hd ts).at_ (q ++ [c]))) ts := rfl
  rw [← bd_bd]
  unfold bd at e ⊢
  rw [e]
theorem optQ_y {γ : Type} {G : List Nd → PP γ} {ts : List Tk} (h : (hd ts).kind = 4) : bd optQ G ts = bd quotesP G ts := by
  unfold bd optQ; rw [if_pos h]
theorem optQ_n {γ : Type} {G : List Nd → PP γ} {ts : List Tk} (h : (hd ts).kind ≠ 4) : bd optQ G ts = G [] ts := by
  unfold bd optQ; rw [if_neg h]
set_option maxHeartbeats 1000000 in
theorem closed_rest {k : Nat} {X : Cx} {H H1 : Heap} {ts r : List Tk} {ns : List Nd} {v : Value} {g : Option Nat} {P0 : Except Flt (List Nd × List Tk)} {x1 x3 x4 x5 x6 : Option Value} (hs : Ps X H ts k)
    (L : PLv X H r k H1 [.row 24 5 v (ns.map Nd.dat) g] []) (hl : ns.length + r.length ≤ 1048577)
    (hp : P0 = bd (rulesF r.length ns) (fun l => bd (expP [41]) fun _ => ret l) r) :
    vc Tryd.prog (PEr X H P0) c68s25 [some (ptr X.b), x1, some v, x3, x4, x5, x6] H1 (finQ c68.res fun v H' => ∃ a r, P0 = .ok (a, r) ∧ KdR a v H H' ∧ Ps X H' r k ∧ Fr [X.b] H H') := by
  rw [c68s25eq]
  simp (implicitDefEqProofs := false) only [go_sem, c68]
  refine vc_loop (fun (s : List Tk × List Nd × Value) H' => ∃ g f, PLv X H s.1 k H' [.row 24 5 s.2.2 (s.2.1.map Nd.dat) g] [] ∧ P0 = bd (rulesF f s.2.1) (fun l => bd (expP [41]) fun _ => ret l) s.1 ∧ s.1.length ≤ f ∧ s.2.1.length + s.1.length ≤ 1048577)
    (fun s => [(0, ptr X.b), (3, s.2.2)]) (fun s => s.1.length) (r, ns, v) ?_ ?_ ?_
  · exact ⟨g, _, L, hp, Nat.le_refl _, hl⟩
  · simp (implicitDefEqProofs := false) only [go_sem]
  · rintro ⟨cur, ns, v⟩ H3 ⟨g, f, L, hp, hf, hle⟩
    simp only at L hp hf hle ⊢
    have hcur := List.length_pos_iff.2 L.ps.nil
    obtain ⟨f, rfl⟩ : ∃ f', f = f' + 1 := ⟨f - 1, by omega⟩
    have htl : cur.tail.length = cur.length - 1 := by simp
    have hp : P0 = if isB [59] cur then bd ruleP (fun x => bd (rulesF f (ns ++ [x])) (fun l => bd (expP [41]) fun _ => ret l)) cur.tail else bd (expP [41]) (fun _ => ret ns) cur := by
      rw [hp]
      conv => lhs; unfold bd rulesF
      by_cases e : isB [59] cur = true
      · simp only [e, if_true]
        rw [← bd_bd]; rfl
      · simp only [e, if_false]; rfl
    simp (implicitDefEqProofs := false) only [go_sem]
    refine accept_go hs L [59] (fun e H4 L => ?_) fun e H4 L => ?_
    · rw [if_pos e, ruleP_bd] at hp
      have hct := List.length_pos_iff.2 L.ps.nil
      simp (implicitDefEqProofs := false) only [go_sem]
      refine look_go L fun H5 L => ?_
      simp (implicitDefEqProofs := false) only [go_sem, tkC]
      refine L.newP fun b H6 L => ?_
      simp (implicitDefEqProofs := false) only [go_sem]
      refine L.stoAll 0 rfl rfl (one_agg (t := []) rfl) fun H7 L => ?_
      simp only [List.set_cons_zero, List.set_cons_succ, List.set_nil, List.eraseIdx_cons_zero, List.eraseIdx_cons_succ] at L
      simp (implicitDefEqProofs := false) only [go_sem]
      refine look_go L fun H8 L => ?_
      by_cases k4 : (hd cur.tail).kind = 4
      · rw [optQ_y k4] at hp
        simp (implicitDefEqProofs := false) only [go_sem, tkC, k4]
        refine quotes_ok.goR hs L hp fun qs aw cw gq r1 H9 L hp he => ?_
        have hql := quotesP_len he
        simp (implicitDefEqProofs := false) only [go_sem]
        refine L.stoOne 1 rfl (by simp) rfl fun H10 L => ?_
        simp only [List.set_cons_zero, List.set_cons_succ, List.set_nil, List.eraseIdx_cons_zero, List.eraseIdx_cons_succ] at L
        simp (implicitDefEqProofs := false) only [go_sem]
        refine rule_rest hs L (by have := List.length_pos_iff.2 L.ps.nil; omega) (by omega) hp fun a c g' H' r' n L hp hle' => ?_
        simp (implicitDefEqProofs := false) only [go_sem]
        refine loopK_intro (r', ns ++ [n], .slice a (ns.length + 1) c) ?_ ?_ ⟨g', f, L, hp, show r'.length ≤ f by omega, ?_⟩
        · show r'.length < cur.length
          omega
        · simp (implicitDefEqProofs := false) only [go_sem]
        · simp only [List.length_append, List.length_cons, List.length_nil]; omega
      · rw [optQ_n k4] at hp
        simp (implicitDefEqProofs := false) only [go_sem, tkC, k4]
        have L := L.row0 24 5
        refine rule_rest hs (qs := []) L (by decide) (by omega) hp fun a c g' H' r' n L hp hle' => ?_
        simp (implicitDefEqProofs := false) only [go_sem]
        refine loopK_intro (r', ns ++ [n], .slice a (ns.length + 1) c) ?_ ?_ ⟨g', f, L, hp, show r'.length ≤ f by omega, ?_⟩
        · show r'.length < cur.length
          omega
        · simp (implicitDefEqProofs := false) only [go_sem]
        · simp only [List.length_append, List.length_cons, List.length_nil]; omega
    · rw [if_neg (nb e)] at hp
      simp (implicitDefEqProofs := false) only [go_sem]
      refine (expect_ok [41]).go hs L hp fun _ r v H3 L hp _ _ => ?_
      simp (implicitDefEqProofs := false) only [go_sem]
      exact L.finR hp 0 rfl
theorem closed_ok {k : Nat} : POk k 68 [] closedP KdR := by
  refine ⟨fun {X H ts} hs => ?_⟩
  refine pcalls_of_vc (args := [_]) Tryd.func68 c68ok (Nat.le_of_ble_eq_true rfl) ?_
  have L := hs.walk
  simp (implicitDefEqProofs := false) only [go_sem, c68]
  refine (expect_ok [40]).go hs L (P0 := closedP ts) rfl fun _ r v H1 L hp _ _ => ?_
  have hlen := L.len
  simp (implicitDefEqProofs := false) only [go_sem]
  refine look_go L fun H2 L => ?_
  by_cases k4 : (hd r).kind = 4
  · rw [optQ_y k4] at hp
    simp (implicitDefEqProofs := false) only [go_sem, tkC, k4]
    refine quotes_ok.goR hs L hp fun qs aw cw gq r1 H3 L hp he => ?_
    have hql := quotesP_len he
    simp (implicitDefEqProofs := false) only [go_sem]
    exact closed_rest hs L (by omega) hp
  · rw [optQ_n k4] at hp
    simp (implicitDefEqProofs := false) only [go_sem, tkC, k4]
    exact closed_rest (ns := []) hs (L.row0 24 5) (by simp; omega) hp
end Go.Proofs.YtbgjgaaobnbijaaDoor
end
section
/- Lattices: the contract. -/
set_option linter.unusedSimpArgs false
set_option linter.unusedVariables false
set_option maxRecDepth 8000
namespace Go.Proofs.YtbgjgaaobnbijaaDoor
open Gx Go
section
variable {X : Cx} {H0 H H' : Heap} {ts0 ts r : List Tk} {k0 k : Nat} {l : List Ent} {ds : List (Dat × List Value)} {γ : Type} {P0 : Except Flt (γ × List Tk)} {Q : Value → Heap → Prop}
theorem two_go {g : Nat} {p : PP Nd} {G : List Nd → PP γ} (hg : hasBody Tryd.prog g = true) (hop : POk k g [] p NdR) (h0 : Ps X H0 ts0 k0) (L : PLv X H0 ts k H l ds) (hp : P0 = bd (twoP p) G ts)
    (hR : ∀ ns a c gb r H', PLv X H0 r k H' (.row 24 5 (.slice a ns.length c) (ns.map Nd.dat) gb :: l) ds → P0 = G ns r → Q (.slice a ns.length c) H') : PCalls Tryd.prog 66 #[ptr X.b, .func (.func g) #[ptr X.b] #[]] H Q (PEr X H0 P0) :=
  PCalls.mono (two_ok hg hop L.ps) (fun v H' ⟨ns, r, he, ⟨gb, h1, h2⟩, hs, hf⟩ => by
    obtain ⟨a, c, hv, _⟩ := h1.slice
    rw [List.length_map] at hv
    subst hv
    exact hR ns a c gb r H' (L.callRow hf (fun M H'' hf' hM => Ps.on h0 hs hf' fun x hx => (hM x hx).1) h1 h2) (by rw [hp, bd_ok he])) fun ch H' ⟨e, h1, h2, h3⟩ => ⟨e, by rw [hp, bd_err h1], h2, L.fr.trans h3⟩
end
theorem memP_eq (x : PP Nd) : memP x = bd (namedP 22) (fun n => match n with | .mk kk tt nn aa ks => bd (expP [58]) fun _ => bd x fun y => ret (.mk kk tt nn aa [y])) := by
  funext ts
  unfold memP namedP
  rw [bd_bd]; rfl
theorem allowedP_len {ns : List Nd} {ts r : List Tk} (h : allowedP ts = .ok (ns, r)) : ns.length + r.length ≤ ts.length := by
  unfold allowedP bd at h
  split at h
  · split at h
    · cases h
    · rename_i a q hq
      have h1 := quotesP_len hq
      simp only [List.length_tail] at h1
      replace h : bd (expP [41]) (fun _ => ret a) q = .ok (ns, r) := h
      cases hq2 : expP [41] q with
      | error e => rw [bd_err hq2] at h; cases h
      | ok x =>
        have h2 := (expP_dn [41]).of (a := x.1) (r := x.2) hq2
        rw [bd_ok (a := x.1) (r := x.2) hq2] at h
        simp only [ret, Except.ok.injEq, Prod.mk.injEq] at h
        obtain ⟨rfl, rfl⟩ := h
        omega
  · cases h; simp
theorem lo_0' : loL 0 = none := rfl
theorem lo_s' (j : Nat) : ∃ x, loL (j + 1) = some x := ⟨_, rfl⟩

set_option maxHeartbeats 2000000 in
theorem lattice_ok {k : Nat} (hlat : ∀ j, k = j + 1 → POk j 44 [] (levL j) NdR) : POk k 44 [] (latP (loL k)) NdR := by
  refine ⟨fun {X H ts} hs => ?_⟩
  refine pcalls_of_vc (args := [_]) Tryd.func44 c44ok (Nat.le_of_ble_eq_true rfl) ?_
  have L := hs.walk
  obtain ⟨hp, _⟩ : latP (loL k) ts = latP (loL k) ts ∧ True := ⟨rfl, trivial⟩
  conv at hp => rhs; unfold latP
  simp (implicitDefEqProofs := false) only [go_sem, c44]
  refine L.newP fun b1 H1 L => ?_
  simp (implicitDefEqProofs := false) only [go_sem]
  refine look_go L fun H2 L => ?_
  simp (implicitDefEqProofs := false) only [go_sem, tkC]
  refine L.newP fun b2 H3 L => ?_
  simp (implicitDefEqProofs := false) only [go_sem]
  refine L.stoAll 0 rfl rfl (one4' (hd ts)) fun H4 L => ?_
  simp only [List.set_cons_zero, List.set_cons_succ, List.set_nil, List.eraseIdx_cons_zero, List.eraseIdx_cons_succ] at L
  have c := L.cell 0 rfl
  simp (implicitDefEqProofs := false) only [go_sem, c]
  refine L.newP fun b3 H5 L => ?_
  simp (implicitDefEqProofs := false) only [go_sem]
  refine L.stoAll 0 rfl rfl (one_agg (t := []) rfl) fun H6 L => ?_
  simp only [List.set_cons_zero, List.set_cons_succ, List.set_nil, List.eraseIdx_cons_zero, List.eraseIdx_cons_succ] at L
  have c := L.cell 1 rfl
  by_cases k1 : (hd ts).kind = 1
  · rw [if_pos k1] at hp
    simp (implicitDefEqProofs := false) only [go_sem, c, k1]
    refine (named_ok 21).goL hs L hp fun kk tt nn aa ks kv r H5 L hp => ?_
    simp (implicitDefEqProofs := false) only [go_sem]
    refine L.stoAll 2 rfl rfl (one_agg (L.one (ks := ks) (by simp))) fun HZ L => ?_
    simp only [List.set_cons_zero, List.set_cons_succ, List.set_nil, List.eraseIdx_cons_zero, List.eraseIdx_cons_succ] at L
    have c := L.cell 2 rfl
    simp (implicitDefEqProofs := false) only [go_sem, c]
    exact L.fin hp (.inl (by simp))
  rw [if_neg k1] at hp
  simp (implicitDefEqProofs := false) only [go_sem, c, k1]
  refine accept_go hs L [102, 108, 97, 103] (fun e H7 L => ?_) fun e H7 L => ?_
  · rw [if_pos e] at hp
    simp (implicitDefEqProofs := false) only [go_sem]
    refine L.stoOne 0 rfl (by simp) rfl fun H8 L => ?_
    simp only [List.set_cons_zero, List.set_cons_succ, List.set_nil, List.eraseIdx_cons_zero, List.eraseIdx_cons_succ] at L
    simp (implicitDefEqProofs := false) only [go_sem]
    have c := L.cell 0 rfl
    simp (implicitDefEqProofs := false) only [go_sem, c]
    refine L.stoAll 2 rfl rfl (one_agg (t := []) rfl) fun HZ L => ?_
    simp only [List.set_cons_zero, List.set_cons_succ, List.set_nil, List.eraseIdx_cons_zero, List.eraseIdx_cons_succ] at L
    have c := L.cell 2 rfl
    simp (implicitDefEqProofs := false) only [go_sem, c]
    exact L.fin hp (.inr ⟨rfl, rfl⟩)
  rw [if_neg (nb e)] at hp
  simp (implicitDefEqProofs := false) only [go_sem]
  refine accept_go hs L [114, 101, 103, 105, 115, 116, 101, 114] (fun e H7 L => ?_) fun e H7 L => ?_
  · rw [if_pos e] at hp
    simp (implicitDefEqProofs := false) only [go_sem]
    refine L.stoOne 0 rfl (by simp) rfl fun H8 L => ?_
    simp only [List.set_cons_zero, List.set_cons_succ, List.set_nil, List.eraseIdx_cons_zero, List.eraseIdx_cons_succ] at L
    simp (implicitDefEqProofs := false) only [go_sem]
    have c := L.cell 0 rfl
    simp (implicitDefEqProofs := false) only [go_sem, c]
    refine L.stoAll 2 rfl rfl (one_agg (t := []) rfl) fun HZ L => ?_
    simp only [List.set_cons_zero, List.set_cons_succ, List.set_nil, List.eraseIdx_cons_zero, List.eraseIdx_cons_succ] at L
    have c := L.cell 2 rfl
    simp (implicitDefEqProofs := false) only [go_sem, c]
    exact L.fin hp (.inr ⟨rfl, rfl⟩)
  rw [if_neg (nb e)] at hp
  simp (implicitDefEqProofs := false) only [go_sem]
  refine accept_go hs L [115, 101, 116] (fun e H7 L => ?_) fun e H7 L => ?_
  · rw [if_pos e] at hp
    simp (implicitDefEqProofs := false) only [go_sem]
    refine allowed_ok.goR hs L hp fun ns a cw gb r H8 L hp _ => ?_
    simp (implicitDefEqProofs := false) only [go_sem]
    refine L.stoOne 1 rfl (by simp) rfl fun HA L => ?_
    simp only [List.set_cons_zero, List.set_cons_succ, List.set_nil, List.eraseIdx_cons_zero, List.eraseIdx_cons_succ] at L
    simp (implicitDefEqProofs := false) only [go_sem]
    refine L.stoOne 1 rfl (by simp) rfl fun HB L => ?_
    simp only [List.set_cons_zero, List.set_cons_succ, List.set_nil, List.eraseIdx_cons_zero, List.eraseIdx_cons_succ] at L
    have L := L.rowN 0 ns rfl
    simp only [List.set_cons_zero, List.set_cons_succ, List.set_nil, List.eraseIdx_cons_zero, List.eraseIdx_cons_succ] at L
    simp (implicitDefEqProofs := false) only [go_sem]
    have c := L.cell 0 rfl
    simp (implicitDefEqProofs := false) only [go_sem, c]
    refine L.stoAll 2 rfl rfl (one_agg (t := []) rfl) fun HZ L => ?_
    simp only [List.set_cons_zero, List.set_cons_succ, List.set_nil, List.eraseIdx_cons_zero, List.eraseIdx_cons_succ] at L
    have c := L.cell 2 rfl
    simp (implicitDefEqProofs := false) only [go_sem, c]
    exact L.fin hp (.inl (by simp))
  rw [if_neg (nb e)] at hp
  simp (implicitDefEqProofs := false) only [go_sem]
  refine accept_go hs L [102, 108, 97, 116] (fun e H7 L => ?_) fun e H7 L => ?_
  · rw [if_pos e] at hp
    simp (implicitDefEqProofs := false) only [go_sem]
    refine allowed_ok.goR hs L hp fun ns a cw gb r H8 L hp _ => ?_
    simp (implicitDefEqProofs := false) only [go_sem]
    refine L.stoOne 1 rfl (by simp) rfl fun HA L => ?_
    simp only [List.set_cons_zero, List.set_cons_succ, List.set_nil, List.eraseIdx_cons_zero, List.eraseIdx_cons_succ] at L
    simp (implicitDefEqProofs := false) only [go_sem]
    refine L.stoOne 1 rfl (by simp) rfl fun HB L => ?_
    simp only [List.set_cons_zero, List.set_cons_succ, List.set_nil, List.eraseIdx_cons_zero, List.eraseIdx_cons_succ] at L
    have L := L.rowN 0 ns rfl
    simp only [List.set_cons_zero, List.set_cons_succ, List.set_nil, List.eraseIdx_cons_zero, List.eraseIdx_cons_succ] at L
    simp (implicitDefEqProofs := false) only [go_sem]
    have c := L.cell 0 rfl
    simp (implicitDefEqProofs := false) only [go_sem, c]
    refine L.stoAll 2 rfl rfl (one_agg (t := []) rfl) fun HZ L => ?_
    simp only [List.set_cons_zero, List.set_cons_succ, List.set_nil, List.eraseIdx_cons_zero, List.eraseIdx_cons_succ] at L
    have c := L.cell 2 rfl
    simp (implicitDefEqProofs := false) only [go_sem, c]
    exact L.fin hp (.inl (by simp))
  rw [if_neg (nb e)] at hp
  simp (implicitDefEqProofs := false) only [go_sem]
  refine is_go L [109, 97, 112] fun H7 L => ?_
  cases e : isB [109, 97, 112] ts with
  | true =>
    rw [if_pos e] at hp
    simp (implicitDefEqProofs := false) only [go_sem]
    refine enter_go (lo := loL) hs L lo_0' lo_s' hp fun j x H8 hj hx L _ hp => ?_
    cases hx
    simp (implicitDefEqProofs := false) only [go_sem]
    have hlen := L.len
    refine allowed_ok.goR hs L hp fun ns a cw gb r H8 L hp he => ?_
    have hlen2 := allowedP_len he
    have hlen3 := List.length_pos_iff.2 L.ps.nil
    simp (implicitDefEqProofs := false) only [go_sem]
    refine L.stoOne 1 rfl (by simp) rfl fun HA L => ?_
    simp only [List.set_cons_zero, List.set_cons_succ, List.set_nil, List.eraseIdx_cons_zero, List.eraseIdx_cons_succ] at L
    simp (implicitDefEqProofs := false) only [go_sem]
    refine L.stoOne 1 rfl (by simp) rfl fun HB L => ?_
    simp only [List.set_cons_zero, List.set_cons_succ, List.set_nil, List.eraseIdx_cons_zero, List.eraseIdx_cons_succ] at L
    have c := L.cell 1 rfl
    simp (implicitDefEqProofs := false) only [go_sem, c]
    refine (hlat j hj).goN hs L hp fun kk tt nn aa ks kv r H9 L hp _ => ?_
    have c := L.cell 1 rfl
    simp (implicitDefEqProofs := false) only [go_sem, c]
    refine L.newS fun b4 H10 L => ?_
    have c := L.cell 2 rfl
    simp (implicitDefEqProofs := false) only [go_sem, c]
    refine L.appN (ns := ns) (ks := ks) 0 rfl (by simp) (by omega) fun a c g' H11 L => ?_
    simp only [List.set_cons_zero, List.set_cons_succ, List.set_nil, List.eraseIdx_cons_zero, List.eraseIdx_cons_succ] at L
    simp (implicitDefEqProofs := false) only [go_sem]
    refine L.stoOne 1 rfl (by simp) rfl fun H12 L => ?_
    simp only [List.set_cons_zero, List.set_cons_succ, List.set_nil, List.eraseIdx_cons_zero, List.eraseIdx_cons_succ] at L
    have L := L.rowN 0 (ns ++ [.mk kk tt nn aa ks]) rfl
    simp only [List.set_cons_zero, List.set_cons_succ, List.set_nil, List.eraseIdx_cons_zero, List.eraseIdx_cons_succ] at L
    simp (implicitDefEqProofs := false) only [go_sem]
    refine leave_go hs L hj hs.k64 fun _ H13 L => ?_
    have c := L.cell 0 rfl
    simp (implicitDefEqProofs := false) only [go_sem, c]
    refine L.stoAll 2 rfl rfl (one_agg (t := []) rfl) fun HZ L => ?_
    simp only [List.set_cons_zero, List.set_cons_succ, List.set_nil, List.eraseIdx_cons_zero, List.eraseIdx_cons_succ] at L
    have c := L.cell 2 rfl
    simp (implicitDefEqProofs := false) only [go_sem, c]
    exact L.fin hp (.inl (by simp))
  | false =>
  rw [if_neg (nb e)] at hp
  simp (implicitDefEqProofs := false) only [go_sem]
  refine accept_go hs L [109, 97, 120] (fun e H7 L => ?_) fun e H7 L => ?_
  · rw [if_pos e] at hp
    simp (implicitDefEqProofs := false) only [go_sem]
    refine two_go (by kernel_rfl) integer_ok hs L hp fun ns a cw gb r H8 L hp => ?_
    simp (implicitDefEqProofs := false) only [go_sem]
    refine L.stoOne 1 rfl (by simp) rfl fun HA L => ?_
    simp only [List.set_cons_zero, List.set_cons_succ, List.set_nil, List.eraseIdx_cons_zero, List.eraseIdx_cons_succ] at L
    simp (implicitDefEqProofs := false) only [go_sem]
    refine L.stoOne 1 rfl (by simp) rfl fun HB L => ?_
    simp only [List.set_cons_zero, List.set_cons_succ, List.set_nil, List.eraseIdx_cons_zero, List.eraseIdx_cons_succ] at L
    have L := L.rowN 0 ns rfl
    simp only [List.set_cons_zero, List.set_cons_succ, List.set_nil, List.eraseIdx_cons_zero, List.eraseIdx_cons_succ] at L
    simp (implicitDefEqProofs := false) only [go_sem]
    have c := L.cell 0 rfl
    simp (implicitDefEqProofs := false) only [go_sem, c]
    refine L.stoAll 2 rfl rfl (one_agg (t := []) rfl) fun HZ L => ?_
    simp only [List.set_cons_zero, List.set_cons_succ, List.set_nil, List.eraseIdx_cons_zero, List.eraseIdx_cons_succ] at L
    have c := L.cell 2 rfl
    simp (implicitDefEqProofs := false) only [go_sem, c]
    exact L.fin hp (.inl (by simp))
  rw [if_neg (nb e)] at hp
  simp (implicitDefEqProofs := false) only [go_sem]
  refine accept_go hs L [109, 105, 110] (fun e H7 L => ?_) fun e H7 L => ?_
  · rw [if_pos e] at hp
    simp (implicitDefEqProofs := false) only [go_sem]
    refine two_go (by kernel_rfl) integer_ok hs L hp fun ns a cw gb r H8 L hp => ?_
    simp (implicitDefEqProofs := false) only [go_sem]
    refine L.stoOne 1 rfl (by simp) rfl fun HA L => ?_
    simp only [List.set_cons_zero, List.set_cons_succ, List.set_nil, List.eraseIdx_cons_zero, List.eraseIdx_cons_succ] at L
    simp (implicitDefEqProofs := false) only [go_sem]
    refine L.stoOne 1 rfl (by simp) rfl fun HB L => ?_
    simp only [List.set_cons_zero, List.set_cons_succ, List.set_nil, List.eraseIdx_cons_zero, List.eraseIdx_cons_succ] at L
    have L := L.rowN 0 ns rfl
    simp only [List.set_cons_zero, List.set_cons_succ, List.set_nil, List.eraseIdx_cons_zero, List.eraseIdx_cons_succ] at L
    simp (implicitDefEqProofs := false) only [go_sem]
    have c := L.cell 0 rfl
    simp (implicitDefEqProofs := false) only [go_sem, c]
    refine L.stoAll 2 rfl rfl (one_agg (t := []) rfl) fun HZ L => ?_
    simp only [List.set_cons_zero, List.set_cons_succ, List.set_nil, List.eraseIdx_cons_zero, List.eraseIdx_cons_succ] at L
    have c := L.cell 2 rfl
    simp (implicitDefEqProofs := false) only [go_sem, c]
    exact L.fin hp (.inl (by simp))
  rw [if_neg (nb e)] at hp
  simp (implicitDefEqProofs := false) only [go_sem]
  refine is_go L [108, 101, 120] fun H7 L => ?_
  cases e : isB [108, 101, 120] ts with
  | true =>
    rw [if_pos e] at hp
    simp (implicitDefEqProofs := false) only [go_sem]
    refine enter_go (lo := loL) hs L lo_0' lo_s' hp fun j x H8 hj hx L _ hp => ?_
    cases hx
    simp (implicitDefEqProofs := false) only [go_sem]
    refine two_go (by kernel_rfl) (hlat j hj) hs L hp fun ns a cw gb r H8 L hp => ?_
    simp (implicitDefEqProofs := false) only [go_sem]
    refine L.stoOne 1 rfl (by simp) rfl fun HA L => ?_
    simp only [List.set_cons_zero, List.set_cons_succ, List.set_nil, List.eraseIdx_cons_zero, List.eraseIdx_cons_succ] at L
    simp (implicitDefEqProofs := false) only [go_sem]
    refine L.stoOne 1 rfl (by simp) rfl fun HB L => ?_
    simp only [List.set_cons_zero, List.set_cons_succ, List.set_nil, List.eraseIdx_cons_zero, List.eraseIdx_cons_succ] at L
    have L := L.rowN 0 ns rfl
    simp only [List.set_cons_zero, List.set_cons_succ, List.set_nil, List.eraseIdx_cons_zero, List.eraseIdx_cons_succ] at L
    simp (implicitDefEqProofs := false) only [go_sem]
    refine leave_go hs L hj hs.k64 fun _ H13 L => ?_
    have c := L.cell 0 rfl
    simp (implicitDefEqProofs := false) only [go_sem, c]
    refine L.stoAll 2 rfl rfl (one_agg (t := []) rfl) fun HZ L => ?_
    simp only [List.set_cons_zero, List.set_cons_succ, List.set_nil, List.eraseIdx_cons_zero, List.eraseIdx_cons_succ] at L
    have c := L.cell 2 rfl
    simp (implicitDefEqProofs := false) only [go_sem, c]
    exact L.fin hp (.inl (by simp))
  | false =>
  rw [if_neg (nb e)] at hp
  simp (implicitDefEqProofs := false) only [go_sem]
  refine is_go L [123] fun H7 L => ?_
  cases e : isB [123] ts with
  | true =>
    rw [if_pos e] at hp
    simp (implicitDefEqProofs := false) only [go_sem]
    refine enter_go (lo := loL) hs L lo_0' lo_s' hp fun j x H8 hj hx L _ hp => ?_
    cases hx
    have hlen := L.len
    have hdn := memP_dn (levL_dn j)
    have L := L.row0 24 5
    obtain ⟨cur0, hcur0⟩ : ∃ cur, cur = ts.tail := ⟨_, rfl⟩
    rw [← hcur0] at L hp hlen
    have hp : latP (loL k) ts = bd (memF (levL j) (cur0.length + 1) []) (fun l => bd (expP [125]) fun _ => ret (.mk 15 [] 0 (hd ts).at_ l)) cur0 := by
      rw [hp]
      have e : memsP (levL j) cur0 = bd (memF (levL j) (cur0.length + 1) []) (fun l => bd (expP [125]) fun _ => ret l) cur0 := rfl
      unfold bd at e ⊢
      rw [e]
      cases memF (levL j) (cur0.length + 1) [] cur0 with
      | error e => rfl
      | ok x =>
        simp only
        cases expP [125] x.2 <;> rfl
    simp (implicitDefEqProofs := false) only [go_sem]
    refine L.stoOne 1 rfl (by simp) rfl fun H9 L => ?_
    simp only [List.set_cons_zero, List.set_cons_succ, List.set_nil, List.eraseIdx_cons_zero, List.eraseIdx_cons_succ] at L
    simp (implicitDefEqProofs := false) only [go_sem]
    refine vc_loop (fun (s : Bool × List Tk × List Nd × Value) H' => ∃ g f, PLv X H s.2.1 j H' [.row 24 5 s.2.2.2 (s.2.2.1.map Nd.dat) g, .blk b3 24 [.int .i64 15, sv [], .int .i64 0, .int .i64 (hd ts).at_, s.2.2.2], .blk b2 39 (tkC (hd ts)), .blk b1 24 [.int .i64 0, sv [], .int .i64 0, .int .i64 0, .slice none 0 0]] [] ∧ (∃ a n c, s.2.2.2 = .slice a n c) ∧
      (s.1 = true → latP (loL k) ts = bd (memF (levL j) (f + 1) s.2.2.1) (fun l => bd (expP [125]) fun _ => ret (.mk 15 [] 0 (hd ts).at_ l)) s.2.1 ∧ s.2.1.length ≤ f ∧ s.2.2.1.length + s.2.1.length ≤ 1048576) ∧
      (s.1 = false → latP (loL k) ts = bd (expP [125]) (fun _ => ret (Nd.mk 15 [] 0 (hd ts).at_ s.2.2.1)) s.2.1))
      (fun s => [(0, ptr X.b), (2, .pointer (some ⟨b1, 0, none⟩)), (3, .pointer (some ⟨b2, 0, none⟩)), (4, .pointer (some ⟨b3, 0, none⟩)), (5, .bool s.1)]) (fun s => if s.1 then s.2.1.length + 1 else 0) (true, cur0, [], .slice none 0 0) ?_ ?_ ?_
    · exact ⟨none, cur0.length, L, ⟨_, _, _, rfl⟩, fun _ => ⟨hp, Nat.le_refl _, by simp; omega⟩, fun h => by cases h⟩
    · simp (implicitDefEqProofs := false) only [go_sem, ptr]
    · rintro ⟨more, cur, ns, v⟩ H10 ⟨g, f, L, ⟨va, vn, vc, hv⟩, hT, hF⟩
      simp only at L hT hF hv ⊢
      subst hv
      cases more with
      | false =>
        have hp := hF rfl
        simp (implicitDefEqProofs := false) only [go_sem]
        refine (expect_ok [125]).go hs L hp fun _ r v H11 L hp _ _ => ?_
        simp (implicitDefEqProofs := false) only [go_sem]
        refine leave_go hs L hj hs.k64 fun _ H12 L => ?_
        have L := L.rowN 0 ns rfl
        simp only [List.set_cons_zero, List.set_cons_succ, List.set_nil, List.eraseIdx_cons_zero, List.eraseIdx_cons_succ] at L
        have c := L.cell 0 rfl
        simp (implicitDefEqProofs := false) only [go_sem, c]
        refine L.stoAll 2 rfl rfl (one_agg (L.one (ks := ns) (by simp))) fun HZ L => ?_
        simp only [List.set_cons_zero, List.set_cons_succ, List.set_nil, List.eraseIdx_cons_zero, List.eraseIdx_cons_succ] at L
        have c := L.cell 2 rfl
        simp (implicitDefEqProofs := false) only [go_sem, c]
        exact L.fin hp (.inl (by simp))
      | true =>
        obtain ⟨hp, hf, hle⟩ := hT rfl
        have hcur := List.length_pos_iff.2 L.ps.nil
        have hp : latP (loL k) ts = bd (memP (levL j)) (fun m => bd (fun ts => if isB [44] ts then memF (levL j) f (ns ++ [m]) ts.tail else .ok (ns ++ [m], ts)) (fun l => bd (expP [125]) fun _ => ret (.mk 15 [] 0 (hd ts).at_ l))) cur := by
          rw [hp]; simp only [memF, bd_bd]
        rw [memP_eq, bd_bd] at hp
        simp (implicitDefEqProofs := false) only [go_sem]
        refine (named_ok 22).goN hs L hp fun kk tt nn aa ks kv r1 H11 L hp he => ?_
        have hle1 := (namedP_dn 22).of he
        simp only [bd_bd] at hp
        simp (implicitDefEqProofs := false) only [go_sem]
        refine L.newP fun b4 H12 L => ?_
        simp (implicitDefEqProofs := false) only [go_sem]
        refine L.stoAll 0 rfl rfl (one_agg (L.one (ks := ks) (by simp))) fun H13 L => ?_
        simp only [List.set_cons_zero, List.set_cons_succ, List.set_nil, List.eraseIdx_cons_zero, List.eraseIdx_cons_succ] at L
        simp (implicitDefEqProofs := false) only [go_sem]
        refine (expect_ok [58]).go hs L hp fun _ r2 v H14 L hp he _ => ?_
        have hle2 := (expP_dn _).of he
        rw [bd_bd] at hp
        simp (implicitDefEqProofs := false) only [go_sem]
        refine (hlat j hj).goN hs L hp fun kk' tt' nn' aa' ks' kv' r3 H15 L hp he => ?_
        have hle3 := (levL_dn j).of he
        simp (implicitDefEqProofs := false) only [go_sem]
        refine L.newS fun b5 H16 L => ?_
        have L := L.rowN1 (ks := ks') (by simp)
        have L := L.rowN 0 [.mk kk' tt' nn' aa' ks'] rfl
        simp only [List.set_cons_zero, List.set_cons_succ, List.set_nil, List.eraseIdx_cons_zero, List.eraseIdx_cons_succ] at L
        simp (implicitDefEqProofs := false) only [go_sem]
        refine L.stoOne 0 rfl (by simp) rfl fun H17 L => ?_
        simp only [List.set_cons_zero, List.set_cons_succ, List.set_nil, List.eraseIdx_cons_zero, List.eraseIdx_cons_succ] at L
        have c := L.cell 2 rfl
        have c' := L.cell 0 rfl
        simp (implicitDefEqProofs := false) only [go_sem, c, c']
        refine L.newS fun b6 H18 L => ?_
        simp (implicitDefEqProofs := false) only [go_sem]
        refine L.appN (ns := ns) (ks := [.mk kk' tt' nn' aa' ks']) 1 rfl (by simp) (by have := List.length_pos_iff.2 L.ps.nil; omega) fun a c g' H19 L => ?_
        simp only [List.set_cons_zero, List.set_cons_succ, List.set_nil, List.eraseIdx_cons_zero, List.eraseIdx_cons_succ] at L
        simp (implicitDefEqProofs := false) only [go_sem]
        refine L.stoOne 2 rfl (by simp) rfl fun H20 L => ?_
        simp only [List.set_cons_zero, List.set_cons_succ, List.set_nil, List.eraseIdx_cons_zero, List.eraseIdx_cons_succ] at L
        have hnil := List.length_pos_iff.2 L.ps.nil
        simp (implicitDefEqProofs := false) only [go_sem]
        refine accept_u hs L [44] fun H21 L => ?_
        have L := L.drop (l' := [_, _, _, _]) (List.sublist_cons_self _ _) (ds' := []) (by simp)
        simp (implicitDefEqProofs := false) only [go_sem]
        refine loopK_intro (isB [44] r3, (if isB [44] r3 then r3.tail else r3), ns ++ [.mk kk tt nn aa [.mk kk' tt' nn' aa' ks']], .slice a (ns ++ [Nd.mk kk tt nn aa [.mk kk' tt' nn' aa' ks']]).length c) ?_ ?_ ⟨g', f - 1, L, ⟨_, _, _, rfl⟩, fun h => ?_, fun h => ?_⟩
        · cases e4 : isB [44] r3 with
          | false => show 0 < cur.length + 1; omega
          | true =>
            show r3.tail.length + 1 < cur.length + 1
            rw [List.length_tail]; omega
        · simp (implicitDefEqProofs := false) only [go_sem]
        · simp only at h
          rw [h] at L ⊢
          simp only [if_true] at L ⊢
          have hnt := List.length_pos_iff.2 L.ps.nil
          rw [List.length_tail] at hnt
          refine ⟨?_, by rw [List.length_tail]; omega, by simp only [List.length_append, List.length_cons, List.length_nil, List.length_tail]; omega⟩
          rw [hp, show f - 1 + 1 = f by omega]
          conv => lhs; unfold bd ret
          simp only [h, if_true]; rfl
        · simp only at h
          rw [h]
          rw [hp]
          conv => lhs; unfold bd ret
          simp only [h, Bool.false_eq_true, if_false]; rfl
  | false =>
  rw [if_neg (nb e)] at hp
  simp (implicitDefEqProofs := false) only [go_sem]
  refine accept_go hs L [99, 108, 111, 115, 101, 100] (fun e H7 L => ?_) fun e H7 L => ?_
  · rw [if_pos e] at hp
    simp (implicitDefEqProofs := false) only [go_sem]
    refine closed_ok.goR hs L hp fun ns a cw gb r H8 L hp _ => ?_
    simp (implicitDefEqProofs := false) only [go_sem]
    refine L.stoOne 1 rfl (by simp) rfl fun HA L => ?_
    simp only [List.set_cons_zero, List.set_cons_succ, List.set_nil, List.eraseIdx_cons_zero, List.eraseIdx_cons_succ] at L
    simp (implicitDefEqProofs := false) only [go_sem]
    refine L.stoOne 1 rfl (by simp) rfl fun HB L => ?_
    simp only [List.set_cons_zero, List.set_cons_succ, List.set_nil, List.eraseIdx_cons_zero, List.eraseIdx_cons_succ] at L
    have L := L.rowN 0 ns rfl
    simp only [List.set_cons_zero, List.set_cons_succ, List.set_nil, List.eraseIdx_cons_zero, List.eraseIdx_cons_succ] at L
    simp (implicitDefEqProofs := false) only [go_sem]
    have c := L.cell 0 rfl
    simp (implicitDefEqProofs := false) only [go_sem, c]
    refine L.stoAll 2 rfl rfl (one_agg (t := []) rfl) fun HZ L => ?_
    simp only [List.set_cons_zero, List.set_cons_succ, List.set_nil, List.eraseIdx_cons_zero, List.eraseIdx_cons_succ] at L
    have c := L.cell 2 rfl
    simp (implicitDefEqProofs := false) only [go_sem, c]
    exact L.fin hp (.inl (by simp))
  rw [if_neg (nb e)] at hp
  simp (implicitDefEqProofs := false) only [go_sem]
  exact fail_go L hp
end Go.Proofs.YtbgjgaaobnbijaaDoor
end
section
/- Declarations: contract. -/
set_option linter.unusedSimpArgs false
set_option linter.unusedVariables false
set_option maxRecDepth 8000
namespace Go.Proofs.YtbgjgaaobnbijaaDoor
open Gx Go

theorem lat_ok : ∀ k : Nat, POk k 44 [] (latP (loL k)) NdR := by
  intro k
  induction k with
  | zero => exact lattice_ok fun j hj => by omega
  | succ k ih =>
    refine lattice_ok fun j hj => ?_
    obtain rfl : j = k := by omega
    rw [levL_eq]; exact ih
theorem isB_pos {s : Bs} {ts : List Tk} (h : isB s ts = true) : 0 < ts.length := by
  cases ts with
  | nil => exact absurd rfl (isB_kind h)
  | cons t r => simp
theorem expP_lt {s : Bs} {ts r : List Tk} {a : Int} (h : expP s ts = .ok (a, r)) : r.length < ts.length := by
  unfold expP at h
  split at h
  · rename_i e
    cases h
    have := isB_pos e
    rw [List.length_tail]; omega
  · cases h
theorem comma_lt' {ts r : List Tk} {b : Bool} (h : commaP ts = .ok (b, r)) : r.length < ts.length := by
  unfold commaP at h
  split at h
  · rename_i e
    cases h
    have := isB_pos e
    rw [List.length_tail]; omega
  · unfold bd at h
    split at h
    · cases h
    · rename_i a q hq
      have := expP_lt hq
      simp only [ret, Except.ok.injEq, Prod.mk.injEq] at h
      rw [← h.2]; exact this
theorem namedP_lt {k : Int} {ts r : List Tk} {a : Nd} (h : namedP k ts = .ok (a, r)) : r.length < ts.length := by
  unfold namedP bd at h
  split at h
  · cases h
  · rename_i t q hq
    obtain ⟨rfl, h2, rfl⟩ := takeP_eq hq
    have := hd_pos h2 (by decide)
    simp only [ret, Except.ok.injEq, Prod.mk.injEq] at h
    rw [← h.2, List.length_tail]; omega

/-- The last expression of an update or a query. -/
theorem func_end {X : Cx} {H H1 : Heap} {ts r : List Tk} {b b1 : Nat} {ns : List Nd} {v : Value} {g : Option Nat} {K n aa : Int} {nm : Bs} {γ : Type} {P0 : Except Flt (γ × List Tk)} {G : List Nd → PP γ} {x3 x4 x5 x6 x7 x8 x9 x10 x11 x12 : Option Value} {Q : Post} {cs1 : List Value} (hs : Ps X H ts 64)
    (L : PLv X H r 64 H1 [.row 24 5 v (ns.map Nd.dat) g, .blk b 24 [.int .i64 K, sv nm, .int .i64 n, .int .i64 aa, v], .blk b1 24 cs1] []) (hl : ns.length + 1 ≤ 1048576)
    (hp : P0 = bd (expP [61]) (fun _ => bd (exprP (loK 64)) fun e => G (ns ++ [e])) r)
    (hQ : ∀ a c g' H' r' m, PLv X H r' 64 H' [.row 24 5 (.slice a (ns ++ [m]).length c) ((ns ++ [m]).map Nd.dat) g', .blk b 24 [.int .i64 K, sv nm, .int .i64 n, .int .i64 aa, .slice a (ns ++ [m]).length c], .blk b1 24 cs1] [] → P0 = G (ns ++ [m]) r' →
      Q .nrm [some (ptr X.b), some (.pointer (some ⟨b1, 0, none⟩)), some (.pointer (some ⟨b, 0, none⟩)), x3, x4, x5, x6, x7, x8, x9, x10, x11, x12] H') :
    vc Tryd.prog (PEr X H P0) c30s51 [some (ptr X.b), some (.pointer (some ⟨b1, 0, none⟩)), some (.pointer (some ⟨b, 0, none⟩)), x3, x4, x5, x6, x7, x8, x9, x10, x11, x12] H1 Q := by
  rw [c30s51eq]
  simp (implicitDefEqProofs := false) only [go_sem]
  refine (expect_ok [61]).go hs L hp fun _ r1 v H2 L hp he _ => ?_
  have c := L.cell 1 rfl
  simp (implicitDefEqProofs := false) only [go_sem, c]
  refine (lev_ok 64).1.goN hs L hp fun kk tt nn aa' ks kv r2 H3 L hp he => ?_
  have c := L.cell 1 rfl
  simp (implicitDefEqProofs := false) only [go_sem, c]
  refine L.newS fun bA HA L => ?_
  have c := L.cell 2 rfl
  simp (implicitDefEqProofs := false) only [go_sem, c]
  refine L.appN (ns := ns) (ks := ks) 0 rfl (by simp) hl fun a c g' HB L => ?_
  simp only [List.set_cons_zero, List.set_cons_succ, List.set_nil, List.eraseIdx_cons_zero, List.eraseIdx_cons_succ] at L
  simp (implicitDefEqProofs := false) only [go_sem]
  refine L.stoOne 1 rfl (by simp) rfl fun HC L => ?_
  simp only [List.set_cons_zero, List.set_cons_succ, List.set_nil, List.eraseIdx_cons_zero, List.eraseIdx_cons_succ] at L
  simp (implicitDefEqProofs := false) only [go_sem]
  exact hQ a c g' HC r2 _ (L.drop (List.Sublist.refl _) (by simp)) hp

/-- An update or a query, behind its name. -/
theorem func_rest {X : Cx} {H H1 : Heap} {ts r : List Tk} {b b1 : Nat} {K aa : Int} {nm : Bs} {γ : Type} {P0 : Except Flt (γ × List Tk)} {G : List Nd → Int → PP γ} {x3 x4 x5 x6 x7 x8 x9 x10 x11 x12 : Option Value} {Q : Post} {cs1 : List Value} (hs : Ps X H ts 64)
    (L : PLv X H r 64 H1 [.blk b 24 [.int .i64 K, sv nm, .int .i64 0, .int .i64 aa, .slice none 0 0], .blk b1 24 cs1] [])
    (hp : P0 = bd (expP [40]) (fun _ => bd (listP paramP) fun ps => bd (expP [111, 110]) fun _ => bd (namedP 48) fun o => bd (if K = 5 then bd (expP [58]) fun _ => sortP else ret 0) fun n => bd (expP [61]) fun _ => bd (exprP (loK 64)) fun e => G (ps ++ [o] ++ [e]) n) r)
    (hQ : ∀ a c g' H' r' ns n x3 x4 x5 x6 x7 x8 x9 x10 x11 x12, PLv X H r' 64 H' [.row 24 5 (.slice a ns.length c) (ns.map Nd.dat) g', .blk b 24 [.int .i64 K, sv nm, .int .i64 n, .int .i64 aa, .slice a ns.length c], .blk b1 24 cs1] [] → P0 = G ns n r' →
      Q .nrm [some (ptr X.b), some (.pointer (some ⟨b1, 0, none⟩)), some (.pointer (some ⟨b, 0, none⟩)), x3, x4, x5, x6, x7, x8, x9, x10, x11, x12] H') :
    vc Tryd.prog (PEr X H P0) c30s56 [some (ptr X.b), some (.pointer (some ⟨b1, 0, none⟩)), some (.pointer (some ⟨b, 0, none⟩)), x3, x4, x5, x6, x7, x8, x9, x10, x11, x12] H1 Q := by
  rw [c30s56eq]
  simp (implicitDefEqProofs := false) only [go_sem]
  refine (expect_ok [40]).go hs L hp fun _ r1 v H2 L hp he _ => ?_
  have hlen := L.len
  obtain ⟨cur0, hcur0⟩ : ∃ cur, cur = r1 := ⟨_, rfl⟩
  rw [← hcur0] at L hp hlen
  have L := L.row0 24 5
  simp (implicitDefEqProofs := false) only [go_sem]
  refine accept_u hs L [41] fun H3 L => ?_
  simp (implicitDefEqProofs := false) only [go_sem]
  refine vc_loop (fun (s : Bool × List Tk × List Nd × (Option Addr × Nat)) H' => ∃ g f, PLv X H s.2.1 64 H' [.row 24 5 (.slice s.2.2.2.1 s.2.2.1.length s.2.2.2.2) (s.2.2.1.map Nd.dat) g, .blk b 24 [.int .i64 K, sv nm, .int .i64 0, .int .i64 aa, .slice s.2.2.2.1 s.2.2.1.length s.2.2.2.2], .blk b1 24 cs1] [] ∧ s.2.2.1.length + s.2.1.length ≤ 1048576 ∧
    (s.1 = true → P0 = bd (listF paramP f s.2.2.1) (fun ps => bd (expP [111, 110]) (fun _ => bd (namedP 48) fun o => bd (if K = 5 then bd (expP [58]) fun _ => sortP else ret 0) fun n => bd (expP [61]) fun _ => bd (exprP (loK 64)) fun e => G (ps ++ [o] ++ [e]) n)) s.2.1 ∧ s.2.1.length ≤ f) ∧
    (s.1 = false → P0 = bd (expP [111, 110]) (fun _ => bd (namedP 48) fun o => bd (if K = 5 then bd (expP [58]) fun _ => sortP else ret 0) fun n => bd (expP [61]) fun _ => bd (exprP (loK 64)) fun e => G (s.2.2.1 ++ [o] ++ [e]) n) s.2.1))
    (fun s => [(0, ptr X.b), (2, .pointer (some ⟨b1, 0, none⟩)), (3, .pointer (some ⟨b, 0, none⟩)), (4, .bool s.1)]) (fun s => if s.1 then s.2.1.length + 1 else 0) (!(isB [41] cur0), (if isB [41] cur0 then cur0.tail else cur0), [], (none, 0)) ?_ ?_ ?_
  · refine ⟨none, cur0.length, L, ?_, fun h => ?_, fun h => ?_⟩
    · simp only [List.length_nil, Nat.zero_add]
      split
      · rw [List.length_tail]; omega
      · exact hlen
    · have e : isB [41] cur0 = false := by simpa using h
      simp only [e, Bool.false_eq_true, if_false]
      rw [hp]
      refine ⟨?_, Nat.le_refl _⟩
      conv => lhs; unfold bd listP
      simp only [e, Bool.false_eq_true, if_false]; rfl
    · have e : isB [41] cur0 = true := by simpa using h
      simp only [e, if_true]
      rw [hp]
      conv => lhs; unfold bd listP
      simp only [e, if_true]; rfl
  · simp (implicitDefEqProofs := false) only [go_sem, ptr]
  · rintro ⟨more, cur, ns, va, vc⟩ H4 ⟨g, f, L, hle, hT, hF⟩
    simp only at L hT hF hle ⊢
    cases more with
    | false =>
      have hp := hF rfl
      simp (implicitDefEqProofs := false) only [go_sem]
      refine (expect_ok [111, 110]).go hs L hp fun _ r1 v H5 L hp he _ => ?_
      have hl1 := expP_lt he
      have c := L.cell 1 rfl
      simp (implicitDefEqProofs := false) only [go_sem, c]
      refine (named_ok 48).goN hs L hp fun kk tt nn aa' ks kv r2 H6 L hp he => ?_
      have hl2 := namedP_lt he
      have c := L.cell 1 rfl
      simp (implicitDefEqProofs := false) only [go_sem, c]
      refine L.newS fun bA HA L => ?_
      have c := L.cell 2 rfl
      simp (implicitDefEqProofs := false) only [go_sem, c]
      refine L.appN (ns := ns) (ks := ks) 0 rfl (by simp) (by omega) fun a c g' HB L => ?_
      simp only [List.set_cons_zero, List.set_cons_succ, List.set_nil, List.eraseIdx_cons_zero, List.eraseIdx_cons_succ] at L
      simp (implicitDefEqProofs := false) only [go_sem]
      refine L.stoOne 1 rfl (by simp) rfl fun HC L => ?_
      simp only [List.set_cons_zero, List.set_cons_succ, List.set_nil, List.eraseIdx_cons_zero, List.eraseIdx_cons_succ] at L
      have c := L.cell 1 rfl
      have L := L.drop (List.Sublist.refl _) (ds' := []) (by simp)
      by_cases hK : K = 5
      · rw [if_pos hK, bd_bd] at hp
        simp (implicitDefEqProofs := false) only [go_sem, c, hK]
        refine (expect_ok [58]).go hs L hp fun _ r3 v H7 L hp he _ => ?_
        have hl3 := expP_lt he
        simp (implicitDefEqProofs := false) only [go_sem]
        refine sort_ok.go hs L hp fun n r4 v H8 L hp he hv => ?_
        have hl4 := sortP_dn.of he
        cases hv
        simp (implicitDefEqProofs := false) only [go_sem]
        refine L.stoOne 1 rfl (by simp) rfl fun H9 L => ?_
        simp only [List.set_cons_zero, List.set_cons_succ, List.set_nil, List.eraseIdx_cons_zero, List.eraseIdx_cons_succ] at L
        simp (implicitDefEqProofs := false) only [go_sem]
        refine func_end (G := fun l => G l n) hs L (by simp; omega) hp fun a c g' H' r' m L hp => ?_
        exact hQ a c g' H' r' _ n _ _ _ _ _ _ _ _ _ _ L hp
      · rw [if_neg hK] at hp
        replace hp : P0 = bd (expP [61]) (fun _ => bd (exprP (loK 64)) fun e => G (ns ++ [.mk kk tt nn aa' ks] ++ [e]) 0) r2 := hp
        simp (implicitDefEqProofs := false) only [go_sem, c, hK]
        refine func_end (G := fun l => G l 0) hs L (by simp; omega) hp fun a c g' H' r' m L hp => ?_
        exact hQ a c g' H' r' _ 0 _ _ _ _ _ _ _ _ _ _ L hp
    | true =>
      obtain ⟨hp, hf⟩ := hT rfl
      have hcur := List.length_pos_iff.2 L.ps.nil
      obtain ⟨f, rfl⟩ : ∃ f', f = f' + 1 := ⟨f - 1, by omega⟩
      simp only [listF, bd_bd] at hp
      have c := L.cell 1 rfl
      simp (implicitDefEqProofs := false) only [go_sem, c]
      refine param_ok.goN hs L hp fun kk tt nn aa' ks kv r1 H5 L hp he => ?_
      have hl1 := paramP_dn.of he
      rw [bd_bd] at hp
      have c := L.cell 1 rfl
      simp (implicitDefEqProofs := false) only [go_sem, c]
      refine L.newS fun bA HA L => ?_
      have c := L.cell 2 rfl
      simp (implicitDefEqProofs := false) only [go_sem, c]
      refine L.appN (ns := ns) (ks := ks) 0 rfl (by simp) (by omega) fun a c g' HB L => ?_
      simp only [List.set_cons_zero, List.set_cons_succ, List.set_nil, List.eraseIdx_cons_zero, List.eraseIdx_cons_succ] at L
      simp (implicitDefEqProofs := false) only [go_sem]
      refine L.stoOne 1 rfl (by simp) rfl fun HC L => ?_
      simp only [List.set_cons_zero, List.set_cons_succ, List.set_nil, List.eraseIdx_cons_zero, List.eraseIdx_cons_succ] at L
      simp (implicitDefEqProofs := false) only [go_sem]
      refine comma_ok.go hs L hp fun m r2 v HD L hp hcm hv => ?_
      cases hv
      have hl2 := comma_lt' hcm
      have L := L.drop (ds' := []) (List.Sublist.refl _) (by simp)
      simp (implicitDefEqProofs := false) only [go_sem]
      refine loopK_intro (m, r2, ns ++ [.mk kk tt nn aa' ks], (a, c)) ?_ ?_ ⟨g', f, L, ?_, fun h => ?_, fun h => ?_⟩
      · cases m
        · show 0 < cur.length + 1
          omega
        · show r2.length + 1 < cur.length + 1
          omega
      · simp (implicitDefEqProofs := false) only [go_sem]
      · simp only [List.length_append, List.length_cons, List.length_nil]; omega
      · simp only at h; subst h
        exact ⟨hp, show r2.length ≤ f by omega⟩
      · simp only at h; subst h
        exact hp

set_option maxHeartbeats 1000000 in
theorem declaration_ok : POk 64 30 [] declP NdR := by
  refine ⟨fun {X H ts} hs => ?_⟩
  refine pcalls_of_vc (args := [_]) Tryd.func30 c30ok (Nat.le_of_ble_eq_true rfl) ?_
  have L := hs.walk
  obtain ⟨hp, _⟩ : declP ts = declP ts ∧ True := ⟨rfl, trivial⟩
  conv at hp => rhs; unfold declP
  simp (implicitDefEqProofs := false) only [go_sem, c30]
  refine L.newP fun b1 H1 L => ?_
  simp (implicitDefEqProofs := false) only [go_sem]
  refine look_go L fun H2 L => ?_
  simp (implicitDefEqProofs := false) only [go_sem, tkC]
  refine L.newP fun b H3 L => ?_
  simp (implicitDefEqProofs := false) only [go_sem]
  refine L.stoAll 0 rfl rfl (one_agg (t := []) rfl) fun H4 L => ?_
  simp only [List.set_cons_zero, List.set_cons_succ, List.set_nil, List.eraseIdx_cons_zero, List.eraseIdx_cons_succ] at L
  simp (implicitDefEqProofs := false) only [go_sem]
  refine accept_go hs L [108, 97, 116, 116, 105, 99, 101] (fun e H5 L => ?_) fun e H5 L => ?_
  · rw [if_pos e] at hp
    simp (implicitDefEqProofs := false) only [go_sem]
    refine L.stoOne 0 rfl (by simp) rfl fun H6 L => ?_
    simp only [List.set_cons_zero, List.set_cons_succ, List.set_nil, List.eraseIdx_cons_zero, List.eraseIdx_cons_succ] at L
    simp (implicitDefEqProofs := false) only [go_sem]
    refine (take_ok 1 (by decide)).go hs L hp fun t r v H7 L hp _ hv => ?_
    cases hv
    simp (implicitDefEqProofs := false) only [go_sem, tkC, sv]
    refine L.stoOne 0 rfl (by simp) rfl fun H8 L => ?_
    simp only [List.set_cons_zero, List.set_cons_succ, List.set_nil, List.eraseIdx_cons_zero, List.eraseIdx_cons_succ] at L
    have c := L.cell 0 rfl
    simp (implicitDefEqProofs := false) only [go_sem, c]
    refine (expect_ok [61]).go hs L hp fun _ r v H9 L hp _ _ => ?_
    simp (implicitDefEqProofs := false) only [go_sem]
    refine (levL_eq 64 ▸ lat_ok 64).goN hs L hp fun kk tt nn aa ks kv r HA L hp _ => ?_
    simp (implicitDefEqProofs := false) only [go_sem]
    refine L.newS fun b5 HB L => ?_
    have L := L.rowN1 (ks := ks) (by simp)
    have L := L.rowN 0 [.mk kk tt nn aa ks] rfl
    simp only [List.set_cons_zero, List.set_cons_succ, List.set_nil, List.eraseIdx_cons_zero, List.eraseIdx_cons_succ] at L
    simp (implicitDefEqProofs := false) only [go_sem]
    refine L.stoOne 0 rfl (by simp) rfl fun HC L => ?_
    simp only [List.set_cons_zero, List.set_cons_succ, List.set_nil, List.eraseIdx_cons_zero, List.eraseIdx_cons_succ] at L
    simp (implicitDefEqProofs := false) only [go_sem]
    refine (expect_ok [59]).go hs L hp fun _ r v HD L hp _ _ => ?_
    have c := L.cell 0 rfl
    simp (implicitDefEqProofs := false) only [go_sem, c]
    refine L.stoAll 1 rfl rfl (one_agg rfl) fun HZ L => ?_
    simp only [List.set_cons_zero, List.set_cons_succ, List.set_nil, List.eraseIdx_cons_zero, List.eraseIdx_cons_succ] at L
    have c := L.cell 1 rfl
    simp (implicitDefEqProofs := false) only [go_sem, c]
    exact L.fin hp (.inl (by simp))
  rw [if_neg (nb e)] at hp
  simp (implicitDefEqProofs := false) only [go_sem]
  refine accept_go hs L [111, 98, 106, 101, 99, 116] (fun e H5 L => ?_) fun e H5 L => ?_
  · rw [if_pos e] at hp
    simp (implicitDefEqProofs := false) only [go_sem]
    refine L.stoOne 0 rfl (by simp) rfl fun H6 L => ?_
    simp only [List.set_cons_zero, List.set_cons_succ, List.set_nil, List.eraseIdx_cons_zero, List.eraseIdx_cons_succ] at L
    simp (implicitDefEqProofs := false) only [go_sem]
    refine (take_ok 1 (by decide)).go hs L hp fun t r v H7 L hp _ hv => ?_
    cases hv
    simp (implicitDefEqProofs := false) only [go_sem, tkC, sv]
    refine L.stoOne 0 rfl (by simp) rfl fun H8 L => ?_
    simp only [List.set_cons_zero, List.set_cons_succ, List.set_nil, List.eraseIdx_cons_zero, List.eraseIdx_cons_succ] at L
    have c := L.cell 0 rfl
    simp (implicitDefEqProofs := false) only [go_sem, c]
    refine (expect_ok [58]).go hs L hp fun _ r v H9 L hp _ _ => ?_
    simp (implicitDefEqProofs := false) only [go_sem]
    refine (levL_eq 64 ▸ lat_ok 64).goN hs L hp fun kk tt nn aa ks kv r HA L hp _ => ?_
    simp (implicitDefEqProofs := false) only [go_sem]
    refine L.newS fun b5 HB L => ?_
    have L := L.rowN1 (ks := ks) (by simp)
    have L := L.rowN 0 [.mk kk tt nn aa ks] rfl
    simp only [List.set_cons_zero, List.set_cons_succ, List.set_nil, List.eraseIdx_cons_zero, List.eraseIdx_cons_succ] at L
    simp (implicitDefEqProofs := false) only [go_sem]
    refine L.stoOne 0 rfl (by simp) rfl fun HC L => ?_
    simp only [List.set_cons_zero, List.set_cons_succ, List.set_nil, List.eraseIdx_cons_zero, List.eraseIdx_cons_succ] at L
    simp (implicitDefEqProofs := false) only [go_sem]
    refine (expect_ok [59]).go hs L hp fun _ r v HD L hp _ _ => ?_
    have c := L.cell 0 rfl
    simp (implicitDefEqProofs := false) only [go_sem, c]
    refine L.stoAll 1 rfl rfl (one_agg rfl) fun HZ L => ?_
    simp only [List.set_cons_zero, List.set_cons_succ, List.set_nil, List.eraseIdx_cons_zero, List.eraseIdx_cons_succ] at L
    have c := L.cell 1 rfl
    simp (implicitDefEqProofs := false) only [go_sem, c]
    exact L.fin hp (.inl (by simp))
  rw [if_neg (nb e)] at hp
  simp (implicitDefEqProofs := false) only [go_sem]
  refine accept_go hs L [117, 112, 100, 97, 116, 101] (fun e H5 L => ?_) fun e H5 L => ?_
  · rw [if_pos e] at hp
    simp (implicitDefEqProofs := false) only [go_sem]
    refine L.stoOne 0 rfl (by simp) rfl fun H6 L => ?_
    simp only [List.set_cons_zero, List.set_cons_succ, List.set_nil, List.eraseIdx_cons_zero, List.eraseIdx_cons_succ] at L
    simp (implicitDefEqProofs := false) only [go_sem]
    refine (take_ok 1 (by decide)).go hs L hp fun t r v H7 L hp _ hv => ?_
    cases hv
    simp (implicitDefEqProofs := false) only [go_sem, tkC, sv]
    refine L.stoOne 0 rfl (by simp) rfl fun H8 L => ?_
    simp only [List.set_cons_zero, List.set_cons_succ, List.set_nil, List.eraseIdx_cons_zero, List.eraseIdx_cons_succ] at L
    have c := L.cell 0 rfl
    simp (implicitDefEqProofs := false) only [go_sem, c]
    refine func_rest (nm := t.text) (G := fun l n => bd (expP [59]) fun _ => ret (.mk 4 t.text n (hd ts).at_ l)) hs L hp fun a c g' H' r' ns n x3 x4 x5 x6 x7 x8 x9 x10 x11 x12 L hp => ?_
    simp (implicitDefEqProofs := false) only [go_sem]
    refine (expect_ok [59]).go hs L hp fun _ r v HD L hp _ _ => ?_
    have L := L.rowN 0 ns rfl
    simp only [List.set_cons_zero, List.set_cons_succ, List.set_nil, List.eraseIdx_cons_zero, List.eraseIdx_cons_succ] at L
    have c := L.cell 0 rfl
    simp (implicitDefEqProofs := false) only [go_sem, c]
    refine L.stoAll 1 rfl rfl (one_agg rfl) fun HZ L => ?_
    simp only [List.set_cons_zero, List.set_cons_succ, List.set_nil, List.eraseIdx_cons_zero, List.eraseIdx_cons_succ] at L
    have c := L.cell 1 rfl
    simp (implicitDefEqProofs := false) only [go_sem, c]
    exact L.fin hp (.inl (by simp))
  rw [if_neg (nb e)] at hp
  simp (implicitDefEqProofs := false) only [go_sem]
  refine accept_go hs L [113, 117, 101, 114, 121] (fun e H5 L => ?_) fun e H5 L => ?_
  · rw [if_pos e] at hp
    simp (implicitDefEqProofs := false) only [go_sem]
    refine L.stoOne 0 rfl (by simp) rfl fun H6 L => ?_
    simp only [List.set_cons_zero, List.set_cons_succ, List.set_nil, List.eraseIdx_cons_zero, List.eraseIdx_cons_succ] at L
    simp (implicitDefEqProofs := false) only [go_sem]
    refine (take_ok 1 (by decide)).go hs L hp fun t r v H7 L hp _ hv => ?_
    cases hv
    simp (implicitDefEqProofs := false) only [go_sem, tkC, sv]
    refine L.stoOne 0 rfl (by simp) rfl fun H8 L => ?_
    simp only [List.set_cons_zero, List.set_cons_succ, List.set_nil, List.eraseIdx_cons_zero, List.eraseIdx_cons_succ] at L
    have c := L.cell 0 rfl
    simp (implicitDefEqProofs := false) only [go_sem, c]
    refine func_rest (nm := t.text) (G := fun l n => bd (expP [59]) fun _ => ret (.mk 5 t.text n (hd ts).at_ l)) hs L hp fun a c g' H' r' ns n x3 x4 x5 x6 x7 x8 x9 x10 x11 x12 L hp => ?_
    simp (implicitDefEqProofs := false) only [go_sem]
    refine (expect_ok [59]).go hs L hp fun _ r v HD L hp _ _ => ?_
    have L := L.rowN 0 ns rfl
    simp only [List.set_cons_zero, List.set_cons_succ, List.set_nil, List.eraseIdx_cons_zero, List.eraseIdx_cons_succ] at L
    have c := L.cell 0 rfl
    simp (implicitDefEqProofs := false) only [go_sem, c]
    refine L.stoAll 1 rfl rfl (one_agg rfl) fun HZ L => ?_
    simp only [List.set_cons_zero, List.set_cons_succ, List.set_nil, List.eraseIdx_cons_zero, List.eraseIdx_cons_succ] at L
    have c := L.cell 1 rfl
    simp (implicitDefEqProofs := false) only [go_sem, c]
    exact L.fin hp (.inl (by simp))
  rw [if_neg (nb e)] at hp
  simp (implicitDefEqProofs := false) only [go_sem]
  exact fail_go L hp
end Go.Proofs.YtbgjgaaobnbijaaDoor
end
section
/- The grammar's functions do not depend on how much they may read. -/
set_option linter.unusedSimpArgs false
set_option linter.unusedVariables false
set_option maxRecDepth 8000
namespace Go.Proofs.YtbgjgaaobnbijaaDoor
open Gx Go

theorem bd_eq {α β : Type} {p : PP α} {f g : α → PP β} {ts : List Tk} (h : ∀ a r, p ts = .ok (a, r) → f a r = g a r) : bd p f ts = bd p g ts := by
  unfold bd
  split
  · rfl
  · exact h _ _ (by assumption)
theorem hd_lt {ts : List Tk} {k : Int} (h : (hd ts).kind = k) (hk : k ≠ 6) : ts.tail.length < ts.length := by
  have := hd_pos h hk
  rw [List.length_tail]; omega
theorem tl_lt {ts : List Tk} {s : Bs} (h : isB s ts = true) : ts.tail.length < ts.length := by
  have := isB_pos h
  rw [List.length_tail]; omega
theorem quoteP_lt {ts r : List Tk} {n : Nd} (h : quoteP ts = .ok (n, r)) : r.length < ts.length := by
  obtain ⟨_, h2, rfl⟩ := quoteP_eq h
  exact hd_lt h2 (by decide)
theorem takeP_lt {k : Int} (hk : k ≠ 6) {ts r : List Tk} {t : Tk} (h : takeP k ts = .ok (t, r)) : r.length < ts.length := by
  obtain ⟨rfl, h2, rfl⟩ := takeP_eq h
  exact hd_lt h2 hk
theorem opAt_isB {kd : Kd} {ts : List Tk} (h : opAt kd ts = true) : isB (hd ts).text ts = true := by
  unfold opAt at h
  rw [Bool.and_eq_true] at h
  exact h.2

theorem quotesF_fuel : ∀ (f g : Nat) (l : List Nd) (ts : List Tk), ts.length ≤ f → ts.length ≤ g → quotesF f l ts = quotesF g l ts
  | 0, 0, l, ts, _, _ => rfl
  | 0, g + 1, l, ts, hf, hg => by
    have : ts = [] := List.eq_nil_of_length_eq_zero (by omega)
    subst this; rfl
  | f + 1, 0, l, ts, hf, hg => by
    have : ts = [] := List.eq_nil_of_length_eq_zero (by omega)
    subst this; rfl
  | f + 1, g + 1, l, ts, hf, hg => by
    simp only [quotesF]
    split
    · rename_i e
      have := tl_lt e
      exact bd_eq fun q r hq => by have := quoteP_lt hq; exact quotesF_fuel f g _ r (by omega) (by omega)
    · rfl
theorem chainF_fuel {op : PP Nd} {kd : Kd} (hop : Dn op) : ∀ (f g : Nat) (n : Nd) (ts : List Tk), ts.length ≤ f → ts.length ≤ g → chainF op kd f n ts = chainF op kd g n ts
  | 0, 0, n, ts, _, _ => rfl
  | 0, g + 1, n, ts, hf, hg => by
    have : ts = [] := List.eq_nil_of_length_eq_zero (by omega)
    subst this
    simp [chainF, opAt, isB, hd, ret]
  | f + 1, 0, n, ts, hf, hg => by
    have : ts = [] := List.eq_nil_of_length_eq_zero (by omega)
    subst this
    simp [chainF, opAt, isB, hd, ret]
  | f + 1, g + 1, n, ts, hf, hg => by
    simp only [chainF]
    split
    · rename_i e
      have := tl_lt (opAt_isB e)
      exact bd_eq fun q r hq => by have := hop.of hq; exact chainF_fuel hop f g _ r (by omega) (by omega)
    · rfl
theorem postF_fuel {lo : Lo} (hl : LoDn lo) : ∀ (f g : Nat) (n : Nd) (ts : List Tk), ts.length ≤ f → ts.length ≤ g → postF lo f n ts = postF lo g n ts
  | 0, 0, n, ts, _, _ => rfl
  | 0, g + 1, n, ts, hf, hg => by
    have : ts = [] := List.eq_nil_of_length_eq_zero (by omega)
    subst this
    simp [postF, isB, hd, ret]
  | f + 1, 0, n, ts, hf, hg => by
    have : ts = [] := List.eq_nil_of_length_eq_zero (by omega)
    subst this
    simp [postF, isB, hd, ret]
  | f + 1, g + 1, n, ts, hf, hg => by
    simp only [postF]
    split
    · rename_i e
      have := tl_lt e
      exact bd_eq fun q r hq => by have := takeP_lt (by decide) hq; exact postF_fuel hl f g _ r (by omega) (by omega)
    · split
      · rename_i e
        have := tl_lt e
        unfold entP
        rw [if_pos e, if_pos e]
        split
        · rfl
        · rename_i x
          exact bd_eq fun q r hq => by
            have := (hl x rfl).1.of hq
            exact bd_eq fun q r hq => by have := expP_lt hq; exact postF_fuel hl f g _ r (by omega) (by omega)
      · rfl
/-- A token is read at least. -/
def Lt {α : Type} (p : PP α) : Prop := ∀ (ts r : List Tk) (a : α), p ts = .ok (a, r) → r.length < ts.length
theorem Lt.of {α : Type} {p : PP α} (h : Lt p) {ts r : List Tk} {a : α} (hp : p ts = .ok (a, r)) : r.length < ts.length := h _ _ _ hp
theorem Lt.bnd {α β : Type} {p : PP α} {f : α → PP β} (h : Lt p) (hf : ∀ a, Dn (f a)) : Lt (bd p f) := by
  intro ts r b hb
  unfold bd at hb
  split at hb
  · cases hb
  · rename_i a q hq
    have := h.of hq; have := (hf a).of hb; omega
theorem Lt.bnd' {α β : Type} {p : PP α} {f : α → PP β} (h : Lt p) (hf : ∀ a ts r b, f a ts = .ok (b, r) → r.length ≤ ts.length) : Lt (bd p f) := h.bnd fun a ts r b hb => hf a ts r b hb
theorem Dn.lt {α : Type} {p : PP α} (h : Dn p) {ts r : List Tk} {a : α} {s : Bs} (e : isB s ts = true) (hp : p ts.tail = .ok (a, r)) : r.length < ts.length := by
  have := h.of hp; have := tl_lt e; omega
theorem takeP_Lt {k : Int} (hk : k ≠ 6) : Lt (takeP k) := fun _ _ _ h => takeP_lt hk h
theorem entP_Lt {α β : Type} {lo : Option β} {s : Bs} {body : β → PP α} (h : ∀ x, lo = some x → Dn (body x)) : Lt (entP lo s body) := by
  intro ts r b hb
  unfold entP at hb
  split at hb
  · rename_i e
    split at hb
    · cases hb
    · rename_i x
      exact Dn.lt (h x rfl) e hb
  · cases hb
theorem intP_Lt : Lt intP := by
  intro ts r b h
  unfold intP at h
  split at h
  · rename_i e
    exact Dn.lt ((takeP_dn 3).bnd fun _ => Dn.ret _) e h
  · exact Lt.of ((takeP_Lt (by decide)).bnd fun _ => Dn.ret _) h
theorem namedP_Lt (k : Int) : Lt (namedP k) := (takeP_Lt (by decide)).bnd fun _ => Dn.ret _
theorem quoteP_Lt : Lt quoteP := (takeP_Lt (by decide)).bnd fun _ => Dn.ret _
section
variable {lo : Lo} (hl : LoDn lo)
include hl
theorem primP_Lt : Lt (primP lo) := by
  intro ts r b hb
  unfold primP at hb
  split at hb
  · exact intP_Lt.of hb
  split at hb
  · exact quoteP_Lt.of hb
  split at hb
  · exact (namedP_Lt _).of hb
  split at hb
  · rename_i e; cases hb; exact tl_lt e
  split at hb
  · rename_i e; cases hb; exact tl_lt e
  split at hb
  · rename_i e; cases hb; exact tl_lt e
  split at hb
  · rename_i e; cases hb; exact tl_lt e
  split at hb
  · exact Lt.of (entP_Lt fun x hx => (hl x hx).1.bnd fun _ => (expP_dn _).bnd fun _ => Dn.ret _) hb
  split at hb
  · have := Lt.of (entP_Lt fun x hx => (listP_dn (argP_dn (hl x hx).1 _)).bnd fun _ => Dn.ret _) hb
    have := tail_le ts
    omega
  · cases hb
theorem postP_Lt : Lt (postP lo) := (primP_Lt hl).bnd' fun n ts r b hb => (postF_dn hl _ n).of hb
theorem sumP_Lt : Lt (sumP lo) := (postP_Lt hl).bnd' fun n ts r b hb => (chainF_dn (postP_dn hl) _ n).of hb
theorem joinP_Lt : Lt (joinP lo) := (sumP_Lt hl).bnd' fun n ts r b hb => (chainF_dn (sumP_dn hl) _ n).of hb
theorem cmpP_Lt : Lt (cmpP lo) := (joinP_Lt hl).bnd' fun n ts r b hb => by
  split at hb
  · exact Dn.tl ((joinP_dn hl).bnd fun _ => Dn.ret _) hb
  · cases hb; exact Nat.le_refl _
theorem notP_Lt : Lt (notP lo) := by
  intro ts r b hb
  unfold notP at hb
  split at hb
  · exact Lt.of (entP_Lt fun x hx => (hl x hx).2.bnd fun _ => Dn.ret _) hb
  · exact (cmpP_Lt hl).of hb
theorem andP_Lt : Lt (andP lo) := (notP_Lt hl).bnd' fun n ts r b hb => (chainF_dn (notP_dn hl) _ n).of hb
theorem orP_Lt : Lt (orP lo) := (andP_Lt hl).bnd' fun n ts r b hb => (chainF_dn (andP_dn hl) _ n).of hb
theorem exprP_Lt : Lt (exprP lo) := by
  intro ts r b hb
  unfold exprP at hb
  split at hb
  · exact Lt.of (entP_Lt fun x hx => (hl x hx).1.bnd fun _ => (expP_dn _).bnd fun _ => (hl x hx).1.bnd fun _ => (expP_dn _).bnd fun _ => (hl x hx).1.bnd fun _ => Dn.ret _) hb
  · exact (orP_Lt hl).of hb
end
theorem lev_Lt (k : Nat) : Lt (lev k).1 ∧ Lt (lev k).2 := by
  rw [lev_eq]
  exact ⟨exprP_Lt (loK_dn k), notP_Lt (loK_dn k)⟩
theorem argP_Lt {e : PP Nd} (he : Lt e) (hd : Dn e) (fn : Bs) : Lt (argP e fn) := by
  intro ts r b hb
  unfold argP at hb
  split at hb
  · exact Lt.of ((takeP_Lt (by decide)).bnd fun t => (expP_dn _).bnd fun _ => hd.bnd fun _ => Dn.ret _) hb
  · split at hb
    · exact Lt.of (he.bnd fun t => (expP_dn _).bnd fun _ => hd.bnd fun _ => Dn.ret _) hb
    · exact he.of hb
theorem paramP_Lt : Lt paramP := (takeP_Lt (by decide)).bnd fun _ => (expP_dn _).bnd fun _ => sortP_dn.bnd fun _ => Dn.ret _
theorem memP_Lt {x : PP Nd} (h : Dn x) : Lt (memP x) := (takeP_Lt (by decide)).bnd fun _ => (expP_dn _).bnd fun _ => h.bnd fun _ => Dn.ret _
theorem Lt.nil {α β : Type} {p : PP α} (h : Lt p) (f g : α → PP β) : bd p f [] = bd p g [] := bd_eq fun a r hp => by have := h.of hp; simp at this

theorem listF_fuel {arg : PP Nd} (h : Lt arg) : ∀ (f g : Nat) (l : List Nd) (ts : List Tk), ts.length ≤ f + 1 → ts.length ≤ g + 1 → listF arg (f + 1) l ts = listF arg (g + 1) l ts := by
  intro f
  induction f with
  | zero =>
    intro g l ts hf hg
    simp only [listF]
    refine bd_eq fun a r hq => bd_eq fun m r' hm => ?_
    have h1 := h.of hq
    have h2 := comma_lt' hm
    omega
  | succ f ih =>
    intro g l ts hf hg
    cases g with
    | zero =>
      simp only [listF]
      refine bd_eq fun a r hq => bd_eq fun m r' hm => ?_
      have h1 := h.of hq
      have h2 := comma_lt' hm
      omega
    | succ g =>
      rw [listF, listF]
      refine bd_eq fun a r hq => bd_eq fun m r' hm => ?_
      have h1 := h.of hq
      have h2 := comma_lt' hm
      cases m with
      | false => rfl
      | true =>
        simp only [if_true]
        exact ih g _ r' (by omega) (by omega)
theorem memF_fuel {x : PP Nd} (h : Dn x) : ∀ (f g : Nat) (l : List Nd) (ts : List Tk), ts.length ≤ f + 1 → ts.length ≤ g + 1 → memF x (f + 1) l ts = memF x (g + 1) l ts := by
  intro f
  induction f with
  | zero =>
    intro g l ts hf hg
    simp only [memF]
    refine bd_eq fun a r hq => ?_
    have h1 := (memP_Lt h).of hq
    show (if _ then _ else _) = (if _ then _ else _)
    split
    · rename_i e
      have := isB_pos e
      omega
    · rfl
  | succ f ih =>
    intro g l ts hf hg
    cases g with
    | zero =>
      simp only [memF]
      refine bd_eq fun a r hq => ?_
      have h1 := (memP_Lt h).of hq
      show (if _ then _ else _) = (if _ then _ else _)
      split
      · rename_i e
        have := isB_pos e
        omega
      · rfl
    | succ g =>
      rw [memF, memF]
      refine bd_eq fun a r hq => ?_
      have h1 := (memP_Lt h).of hq
      show (if _ then _ else _) = (if _ then _ else _)
      split
      · rename_i e
        have := tl_lt e
        exact ih g _ _ (by omega) (by omega)
      · rfl
theorem rulesF_fuel : ∀ (f g : Nat) (l : List Nd) (ts : List Tk), ts.length ≤ f → ts.length ≤ g → rulesF f l ts = rulesF g l ts
  | 0, 0, l, ts, _, _ => rfl
  | 0, g + 1, l, ts, hf, hg => by
    have : ts = [] := List.eq_nil_of_length_eq_zero (by omega)
    subst this; rfl
  | f + 1, 0, l, ts, hf, hg => by
    have : ts = [] := List.eq_nil_of_length_eq_zero (by omega)
    subst this; rfl
  | f + 1, g + 1, l, ts, hf, hg => by
    simp only [rulesF]
    split
    · rename_i e
      have := tl_lt e
      exact bd_eq fun q r hq => by have := ruleP_dn.of hq; exact rulesF_fuel f g _ r (by omega) (by omega)
    · rfl
end Go.Proofs.YtbgjgaaobnbijaaDoor
end
section
/- The whole of a source: contracts. -/
set_option linter.unusedSimpArgs false
set_option linter.unusedVariables false
set_option maxRecDepth 8000
namespace Go.Proofs.YtbgjgaaobnbijaaDoor
open Gx Go

/-! ### the tokens of a source -/
theorem lexF_len : ∀ (f : Nat) (s : Bs) (o : Nat) (T : List Tk), lexF f s o = .ok T → T.length ≤ f ∧ T ≠ [] ∧ ∀ i t r, T.drop i = t :: r → t.kind ≠ 6 → r ≠ []
  | 0, s, o, T, h => by simp [lexF] at h
  | f + 1, s, o, T, h => by
    unfold lexF at h
    split at h
    · cases h
    · split at h
      · rename_i k t n m _ hk
        cases h
        refine ⟨by simp, by simp, fun i t' r hi hn => ?_⟩
        cases i with
        | zero => simp only [List.drop_zero, List.cons.injEq] at hi; obtain ⟨rfl, rfl⟩ := hi; exact absurd hk hn
        | succ i => simp at hi
      · rename_i k t n m _ hk
        cases e : lexF f (s.drop (skB false s + m)) (o + skB false s + m) with
        | bad c j => rw [e] at h; cases h
        | ok T' =>
          rw [e] at h
          simp only [LR.cons, LR.ok.injEq] at h
          subst h
          obtain ⟨h1, h2, h3⟩ := lexF_len f _ _ _ e
          refine ⟨by simp; omega, by simp, fun i t' r hi hn => ?_⟩
          cases i with
          | zero => simp only [List.drop_zero, List.cons.injEq] at hi; obtain ⟨rfl, rfl⟩ := hi; exact h2
          | succ i => exact h3 i t' r (by simpa using hi) hn
theorem lexT_len {s : Bs} {T : List Tk} (h : lexT s = .ok T) : T.length ≤ 65537 ∧ T ≠ [] ∧ ∀ i t r, T.drop i = t :: r → t.kind ≠ 6 → r ≠ [] := by
  unfold lexT at h
  split at h
  · cases h
  · unfold lexA at h
    obtain ⟨h1, h2, h3⟩ := lexF_len _ _ _ _ h
    exact ⟨by omega, h2, h3⟩
theorem lexF_bad : ∀ (f : Nat) (s : Bs) (o : Nat) (c : Int) (k : Nat), s.length < f → lexF f s o = .bad c k → c ≠ 0
  | 0, s, o, c, k, hl, h => by omega
  | f + 1, s, o, c, k, hl, h => by
    unfold lexF at h
    split at h
    · rename_i e he
      cases h
      exact bad_code he
    · rename_i kd t n m he
      split at h
      · cases h
      · rename_i hk
        cases e : lexF f (s.drop (skB false s + m)) (o + skB false s + m) with
        | ok T' => rw [e] at h; cases h
        | bad c' j =>
          rw [e] at h
          simp only [LR.cons, LR.bad.injEq] at h
          obtain ⟨rfl, rfl⟩ := h
          refine lexF_bad f _ _ _ _ ?_ e
          obtain ⟨h1, h2, h3⟩ := tokS_len he
          have hne : s.drop (skB false s) ≠ [] := fun q => hk (h3 q)
          have := (h2 hne).1
          have h5 := List.length_pos_iff.2 hne
          simp only [List.length_drop] at h1 h5 ⊢
          omega
theorem lexT_bad {s : Bs} {c : Int} {k : Nat} (h : lexT s = .bad c k) : c ≠ 0 := by
  unfold lexT at h
  split at h
  · cases h; decide
  · exact lexF_bad _ _ _ _ _ (by simp) h

/-- What the parser answers. -/
def srcP (p : PP Nd) (s : Bs) : Except Flt Nd := match lexT s with
  | .bad c k => .error (c, k)
  | .ok T => topP p T
def zeroN : List Value := [.int .i64 0, sv [], .int .i64 0, .int .i64 0, .slice none 0 0]
def ResR (R : Except Flt Nd) (v : Value) (H H' : Heap) : Prop := match R with
  | .error e => v = .tuple #[.agg zeroN.toArray, .agg #[.int .i64 e.1, .int .i64 e.2]]
  | .ok n => ∃ cs, v = .tuple #[.agg cs.toArray, .agg #[.int .i64 0, .int .i64 0]] ∧ RepP H' (fun x => x < H.size) n.dat cs
theorem Ps.keep {X : Cx} {H H' : Heap} {ts : List Tk} {k : Nat} {M : List Nat} (h : Ps X H ts k) (hf : Fr M H H') (hb : X.b ∉ M) (ha : ∀ b o, X.a = some ⟨b, o, none⟩ → b ∉ M) : Ps X H' ts k := by
  obtain ⟨i, h1, h2, h3⟩ := h.ex
  exact ⟨⟨i, h1.fr hf hb, h2, h3⟩, h.row.fr hf ha, h.ne, h.k64, h.cap, h.fin⟩

def pP (x : Nat) : Value := .pointer (some ⟨x, 0, none⟩)
theorem rec_ret {x y : Nat} (H : Heap) : DCalls Tryd.prog 33 #[pP x, pP y] .returning .returning H fun H'' => H'' = H := by
  refine dcalls_of_rec (args := [_, _]) (u := .returning) (m := .returning) (v := .nilIface) Tryd.func33 c33ok (Nat.le_of_ble_eq_true rfl) rfl ?_
  simp (implicitDefEqProofs := false) only [go_sem, c33, c33b, cD, posOf, putS]
theorem rec_panic {H : Heap} {x y : Nat} {xs ys : List Value} {e : Flt} (hx : Blk H x 31 xs) (hxl : xs.length = 2) (hy : Blk H y 24 ys) (hyl : ys.length = 5) (hxy : x ≠ y) :
    DCalls Tryd.prog 33 #[pP x, pP y] (.panicking (flt e)) .returning H fun H'' => Blk H'' x 31 [.int .i64 e.1, .int .i64 e.2] ∧ Blk H'' y 24 zeroN ∧ Fr [x, y] H H'' := by
  refine dcalls_of_rec (args := [_, _]) (u := .panicking (flt e)) (m := .panicking [{ v := .iface 31 (.agg #[.int .i64 e.1, .int .i64 e.2]), recovered := true }]) (v := .iface 31 (.agg #[.int .i64 e.1, .int .i64 e.2])) Tryd.func33 c33ok (Nat.le_of_ble_eq_true rfl) rfl ?_
  simp (implicitDefEqProofs := false) only [go_sem, c33, c33b, pP, cD, posOf, putS]
  refine Sto_all hx (by simp [hxl]) (by simp [Value.oneCell']) fun H1 hx1 hf1 hs1 => ?_
  have hy1 := hy.fr hf1 (by simp; omega)
  simp (implicitDefEqProofs := false) only [go_sem]
  refine Sto_all hy1 (by simp [hyl]) (by simp [Value.oneCell', sv]) fun H2 hy2 hf2 hs2 => ?_
  have hx2 := hx1.fr hf2 (by simp; omega)
  simp (implicitDefEqProofs := false) only [go_sem]
  exact ⟨hx2, hy2, (hf1.mono (by simp)).trans (hf2.mono (by simp))⟩

set_option maxHeartbeats 1000000 in
theorem prun_ok {g : Nat} {p : PP Nd} (hg : hasBody Tryd.prog g = true) (hop : POk 64 g [] p NdR) (s : Bs) (hl : s.length ≤ maxLen) {H : Heap} (hG : GlobH H) :
    HCalls Tryd.prog 24 #[sv s, .func (.func g) #[] #[]] H fun v H' => ResR (srcP p s) v H H' ∧ Fr [] H H' := by
  refine calls_of_defers (args := [_, _]) Tryd.func24 c24ok (Nat.le_of_ble_eq_true rfl) ?_
  have L : Lv [] H [] (fun _ => True) H [] [] := Lv.start (by simp) (fun _ _ _ _ => trivial)
  simp (implicitDefEqProofs := false) only [go_sem, c24, c24a]
  refine L.newP fun b1 H1 L => ?_
  simp (implicitDefEqProofs := false) only [go_sem]
  refine L.newP fun b2 H2 L => ?_
  simp (implicitDefEqProofs := false) only [go_sem]
  refine (lex_ok s hl (hG.ext L.fr)).mono ?_
  rintro r H3 ⟨hr, hf3⟩
  have L := L.ext hf3
  cases hlex : lexT s with
  | bad c k =>
    rw [hlex] at hr
    simp only [LexR] at hr
    subst hr
    have hc := lexT_bad hlex
    have hsp : srcP p s = .error (c, k) := by unfold srcP; rw [hlex]
    rw [hsp]
    simp (implicitDefEqProofs := false) only [go_sem, ftV]
    refine L.newP fun b3 H4 L => ?_
    simp (implicitDefEqProofs := false) only [go_sem]
    refine L.stoAll 0 rfl rfl (by simp [Value.oneCell']) fun H5 L => ?_
    simp only [List.set_cons_zero, List.set_cons_succ, List.set_nil, List.eraseIdx_cons_zero, List.eraseIdx_cons_succ] at L
    have c0 := L.cell 0 rfl
    have c1 := L.cell 1 rfl
    have c2 := L.cell 2 rfl
    simp (implicitDefEqProofs := false) only [go_sem, c0, hc]
    refine L.stoAll 2 rfl rfl (by simp [Value.oneCell', sv]) fun H6 L => ?_
    simp only [List.set_cons_zero, List.set_cons_succ, List.set_nil, List.eraseIdx_cons_zero, List.eraseIdx_cons_succ] at L
    have c0 := L.cell 0 rfl
    simp (implicitDefEqProofs := false) only [go_sem, c0]
    refine L.stoAll 1 rfl rfl (by simp [Value.oneCell']) fun H7 L => ?_
    simp only [List.set_cons_zero, List.set_cons_succ, List.set_nil, List.eraseIdx_cons_zero, List.eraseIdx_cons_succ] at L
    have c1 := L.cell 1 rfl
    have c2 := L.cell 2 rfl
    simp (implicitDefEqProofs := false) only [go_sem, c1, c2, defQ]
    exact ⟨by simp [ResR, zeroN, sv], L.fr⟩
  | ok T =>
    rw [hlex] at hr
    simp only [LexR] at hr
    obtain ⟨a, cT, rfl, hcap1, hcap2, hrow⟩ := hr
    have hsp : srcP p s = topP p T := by unfold srcP; rw [hlex]
    rw [hsp]
    obtain ⟨hT1, hT2, hT3⟩ := lexT_len hlex
    simp (implicitDefEqProofs := false) only [go_sem, ftV]
    obtain ⟨rb, ro, ha, hget⟩ := RowR.get hrow tkC_len (T.length - 1) (by have := List.length_pos_iff.2 hT2; omega) (by decide)
    have hk6 : (T[T.length - 1]'(by have := List.length_pos_iff.2 hT2; omega)).kind = 6 := by
      have hlt : T.length - 1 < T.length := by have := List.length_pos_iff.2 hT2; omega
      refine Decidable.byContradiction fun hn => ?_
      exact hT3 (T.length - 1) _ _ (List.drop_eq_getElem_cons hlt) hn (List.drop_eq_nil_of_le (by omega))
    have h6 := hget 0 (by decide)
    rw [Nat.add_zero] at h6
    simp only [tkC, List.getElem?_cons_zero, hk6] at h6
    have hne1 : rb ≠ b1 := by
      rintro rfl
      have c := L.cell 1 rfl
      rw [c] at h6
      have := List.mem_of_getElem? h6
      simp [sv] at this
    have hne2 : rb ≠ b2 := by
      rintro rfl
      have c := L.cell 0 rfl
      rw [c] at h6
      have := List.mem_of_getElem? h6
      simp at this
    have hrlt := cellB_lt h6
    refine NewP_intro fun H4 hn4 hf4 hs4 => ?_
    have L := L.push hf4 hn4
    simp (implicitDefEqProofs := false) only [go_sem]
    refine Sto_all hn4 rfl (by simp [Value.oneCell']) fun H5 hn5 hf5 hs5 => ?_
    have L := L.sto 0 rfl hf5 hn5
    simp only [List.set_cons_zero, List.set_cons_succ, List.set_nil, List.eraseIdx_cons_zero, List.eraseIdx_cons_succ] at L
    have hrow5 : RowR tkC H5 a T := (hrow.ext hf4).fr hf5 fun b o e hm => by
      rw [ha] at e; cases e
      simp only [List.mem_singleton] at hm
      omega
    have c := L.cell 0 rfl
    simp (implicitDefEqProofs := false) only [go_sem, c]
    refine NewP_intro fun H6 hn6 hf6 hs6 => ?_
    have hsz4 := hf4.size
    have hsz5 := hf5.size
    have hsz0 := L.fr.size
    have hps : Ps ⟨H5.size, a, cT, T⟩ H6 T 64 := ⟨⟨0, hn6, rfl, List.length_pos_iff.2 hT2⟩, hrow5.ext hf6, fun b o e => by rw [ha] at e; cases e; show rb ≠ H5.size; omega, Nat.le_refl _, by show T.length ≤ _; omega, hT3⟩
    obtain ⟨O, hO1, hO2, hO3⟩ : ∃ O : List Nat, H5.size ∈ O ∧ (∀ x ∈ O, x = H5.size ∨ (x = rb ∧ H.size ≤ rb)) ∧ (H.size ≤ rb → rb ∈ O) := by
      by_cases q : H.size ≤ rb
      · exact ⟨[H5.size, rb], by simp, fun x hx => by simp at hx; rcases hx with h | h; exact .inl h; exact .inr ⟨h, q⟩, fun _ => by simp⟩
      · exact ⟨[H5.size], by simp, fun x hx => by simp at hx; exact .inl hx, fun h => absurd h q⟩
    have hstb : ∀ {A : Heap} {ts : List Tk}, Ps ⟨H5.size, a, cT, T⟩ A ts 64 → ∀ (M : List Nat) (B : Heap), Fr M A B → (∀ x ∈ M, H.size ≤ x ∧ x ∉ O) → Ps ⟨H5.size, a, cT, T⟩ B ts 64 := fun h M B hf hM => by
      refine h.keep hf (fun hm => (hM _ hm).2 hO1) fun b o e hm => ?_
      replace e : a = some ⟨b, o, none⟩ := e
      rw [ha] at e; cases e
      exact (hM _ hm).2 (hO3 (hM _ hm).1)
    have hbs : rb ∉ [Ent.blk H3.size 31 [.int .i64 0, .int .i64 0], .blk b2 31 [.int .i64 0, .int .i64 0], .blk b1 24 [.int .i64 0, sv [], .int .i64 0, .int .i64 0, .slice none 0 0]].flatMap Ent.bs := by
      simp [Ent.bs]; omega
    have L6 : Lv [] H O (fun A => Ps ⟨H5.size, a, cT, T⟩ A T 64) H6 [.blk H3.size 31 [.int .i64 0, .int .i64 0], .blk b2 31 [.int .i64 0, .int .i64 0], .blk b1 24 [.int .i64 0, sv [], .int .i64 0, .int .i64 0, .slice none 0 0]] [] := by
      have hlo5 := fun x hx => (L.lo x hx).2.2
      have L := L.ext hf6
      refine ⟨L.fr, fun x hx => ?_, L.nd, fun x hx => ?_, fun p hp => ?_, by simp, hstb hps⟩
      · rcases hO2 x hx with q | ⟨q, q2⟩
        · subst q; exact ⟨hn6.lt, .inr (by omega)⟩
        · subst q; exact ⟨by have := hf6.size; omega, .inr q2⟩
      · obtain ⟨h1, h2, h3⟩ := L.lo x hx
        refine ⟨h1, fun hm => ?_, h3⟩
        rcases hO2 x hm with q | ⟨q, q2⟩
        · have := hlo5 x hx; omega
        · subst q; exact hbs hx
      · have h := L.ok p hp
        simp only [List.mem_cons, List.not_mem_nil, or_false] at hp
        rcases hp with rfl | rfl | rfl <;> exact h
    have step : ∀ {A B : Heap} {ts ts' : List Tk} {l : List Ent} {ds : List (Dat × List Value)}, Lv [] H O (fun A => Ps ⟨H5.size, a, cT, T⟩ A ts 64) A l ds → Fr [H5.size] A B → Ps ⟨H5.size, a, cT, T⟩ B ts' 64 → Lv [] H O (fun A => Ps ⟨H5.size, a, cT, T⟩ A ts' 64) B l ds := fun L hf h =>
      L.call (hf.mono fun x hx => .inl (by simp only [List.mem_singleton] at hx; subst hx; exact hO1)) (hstb h)
    have over : ∀ {A : Heap} {ts : List Tk} {e : Flt} {xs ys : List Value} {ds : List (Dat × List Value)} {B : Heap}, Lv [] H O (fun A => Ps ⟨H5.size, a, cT, T⟩ A ts 64) A [.blk H3.size 31 xs, .blk b2 31 [.int .i64 0, .int .i64 0], .blk b1 24 ys] ds → ys.length = 5 → topP p T = .error e → Fr [H5.size] A B →
        DCalls Tryd.prog 33 #[pP b2, pP b1] (.panicking (flt e)) .returning B fun H'' => finN (fun v H' => ResR (topP p T) v H H' ∧ Fr [] H H') H'' (resV [some (pP b1), some (pP b2)] H'' [.cell S0 (some 5), .cell S1 (some 2)]) := by
      intro A ts e xs ys ds B L hy he hf
      have L : Lv [] H O (fun _ => True) B _ ds := L.call (hf.mono fun x hx => .inl (by simp only [List.mem_singleton] at hx; subst hx; exact hO1)) (fun _ _ _ _ => trivial)
      have hne : b2 ≠ b1 := by
        have := L.nd
        simp only [List.flatMap_cons, List.flatMap_nil, Ent.bs, List.cons_append, List.nil_append, List.nodup_cons, List.mem_cons, List.not_mem_nil, or_false] at this
        exact this.2.1
      refine (rec_panic (L.get 1 rfl) rfl (L.get 2 rfl) hy hne).mono ?_
      rintro H2 ⟨hx2, hy2, hf2⟩
      have cx := hx2.cell
      have cy := hy2.cell
      have hlo := L.lo
      rw [he]
      unfold pP
      simp (implicitDefEqProofs := false) only [go_sem, cx, cy, zeroN]
      refine ⟨by simp [ResR, zeroN], L.fr.trans' hf2 fun x hx => .inr ?_⟩
      simp only [List.mem_cons, List.not_mem_nil, or_false] at hx
      rcases hx with rfl | rfl
      · exact (hlo x (by simp [Ent.bs])).1
      · exact (hlo x (by simp [Ent.bs])).1
    simp (implicitDefEqProofs := false) only [go_sem]
    refine ⟨_, _, rfl, rfl, ?_⟩
    simp (implicitDefEqProofs := false) only [go_sem, c24, c24b]
    refine ⟨hg, PCalls.mono (hop.ok hps) ?_ ?_⟩
    · rintro v H7 ⟨n, r, hp, ⟨cs, rfl, hr⟩, hs7, hf7⟩
      obtain ⟨kk, tt, nn, aa, ks⟩ := n
      obtain ⟨kv, rfl, hkv⟩ := RepP.nd_open hr
      have L := (step L6 hf7 hs7).add (L6.built hkv)
      simp (implicitDefEqProofs := false) only [go_sem]
      refine L.stoAll 2 rfl rfl (one_agg (nd_one (L.dat (kidsD ks, [kv]) (by simp)))) fun H8 L => ?_
      simp only [List.set_cons_zero, List.set_cons_succ, List.set_nil, List.eraseIdx_cons_zero, List.eraseIdx_cons_succ] at L
      simp (implicitDefEqProofs := false) only [go_sem]
      refine (look_ok L.st).mono ?_
      rintro v H9 ⟨rfl, hf9⟩
      have L := L.ext hf9
      have c2 := L.cell 2 rfl
      have c1 := L.cell 1 rfl
      by_cases k6 : (hd r).kind = 6
      · simp (implicitDefEqProofs := false) only [go_sem, tkC, k6, c2]
        refine L.stoAll 2 rfl rfl (one_agg (nd_one (L.dat (kidsD ks, [kv]) (by simp)))) fun HA L => ?_
        simp only [List.set_cons_zero, List.set_cons_succ, List.set_nil, List.eraseIdx_cons_zero, List.eraseIdx_cons_succ] at L
        simp (implicitDefEqProofs := false) only [go_sem]
        refine L.stoAll 1 rfl rfl (by simp [Value.oneCell']) fun HB L => ?_
        simp only [List.set_cons_zero, List.set_cons_succ, List.set_nil, List.eraseIdx_cons_zero, List.eraseIdx_cons_succ] at L
        simp (implicitDefEqProofs := false) only [go_sem]
        refine (rec_ret (x := b2) (y := b1) HB).mono ?_
        rintro H2 rfl
        have c2 := L.cell 2 rfl
        have c1 := L.cell 1 rfl
        simp (implicitDefEqProofs := false) only [go_sem, c1, c2]
        have ht : topP p T = .ok (.mk kk tt nn aa ks) := by unfold topP; rw [hp]; simp only [k6, if_true]
        rw [ht]
        have hk := L.dat (kidsD ks, [kv]) (by simp)
        exact ⟨⟨_, rfl, RepP.nd (hk.more fun x hx => .inl (.inl hx))⟩, L.fr⟩
      · simp (implicitDefEqProofs := false) only [go_sem, tkC, k6]
        refine (fail_ok L.st 2).mono (fun _ _ h => h.elim) ?_
        rintro ch HA ⟨rfl, hfA⟩
        refine over L rfl ?_ (fr1 hfA)
        unfold topP; rw [hp]; simp only [k6, if_false]
    · rintro ch H7 ⟨e, hp, rfl, hf7⟩
      exact over L6 rfl (by unfold topP; rw [hp]) hf7

theorem pexpr1_ok : POk 64 25 [] (exprP (loK 64)) NdR := by
  refine ⟨fun {X H ts} hs => ?_⟩
  refine pcalls_of_vc (args := [_]) Tryd.func25 c25ok (Nat.le_of_ble_eq_true rfl) ?_
  have L := hs.walk
  simp (implicitDefEqProofs := false) only [go_sem, c25]
  refine L.newP fun b1 H1 L => ?_
  simp (implicitDefEqProofs := false) only [go_sem]
  refine (lev_ok 64).1.goL hs L (P0 := exprP (loK 64) ts) rfl fun kk tt nn aa ks kv r H5 L hp => ?_
  simp (implicitDefEqProofs := false) only [go_sem]
  refine L.stoAll 0 rfl rfl (one_agg (L.one (ks := ks) (by simp))) fun HZ L => ?_
  simp only [List.set_cons_zero, List.set_cons_succ, List.set_nil, List.eraseIdx_cons_zero, List.eraseIdx_cons_succ] at L
  have c := L.cell 0 rfl
  simp (implicitDefEqProofs := false) only [go_sem, c]
  exact L.fin hp (.inl (by simp))
theorem pparse1_ok : POk 64 28 [] progP NdR := by
  refine ⟨fun {X H ts} hs => ?_⟩
  refine pcalls_of_vc (args := [_]) Tryd.func28 c28ok (Nat.le_of_ble_eq_true rfl) ?_
  have L := hs.walk
  have hlen := L.len
  simp (implicitDefEqProofs := false) only [go_sem, c28]
  refine L.newP fun b1 H1 L => ?_
  simp (implicitDefEqProofs := false) only [go_sem]
  refine L.newP fun b2 H2 L => ?_
  simp (implicitDefEqProofs := false) only [go_sem]
  refine L.stoAll 0 rfl rfl (one_agg (t := []) rfl) fun H3 L => ?_
  simp only [List.set_cons_zero, List.set_cons_succ, List.set_nil, List.eraseIdx_cons_zero, List.eraseIdx_cons_succ] at L
  have L := L.row0 24 5
  simp (implicitDefEqProofs := false) only [go_sem]
  refine vc_loop (fun (s : List Tk × List Nd × (Option Addr × Nat)) H' => ∃ g f, PLv X H s.1 64 H' [.row 24 5 (.slice s.2.2.1 s.2.1.length s.2.2.2) (s.2.1.map Nd.dat) g, .blk b2 24 [.int .i64 1, sv [], .int .i64 0, .int .i64 0, .slice s.2.2.1 s.2.1.length s.2.2.2], .blk b1 24 [.int .i64 0, sv [], .int .i64 0, .int .i64 0, .slice none 0 0]] [] ∧ s.2.1.length + s.1.length ≤ 1048576 ∧
    progP ts = bd (progF (f + 1) s.2.1) (fun l => ret (.mk 1 [] 0 0 l)) s.1 ∧ s.1.length ≤ f)
    (fun s => [(0, ptr X.b), (2, .pointer (some ⟨b1, 0, none⟩)), (3, .pointer (some ⟨b2, 0, none⟩))]) (fun s => s.1.length) (ts, [], (none, 0)) ?_ ?_ ?_
  · exact ⟨none, ts.length, L, by simpa using hlen, rfl, Nat.le_refl _⟩
  · simp (implicitDefEqProofs := false) only [go_sem, ptr]
  · rintro ⟨cur, ns, va, vc⟩ H4 ⟨g, f, L, hle, hp, hf⟩
    simp only at L hp hf hle ⊢
    have hne := L.ps.nil
    have hcur := List.length_pos_iff.2 hne
    have hp : progP ts = if (hd cur).kind = 6 then ret (Nd.mk 1 [] 0 0 ns) cur else bd declP (fun d => bd (progF f (ns ++ [d])) (fun l => ret (.mk 1 [] 0 0 l))) cur := by
      rw [hp]
      conv => lhs; unfold bd progF
      by_cases e : (hd cur).kind = 6
      · simp only [e, if_true]
      · simp only [e, if_false]
        rw [← bd_bd]; rfl
    simp (implicitDefEqProofs := false) only [go_sem]
    refine look_go L fun H5 L => ?_
    by_cases k6 : (hd cur).kind = 6
    · rw [if_pos k6] at hp
      simp (implicitDefEqProofs := false) only [go_sem, tkC, k6]
      have L := L.rowN 0 ns rfl
      simp only [List.set_cons_zero, List.set_cons_succ, List.set_nil, List.eraseIdx_cons_zero, List.eraseIdx_cons_succ] at L
      have c := L.cell 0 rfl
      simp (implicitDefEqProofs := false) only [go_sem, c]
      refine L.stoAll 1 rfl rfl (one_agg (t := []) rfl) fun HZ L => ?_
      simp only [List.set_cons_zero, List.set_cons_succ, List.set_nil, List.eraseIdx_cons_zero, List.eraseIdx_cons_succ] at L
      have c := L.cell 1 rfl
      simp (implicitDefEqProofs := false) only [go_sem, c]
      exact L.fin hp (.inl (by simp))
    · rw [if_neg k6] at hp
      have c := L.cell 1 rfl
      simp (implicitDefEqProofs := false) only [go_sem, tkC, k6, c]
      refine declaration_ok.goN hs L hp fun kk tt nn aa ks kv r1 H6 L hp he => ?_
      have hlt := declP_lt he hne
      have c := L.cell 1 rfl
      simp (implicitDefEqProofs := false) only [go_sem, c]
      refine L.newS fun bA HA L => ?_
      have c := L.cell 2 rfl
      simp (implicitDefEqProofs := false) only [go_sem, c]
      refine L.appN (ns := ns) (ks := ks) 0 rfl (by simp) (by omega) fun a c g' HB L => ?_
      simp only [List.set_cons_zero, List.set_cons_succ, List.set_nil, List.eraseIdx_cons_zero, List.eraseIdx_cons_succ] at L
      simp (implicitDefEqProofs := false) only [go_sem]
      refine L.stoOne 1 rfl (by simp) rfl fun HC L => ?_
      simp only [List.set_cons_zero, List.set_cons_succ, List.set_nil, List.eraseIdx_cons_zero, List.eraseIdx_cons_succ] at L
      simp (implicitDefEqProofs := false) only [go_sem]
      obtain ⟨f, rfl⟩ : ∃ f', f = f' + 1 := ⟨f - 1, by omega⟩
      refine loopK_intro (r1, ns ++ [.mk kk tt nn aa ks], (a, c)) ?_ ?_ ⟨g', f, L.drop (List.Sublist.refl _) (by simp), ?_, hp, show r1.length ≤ f by omega⟩
      · show r1.length < cur.length
        omega
      · simp (implicitDefEqProofs := false) only [go_sem]
      · simp only [List.length_append, List.length_cons, List.length_nil]; omega

section
variable (s : Bs) (hl : s.length ≤ maxLen) {H : Heap} (hG : GlobH H)
include hl hG
theorem pexpr_ok : HCalls Tryd.prog 16 #[sv s] H fun v H' => ResR (srcP (exprP (loK 64)) s) v H H' ∧ Fr [] H H' := by
  refine calls_of_vc (args := [_]) Tryd.func16 c16ok (Nat.le_of_ble_eq_true rfl) ?_
  have L : Lv [] H [] (fun _ => True) H [] [] := Lv.start (by simp) (fun _ _ _ _ => trivial)
  simp (implicitDefEqProofs := false) only [go_sem, c16]
  refine L.newP fun b1 H1 L => ?_
  simp (implicitDefEqProofs := false) only [go_sem]
  refine L.newP fun b2 H2 L => ?_
  simp (implicitDefEqProofs := false) only [go_sem]
  refine (prun_ok (g := 25) (by kernel_rfl) pexpr1_ok s hl (hG.ext L.fr)).mono ?_
  rintro v H3 ⟨hv, hf3⟩
  cases e : srcP (exprP (loK 64)) s with
  | error e =>
    rw [e] at hv
    simp only [ResR] at hv
    subst hv
    have L := L.ext hf3
    simp (implicitDefEqProofs := false) only [go_sem, zeroN, sv]
    refine L.stoAll 1 rfl rfl (by simp [Value.oneCell']) fun H4 L => ?_
    simp only [List.set_cons_zero, List.set_cons_succ, List.set_nil, List.eraseIdx_cons_zero, List.eraseIdx_cons_succ] at L
    simp (implicitDefEqProofs := false) only [go_sem]
    refine L.stoAll 0 rfl rfl (by simp [Value.oneCell']) fun H5 L => ?_
    simp only [List.set_cons_zero, List.set_cons_succ, List.set_nil, List.eraseIdx_cons_zero, List.eraseIdx_cons_succ] at L
    have c0 := L.cell 0 rfl
    have c1 := L.cell 1 rfl
    simp (implicitDefEqProofs := false) only [go_sem, c0, c1]
    exact ⟨by simp [ResR, zeroN, sv], L.fr⟩
  | ok n =>
    rw [e] at hv
    simp only [ResR] at hv
    obtain ⟨cs, rfl, hr⟩ := hv
    obtain ⟨kk, tt, nn, aa, ks⟩ := n
    obtain ⟨kv, rfl, hkv⟩ := RepP.nd_open hr
    have L := (L.ext hf3).add (L.built hkv)
    simp (implicitDefEqProofs := false) only [go_sem]
    refine L.stoAll 1 rfl rfl (one_agg (nd_one (L.dat (kidsD ks, [kv]) (by simp)))) fun H4 L => ?_
    simp only [List.set_cons_zero, List.set_cons_succ, List.set_nil, List.eraseIdx_cons_zero, List.eraseIdx_cons_succ] at L
    simp (implicitDefEqProofs := false) only [go_sem]
    refine L.stoAll 0 rfl rfl (by simp [Value.oneCell']) fun H5 L => ?_
    simp only [List.set_cons_zero, List.set_cons_succ, List.set_nil, List.eraseIdx_cons_zero, List.eraseIdx_cons_succ] at L
    have c0 := L.cell 0 rfl
    have c1 := L.cell 1 rfl
    simp (implicitDefEqProofs := false) only [go_sem, c0, c1]
    exact ⟨⟨_, rfl, RepP.nd ((L.dat (kidsD ks, [kv]) (by simp)).more fun x hx => .inl (.inl hx))⟩, L.fr⟩
theorem pparse_ok : HCalls Tryd.prog 21 #[sv s] H fun v H' => ResR (srcP progP s) v H H' ∧ Fr [] H H' := by
  refine calls_of_vc (args := [_]) Tryd.func21 c21ok (Nat.le_of_ble_eq_true rfl) ?_
  have L : Lv [] H [] (fun _ => True) H [] [] := Lv.start (by simp) (fun _ _ _ _ => trivial)
  simp (implicitDefEqProofs := false) only [go_sem, c21]
  refine L.newP fun b1 H1 L => ?_
  simp (implicitDefEqProofs := false) only [go_sem]
  refine L.newP fun b2 H2 L => ?_
  simp (implicitDefEqProofs := false) only [go_sem]
  refine (prun_ok (g := 28) (by kernel_rfl) pparse1_ok s hl (hG.ext L.fr)).mono ?_
  rintro v H3 ⟨hv, hf3⟩
  cases e : srcP progP s with
  | error e =>
    rw [e] at hv
    simp only [ResR] at hv
    subst hv
    have L := L.ext hf3
    simp (implicitDefEqProofs := false) only [go_sem, zeroN, sv]
    refine L.stoAll 1 rfl rfl (by simp [Value.oneCell']) fun H4 L => ?_
    simp only [List.set_cons_zero, List.set_cons_succ, List.set_nil, List.eraseIdx_cons_zero, List.eraseIdx_cons_succ] at L
    simp (implicitDefEqProofs := false) only [go_sem]
    refine L.stoAll 0 rfl rfl (by simp [Value.oneCell']) fun H5 L => ?_
    simp only [List.set_cons_zero, List.set_cons_succ, List.set_nil, List.eraseIdx_cons_zero, List.eraseIdx_cons_succ] at L
    have c0 := L.cell 0 rfl
    have c1 := L.cell 1 rfl
    simp (implicitDefEqProofs := false) only [go_sem, c0, c1]
    exact ⟨by simp [ResR, zeroN, sv], L.fr⟩
  | ok n =>
    rw [e] at hv
    simp only [ResR] at hv
    obtain ⟨cs, rfl, hr⟩ := hv
    obtain ⟨kk, tt, nn, aa, ks⟩ := n
    obtain ⟨kv, rfl, hkv⟩ := RepP.nd_open hr
    have L := (L.ext hf3).add (L.built hkv)
    simp (implicitDefEqProofs := false) only [go_sem]
    refine L.stoAll 1 rfl rfl (one_agg (nd_one (L.dat (kidsD ks, [kv]) (by simp)))) fun H4 L => ?_
    simp only [List.set_cons_zero, List.set_cons_succ, List.set_nil, List.eraseIdx_cons_zero, List.eraseIdx_cons_succ] at L
    simp (implicitDefEqProofs := false) only [go_sem]
    refine L.stoAll 0 rfl rfl (by simp [Value.oneCell']) fun H5 L => ?_
    simp only [List.set_cons_zero, List.set_cons_succ, List.set_nil, List.eraseIdx_cons_zero, List.eraseIdx_cons_succ] at L
    have c0 := L.cell 0 rfl
    have c1 := L.cell 1 rfl
    simp (implicitDefEqProofs := false) only [go_sem, c0, c1]
    exact ⟨⟨_, rfl, RepP.nd ((L.dat (kidsD ks, [kv]) (by simp)).more fun x hx => .inl (.inl hx))⟩, L.fr⟩
end
end Go.Proofs.YtbgjgaaobnbijaaDoor
end
section
/- Trees compared and counted: contracts. -/
set_option linter.unusedSimpArgs false
set_option linter.unusedVariables false
set_option maxRecDepth 8000
namespace Go.Proofs.YtbgjgaaobnbijaaDoor
open Gx Go

mutual
def sameN : Nd → Nd → Bool
  | .mk k t n _ ks, .mk k' t' n' _ ks' => decide (k = k') && decide (t = t') && decide (n = n') && decide (ks.length = ks'.length) && sameL ks ks'
def sameL : List Nd → List Nd → Bool
  | x :: xs, y :: ys => sameN x y && sameL xs ys
  | _, _ => true
end
mutual
def eqN : Nd → Nd → Bool
  | .mk k t n a ks, .mk k' t' n' a' ks' => decide (k = k') && decide (t = t') && decide (n = n') && decide (a = a') && decide (ks.length = ks'.length) && eqL ks ks'
def eqL : List Nd → List Nd → Bool
  | x :: xs, y :: ys => eqN x y && eqL xs ys
  | _, _ => true
end
mutual
def sizeN : Nd → Nat
  | .mk _ _ _ _ ks => sizeL ks + 1
def sizeL : List Nd → Nat
  | [] => 0
  | x :: xs => sizeN x + sizeL xs
end
theorem sizeL_get : ∀ (l : List Nd) (i : Nat) (h : i < l.length), sizeN l[i] ≤ sizeL l
  | x :: xs, 0, _ => by simp only [List.getElem_cons_zero, sizeL]; omega
  | x :: xs, i + 1, h => by
    have := sizeL_get xs i (by simpa using h)
    simp only [List.getElem_cons_succ, sizeL]; omega
/-- The cells of a tree, in memory that is read. -/
def NA (H : Heap) (n : Nd) (v : Value) : Prop := ∃ cs, v = .agg cs.toArray ∧ Rep H [] n.dat cs
theorem NA.ext {H H' : Heap} {n : Nd} {v : Value} (h : NA H n v) (hf : Fr [] H H') : NA H' n v := by
  obtain ⟨cs, h1, h2⟩ := h
  exact ⟨cs, h1, h2.ext hf⟩
theorem NA.open {H : Heap} {k n a : Int} {t : Bs} {ks : List Nd} {v : Value} (h : NA H (.mk k t n a ks) v) : ∃ kv, v = .agg #[.int .i64 k, sv t, .int .i64 n, .int .i64 a, kv] ∧ Rep H [] (kidsD ks) [kv] := by
  obtain ⟨cs, rfl, h2⟩ := h
  obtain ⟨kv, rfl, h3⟩ := nd_rep.1 h2
  exact ⟨kv, rfl, h3⟩
/-- A child in its row. -/
theorem kid_at {H : Heap} {ks : List Nd} {v : Value} (h : Rep H [] (kidsD ks) [v]) (j : Nat) (hj : j < ks.length) :
    ∃ b o c k t n a kks kv, v = .slice (some ⟨b, o, none⟩) ks.length c ∧ ks[j] = .mk k t n a kks ∧ (cellB H b (o + j * 5 + 0) = some (.int .i64 k) ∧ cellB H b (o + j * 5 + 1) = some (sv t) ∧ cellB H b (o + j * 5 + 2) = some (.int .i64 n) ∧ cellB H b (o + j * 5 + 3) = some (.int .i64 a) ∧ cellB H b (o + j * 5 + 4) = some kv) ∧ Rep H [] (kidsD kks) [kv] := by
  obtain ⟨b, o, c, x, h1, _, h3, h4, h5⟩ := Rep.at h j (by simpa using hj) (by decide)
  rw [List.getElem_map] at h5
  rw [List.length_map] at h1
  cases e : ks[j] with
  | mk k t n a kks =>
    rw [e] at h5
    obtain ⟨kv, rfl, h6⟩ := nd_rep.1 h5
    exact ⟨b, o, c, k, t, n, a, kks, kv, h1, rfl, ⟨h4 0 (by decide), h4 1 (by decide), h4 2 (by decide), h4 3 (by decide), h4 4 (by decide)⟩, h6⟩
theorem NA.mk {H : Heap} {k n a : Int} {t : Bs} {ks : List Nd} {kv : Value} (h : Rep H [] (kidsD ks) [kv]) : NA H (.mk k t n a ks) (.agg #[.int .i64 k, sv t, .int .i64 n, .int .i64 a, kv]) := ⟨_, rfl, nd_rep.2 ⟨kv, rfl, h⟩⟩
theorem kids_len {H : Heap} {ks : List Nd} {v : Value} (h : Rep H [] (kidsD ks) [v]) : ∃ a c, v = .slice a ks.length c ∧ ks.length ≤ c ∧ ks.length ≤ maxLen := by
  obtain ⟨a, c, h1, h2, h3⟩ := Rep.slice h
  simp only [List.length_map] at h1 h2
  exact ⟨a, c, h1, h2, by omega⟩
theorem wrap_add (a b : Int) : IntKind.i64.wrap (IntKind.i64.wrap a + IntKind.i64.wrap b) = IntKind.i64.wrap (a + b) := by
  simp only [IntKind.wrap, IntKind.bits, IntKind.signed]
  simp
  omega
theorem wrap_at {i n : Nat} (h : i < n) (hn : n ≤ maxLen) : IntKind.i64.wrap ((i : Int) + 1) = ((i + 1 : Nat) : Int) := by
  unfold maxLen at hn
  rw [wrap_i64_id _ (by omega) (by omega)]; omega
theorem L0 (H : Heap) : Lv [] H [] (fun _ => True) H [] [] := Lv.start (by simp) (fun _ _ _ _ => trivial)

theorem sameL_drop : ∀ (l m : List Nd) (i : Nat), (∀ j (h : j < l.length) (h' : j < m.length), j < i → sameN l[j] m[j] = true) → sameL l m = sameL (l.drop i) (m.drop i)
  | l, m, 0, _ => rfl
  | [], m, i + 1, _ => by simp [sameL]
  | x :: l, [], i + 1, _ => by simp [sameL]
  | x :: l, y :: m, i + 1, h => by
    have h0 := h 0 (by simp) (by simp) (by omega)
    simp only [List.getElem_cons_zero] at h0
    simp only [sameL, h0, Bool.true_and, List.drop_succ_cons]
    exact sameL_drop l m i fun j h1 h2 h3 => by
      have := h (j + 1) (by simp; omega) (by simp; omega) (by omega)
      simpa using this

theorem eqL_drop : ∀ (l m : List Nd) (i : Nat), (∀ j (h : j < l.length) (h' : j < m.length), j < i → eqN l[j] m[j] = true) → eqL l m = eqL (l.drop i) (m.drop i)
  | l, m, 0, _ => rfl
  | [], m, i + 1, _ => by simp [eqL]
  | x :: l, [], i + 1, _ => by simp [eqL]
  | x :: l, y :: m, i + 1, h => by
    have h0 := h 0 (by simp) (by simp) (by omega)
    simp only [List.getElem_cons_zero] at h0
    simp only [eqL, h0, Bool.true_and, List.drop_succ_cons]
    exact eqL_drop l m i fun j h1 h2 h3 => by
      have := h (j + 1) (by simp; omega) (by simp; omega) (by omega)
      simpa using this

theorem same_ok : ∀ (N : Nat) (x y : Nd), sizeN x ≤ N → ∀ {H : Heap} {vx vy : Value}, NA H x vx → NA H y vy → HCalls Tryd.prog 12 #[vx, vy] H fun v H' => v = .bool (sameN x y) ∧ Fr [] H H' := by
  intro N
  induction N with
  | zero =>
    intro x y hx
    cases x; simp only [sizeN] at hx; omega
  | succ N ih =>
  intro x y hx H vx vy hax hay
  obtain ⟨k, t, n, a, ks⟩ := x
  obtain ⟨k', t', n', a', ks'⟩ := y
  obtain ⟨kv, rfl, hk⟩ := hax.open
  obtain ⟨kv', rfl, hk'⟩ := hay.open
  obtain ⟨aa, cc, rfl, hcc, hmx⟩ := kids_len hk
  obtain ⟨aa', cc', rfl, hcc', hmx'⟩ := kids_len hk'
  refine calls_of_vc (args := [_, _]) Tryd.func12 c12ok (Nat.le_of_ble_eq_true rfl) ?_
  have L := L0 H
  simp (implicitDefEqProofs := false) only [go_sem, c12]
  refine L.newP fun bx H1 L => ?_
  simp (implicitDefEqProofs := false) only [go_sem]
  refine L.newP fun bb H2 L => ?_
  have ca := L.cell 1 rfl
  have cb := L.cell 0 rfl
  by_cases ek : k = k'
  case neg =>
    have hs : sameN (.mk k t n a ks) (.mk k' t' n' a' ks') = false := by simp [sameN, ek]
    rw [hs]
    simp (implicitDefEqProofs := false) only [go_sem, ca, cb, ba_eq, ek, sv]
    exact L.fr
  by_cases et : t = t'
  case neg =>
    have hs : sameN (.mk k t n a ks) (.mk k' t' n' a' ks') = false := by simp [sameN, et]
    rw [hs]
    simp (implicitDefEqProofs := false) only [go_sem, ca, cb, ek, ba_eq, et, sv]
    exact L.fr
  by_cases en : n = n'
  case neg =>
    have hs : sameN (.mk k t n a ks) (.mk k' t' n' a' ks') = false := by simp [sameN, en]
    rw [hs]
    simp (implicitDefEqProofs := false) only [go_sem, ca, cb, ek, et, ba_eq, en, sv]
    exact L.fr
  by_cases el : ks.length = ks'.length
  case neg =>
    have hs : sameN (.mk k t n a ks) (.mk k' t' n' a' ks') = false := by simp [sameN, el]
    rw [hs]
    have el' : ¬ ((ks.length : Int) = (ks'.length : Int)) := by omega
    simp (implicitDefEqProofs := false) only [go_sem, ca, cb, ek, et, en, ba_eq, el', sv]
    exact L.fr
  have hs : sameN (.mk k t n a ks) (.mk k' t' n' a' ks') = sameL ks ks' := by simp [sameN, ek, et, en, el]
  rw [hs]
  have el' : (ks.length : Int) = (ks'.length : Int) := by omega
  simp (implicitDefEqProofs := false) only [go_sem, ca, cb, ek, et, en, ba_eq, el', sv]
  refine vc_loop (fun (i : Nat) H' => i ≤ ks.length ∧ Lv [] H [] (fun _ => True) H' [.blk bb 24 [.int .i64 k', sv t', .int .i64 n', .int .i64 a', .slice aa' ks'.length cc'], .blk bx 24 [.int .i64 k, sv t, .int .i64 n, .int .i64 a, .slice aa ks.length cc]] [] ∧ ∀ j (h : j < ks.length) (h' : j < ks'.length), j < i → sameN ks[j] ks'[j] = true)
    (fun i => [(2, .pointer (some ⟨bx, 0, none⟩)), (3, .pointer (some ⟨bb, 0, none⟩)), (36, .int .i64 ks'.length), (37, .int .i64 i)]) (fun i => ks.length - i) 0 ?_ ?_ ?_
  · refine ⟨Nat.zero_le _, ?_, fun j _ _ h => by omega⟩
    exact L
  · simp (implicitDefEqProofs := false) only [go_sem, el']
  · rintro i H3 ⟨hi, L, hall⟩
    have ca := L.cell 1 rfl
    have cb := L.cell 0 rfl
    rcases Nat.lt_or_ge i ks.length with hlt | hge
    · have h0 : (0 : Int) ≤ (i : Int) := by omega
      have h1 : (i : Int) < (ks.length : Int) := by omega
      have h2 : (i : Int) < (ks'.length : Int) := by omega
      have hw := wrap_at hlt hmx
      obtain ⟨b, o, c, k1, t1, n1, a1, kks, kv1, e1, e2, ⟨q0, q1, q2, q3, q4⟩, hr⟩ := kid_at (hk.ext L.fr) i hlt
      obtain ⟨b', o', c', k2, t2, n2, a2, kks', kv2, e1', e2', ⟨p0, p1, p2, p3, p4⟩, hr'⟩ := kid_at (hk'.ext L.fr) i (by omega)
      cases e1; cases e1'
      simp only [Nat.add_zero] at q0 p0
      have hsz := sizeL_get ks i hlt
      simp only [sizeN] at hx
      have hcall := ih ks[i] ks'[i] (by omega) (H := H3) (e2 ▸ NA.mk hr) (e2' ▸ NA.mk hr')
      unfold sv at *
      simp (implicitDefEqProofs := false) only [go_sem, h0, h1, h2, ca, cb, q0, q1, q2, q3, q4, p0, p1, p2, p3, p4]
      refine hcall.mono ?_
      rintro v H4 ⟨rfl, hf⟩
      have L := L.ext hf
      cases e : sameN ks[i] ks'[i] with
      | false =>
        have hno : sameL ks ks' = false := by
          rw [sameL_drop ks ks' i fun j h h' hj => hall j h h' hj, List.drop_eq_getElem_cons hlt, List.drop_eq_getElem_cons (by omega : i < ks'.length)]
          simp [sameL, e]
        rw [hno]
        simp (implicitDefEqProofs := false) only [go_sem]
        exact L.fr
      | true =>
        simp (implicitDefEqProofs := false) only [go_sem, hw]
        refine loopK_intro (i + 1) ?_ ?_ ⟨by omega, L, fun j h h' hj => ?_⟩
        · show ks.length - (i + 1) < ks.length - i
          omega
        · simp (implicitDefEqProofs := false) only [go_sem, hw]
        · rcases Nat.lt_or_ge j i with q | q
          · exact hall j h h' q
          · obtain rfl : j = i := by omega
            exact e
    · have hfin : sameL ks ks' = true := by
        rw [sameL_drop ks ks' i fun j h h' hj => hall j h h' hj, List.drop_eq_nil_of_le hge]
        simp [sameL]
      rw [hfin]
      have h1 : ¬ ((i : Int) < (ks.length : Int)) := by omega
      have h2 : ¬ ((i : Int) < (ks'.length : Int)) := by omega
      simp (implicitDefEqProofs := false) only [go_sem, h1, h2, ca, cb]
      exact L.fr

theorem rsame_ok : ∀ (N : Nat) (x y : Nd), sizeN x ≤ N → ∀ {H : Heap} {vx vy : Value}, NA H x vx → NA H y vy → HCalls Tryd.prog 13 #[vx, vy] H fun v H' => v = .bool (sameN x y) ∧ Fr [] H H' := by
  intro N
  induction N with
  | zero =>
    intro x y hx
    cases x; simp only [sizeN] at hx; omega
  | succ N ih =>
  intro x y hx H vx vy hax hay
  obtain ⟨k, t, n, a, ks⟩ := x
  obtain ⟨k', t', n', a', ks'⟩ := y
  obtain ⟨kv, rfl, hk⟩ := hax.open
  obtain ⟨kv', rfl, hk'⟩ := hay.open
  obtain ⟨aa, cc, rfl, hcc, hmx⟩ := kids_len hk
  obtain ⟨aa', cc', rfl, hcc', hmx'⟩ := kids_len hk'
  refine calls_of_vc (args := [_, _]) Tryd.func13 c13ok (Nat.le_of_ble_eq_true rfl) ?_
  have L := L0 H
  simp (implicitDefEqProofs := false) only [go_sem, c13]
  refine L.newP fun bx H1 L => ?_
  simp (implicitDefEqProofs := false) only [go_sem]
  refine L.newP fun bb H2 L => ?_
  have ca := L.cell 1 rfl
  have cb := L.cell 0 rfl
  by_cases ek : k = k'
  case neg =>
    have hs : sameN (.mk k t n a ks) (.mk k' t' n' a' ks') = false := by simp [sameN, ek]
    rw [hs]
    simp (implicitDefEqProofs := false) only [go_sem, ca, cb, ba_eq, ek, sv]
    exact L.fr
  by_cases et : t = t'
  case neg =>
    have hs : sameN (.mk k t n a ks) (.mk k' t' n' a' ks') = false := by simp [sameN, et]
    rw [hs]
    simp (implicitDefEqProofs := false) only [go_sem, ca, cb, ek, ba_eq, et, sv]
    exact L.fr
  by_cases en : n = n'
  case neg =>
    have hs : sameN (.mk k t n a ks) (.mk k' t' n' a' ks') = false := by simp [sameN, en]
    rw [hs]
    simp (implicitDefEqProofs := false) only [go_sem, ca, cb, ek, et, ba_eq, en, sv]
    exact L.fr
  by_cases el : ks.length = ks'.length
  case neg =>
    have hs : sameN (.mk k t n a ks) (.mk k' t' n' a' ks') = false := by simp [sameN, el]
    rw [hs]
    have el' : ¬ ((ks.length : Int) = (ks'.length : Int)) := by omega
    simp (implicitDefEqProofs := false) only [go_sem, ca, cb, ek, et, en, ba_eq, el', sv]
    exact L.fr
  have hs : sameN (.mk k t n a ks) (.mk k' t' n' a' ks') = sameL ks ks' := by simp [sameN, ek, et, en, el]
  rw [hs]
  have el' : (ks.length : Int) = (ks'.length : Int) := by omega
  simp (implicitDefEqProofs := false) only [go_sem, ca, cb, ek, et, en, ba_eq, el', sv]
  refine vc_loop (fun (i : Nat) H' => i ≤ ks.length ∧ Lv [] H [] (fun _ => True) H' [.blk bb 24 [.int .i64 k', sv t', .int .i64 n', .int .i64 a', .slice aa' ks'.length cc'], .blk bx 24 [.int .i64 k, sv t, .int .i64 n, .int .i64 a, .slice aa ks.length cc]] [] ∧ ∀ j (h : j < ks.length) (h' : j < ks'.length), j < i → sameN ks[j] ks'[j] = true)
    (fun i => [(2, .pointer (some ⟨bx, 0, none⟩)), (3, .pointer (some ⟨bb, 0, none⟩)), (5, .int .i64 i)]) (fun i => ks.length - i) 0 ?_ ?_ ?_
  · refine ⟨Nat.zero_le _, ?_, fun j _ _ h => by omega⟩
    exact L
  · simp (implicitDefEqProofs := false) only [go_sem, el']
  · rintro i H3 ⟨hi, L, hall⟩
    have ca := L.cell 1 rfl
    have cb := L.cell 0 rfl
    rcases Nat.lt_or_ge i ks.length with hlt | hge
    · have h0 : (0 : Int) ≤ (i : Int) := by omega
      have h1 : (i : Int) < (ks.length : Int) := by omega
      have h2 : (i : Int) < (ks'.length : Int) := by omega
      have hw := wrap_at hlt hmx
      obtain ⟨b, o, c, k1, t1, n1, a1, kks, kv1, e1, e2, ⟨q0, q1, q2, q3, q4⟩, hr⟩ := kid_at (hk.ext L.fr) i hlt
      obtain ⟨b', o', c', k2, t2, n2, a2, kks', kv2, e1', e2', ⟨p0, p1, p2, p3, p4⟩, hr'⟩ := kid_at (hk'.ext L.fr) i (by omega)
      cases e1; cases e1'
      simp only [Nat.add_zero] at q0 p0
      have hsz := sizeL_get ks i hlt
      simp only [sizeN] at hx
      have hcall := ih ks[i] ks'[i] (by omega) (H := H3) (e2 ▸ NA.mk hr) (e2' ▸ NA.mk hr')
      unfold sv at *
      simp (implicitDefEqProofs := false) only [go_sem, h0, h1, h2, ca, cb, q0, q1, q2, q3, q4, p0, p1, p2, p3, p4]
      refine hcall.mono ?_
      rintro v H4 ⟨rfl, hf⟩
      have L := L.ext hf
      cases e : sameN ks[i] ks'[i] with
      | false =>
        have hno : sameL ks ks' = false := by
          rw [sameL_drop ks ks' i fun j h h' hj => hall j h h' hj, List.drop_eq_getElem_cons hlt, List.drop_eq_getElem_cons (by omega : i < ks'.length)]
          simp [sameL, e]
        rw [hno]
        simp (implicitDefEqProofs := false) only [go_sem]
        exact L.fr
      | true =>
        simp (implicitDefEqProofs := false) only [go_sem, hw]
        refine loopK_intro (i + 1) ?_ ?_ ⟨by omega, L, fun j h h' hj => ?_⟩
        · show ks.length - (i + 1) < ks.length - i
          omega
        · simp (implicitDefEqProofs := false) only [go_sem, hw]
        · rcases Nat.lt_or_ge j i with q | q
          · exact hall j h h' q
          · obtain rfl : j = i := by omega
            exact e
    · have hfin : sameL ks ks' = true := by
        rw [sameL_drop ks ks' i fun j h h' hj => hall j h h' hj, List.drop_eq_nil_of_le hge]
        simp [sameL]
      rw [hfin]
      have h1 : ¬ ((i : Int) < (ks.length : Int)) := by omega
      have h2 : ¬ ((i : Int) < (ks'.length : Int)) := by omega
      simp (implicitDefEqProofs := false) only [go_sem, h1, h2, ca, cb]
      exact L.fr


theorem sizeL_take (l : List Nd) (i : Nat) (h : i < l.length) : sizeL (l.take (i + 1)) = sizeL (l.take i) + sizeN l[i] := by
  induction l generalizing i with
  | nil => simp at h
  | cons x xs ih =>
    cases i with
    | zero => simp [sizeL]
    | succ i =>
      have := ih i (by simpa using h)
      simp only [List.take_succ_cons, sizeL, List.getElem_cons_succ, this]; omega
theorem sizeL_all (l : List Nd) : sizeL (l.take l.length) = sizeL l := by rw [List.take_length]

theorem sizeL_le (l : List Nd) (i : Nat) : sizeL (l.take i) ≤ sizeL l := by
  induction l generalizing i with
  | nil => simp
  | cons x xs ih =>
    cases i with
    | zero => simp [sizeL]
    | succ i =>
      have := ih i
      simp only [List.take_succ_cons, sizeL]; omega

theorem size_ok : ∀ (N : Nat) (x : Nd), sizeN x ≤ N → ∀ {H : Heap} {vx : Value}, NA H x vx → HCalls Tryd.prog 14 #[vx] H fun v H' => v = .int .i64 (IntKind.i64.wrap (sizeN x)) ∧ Fr [] H H' := by
  intro N
  induction N with
  | zero =>
    intro x hx
    cases x; simp only [sizeN] at hx; omega
  | succ N ih =>
  intro x hx H vx hax
  obtain ⟨k, t, n, a, ks⟩ := x
  obtain ⟨kv, rfl, hk⟩ := hax.open
  obtain ⟨aa, cc, rfl, hcc, hmx⟩ := kids_len hk
  refine calls_of_vc (args := [_]) Tryd.func14 c14ok (Nat.le_of_ble_eq_true rfl) ?_
  have L := L0 H
  simp (implicitDefEqProofs := false) only [go_sem, c14]
  refine L.newP fun bx H1 L => ?_
  have ca := L.cell 0 rfl
  simp (implicitDefEqProofs := false) only [go_sem, ca]
  refine vc_loop (fun (i : Nat) H' => i ≤ ks.length ∧ Lv [] H [] (fun _ => True) H' [.blk bx 24 [.int .i64 k, sv t, .int .i64 n, .int .i64 a, .slice aa ks.length cc]] [])
    (fun i => [(3, .int .i64 (IntKind.i64.wrap ((1 + sizeL (ks.take i) : Nat) : Int))), (7, .slice aa ks.length cc), (8, .int .i64 ks.length), (9, .int .i64 i)]) (fun i => ks.length - i) 0 ?_ ?_ ?_
  · exact ⟨Nat.zero_le _, L⟩
  · simp (implicitDefEqProofs := false) only [go_sem, sizeL, List.take_zero]
    exact rfl
  · rintro i H3 ⟨hi, L⟩
    have ca := L.cell 0 rfl
    rcases Nat.lt_or_ge i ks.length with hlt | hge
    · have h0 : (0 : Int) ≤ (i : Int) := by omega
      have h1 : (i : Int) < (ks.length : Int) := by omega
      have hw := wrap_at hlt hmx
      obtain ⟨b, o, c, k1, t1, n1, a1, kks, kv1, e1, e2, ⟨q0, q1, q2, q3, q4⟩, hr⟩ := kid_at (hk.ext L.fr) i hlt
      cases e1
      simp only [Nat.add_zero] at q0
      have hsz := sizeL_get ks i hlt
      simp only [sizeN] at hx
      unfold sv at *
      simp (implicitDefEqProofs := false) only [go_sem, h0, h1, ca, q0, q1, q2, q3, q4]
      refine NewP_intro fun H5 hn5 hf5 _ => ?_
      have L5 := L.push hf5 hn5
      simp (implicitDefEqProofs := false) only [go_sem]
      refine Sto_all hn5 rfl (one_agg (nd_one (RepP.of_rep hr))) fun H6 hn6 hf6 _ => ?_
      have L := L5.sto 0 rfl hf6 hn6
      simp only [List.set_cons_zero, List.set_cons_succ, List.set_nil, List.eraseIdx_cons_zero, List.eraseIdx_cons_succ] at L
      have hr' := hr.ext (hf5.trans' hf6 (by simp) : Fr [] H3 H6)
      have ck := L.cell 0 rfl
      have hcall := ih ks[i] (by omega) (H := H6) (e2 ▸ (NA.mk hr').ext (Fr.refl [] _))
      unfold sv at *
      simp (implicitDefEqProofs := false) only [go_sem, ck]
      refine hcall.mono ?_
      rintro v H4 ⟨rfl, hf⟩
      have L := L.ext hf
      have hs := sizeL_take ks i hlt
      have hwa := wrap_add (1 + sizeL (ks.take i) : Nat) (sizeN ks[i])
      have hsum : ((1 + sizeL (ks.take i) : Nat) : Int) + (sizeN ks[i] : Int) = ((1 + sizeL (ks.take (i + 1)) : Nat) : Int) := by rw [hs]; omega
      rw [hsum] at hwa
      simp (implicitDefEqProofs := false) only [go_sem, hw, hwa]
      refine loopK_intro (i + 1) ?_ ?_ ⟨by omega, L.drop (List.sublist_cons_self _ _) (by simp)⟩
      · show ks.length - (i + 1) < ks.length - i
        omega
      · simp (implicitDefEqProofs := false) only [go_sem, hw, hwa]
    · have h1 : ¬ ((i : Int) < (ks.length : Int)) := by omega
      obtain rfl : i = ks.length := by omega
      simp (implicitDefEqProofs := false) only [go_sem, h1, ca]
      rw [sizeL_all]
      refine ⟨?_, L.fr⟩
      have e : 1 + sizeL ks = sizeL ks + 1 := by omega
      simp only [sizeN, e]

theorem rsize_ok : ∀ (N : Nat) (x : Nd), sizeN x ≤ N → ∀ {H : Heap} {vx : Value}, NA H x vx → HCalls Tryd.prog 15 #[vx] H fun v H' => v = .int .i64 (IntKind.i64.wrap (sizeN x)) ∧ Fr [] H H' := by
  intro N
  induction N with
  | zero =>
    intro x hx
    cases x; simp only [sizeN] at hx; omega
  | succ N ih =>
  intro x hx H vx hax
  obtain ⟨k, t, n, a, ks⟩ := x
  obtain ⟨kv, rfl, hk⟩ := hax.open
  obtain ⟨aa, cc, rfl, hcc, hmx⟩ := kids_len hk
  refine calls_of_vc (args := [_]) Tryd.func15 c15ok (Nat.le_of_ble_eq_true rfl) ?_
  have L := L0 H
  simp (implicitDefEqProofs := false) only [go_sem, c15]
  refine L.newP fun bx H1 L => ?_
  have ca := L.cell 0 rfl
  simp (implicitDefEqProofs := false) only [go_sem, ca]
  refine vc_loop (fun (i : Nat) H' => i ≤ ks.length ∧ Lv [] H [] (fun _ => True) H' [.blk bx 24 [.int .i64 k, sv t, .int .i64 n, .int .i64 a, .slice aa ks.length cc]] [])
    (fun i => [(1, .pointer (some ⟨bx, 0, none⟩)), (3, .int .i64 (IntKind.i64.wrap ((1 + sizeL (ks.take i) : Nat) : Int))), (4, .int .i64 i)]) (fun i => ks.length - i) 0 ?_ ?_ ?_
  · exact ⟨Nat.zero_le _, L⟩
  · simp (implicitDefEqProofs := false) only [go_sem, sizeL, List.take_zero]
    exact rfl
  · rintro i H3 ⟨hi, L⟩
    have ca := L.cell 0 rfl
    rcases Nat.lt_or_ge i ks.length with hlt | hge
    · have h0 : (0 : Int) ≤ (i : Int) := by omega
      have h1 : (i : Int) < (ks.length : Int) := by omega
      have hw := wrap_at hlt hmx
      obtain ⟨b, o, c, k1, t1, n1, a1, kks, kv1, e1, e2, ⟨q0, q1, q2, q3, q4⟩, hr⟩ := kid_at (hk.ext L.fr) i hlt
      cases e1
      simp only [Nat.add_zero] at q0
      have hsz := sizeL_get ks i hlt
      simp only [sizeN] at hx
      have hcall := ih ks[i] (by omega) (H := H3) (e2 ▸ NA.mk hr)
      unfold sv at *
      simp (implicitDefEqProofs := false) only [go_sem, h0, h1, ca, q0, q1, q2, q3, q4]
      refine hcall.mono ?_
      rintro v H4 ⟨rfl, hf⟩
      have L := L.ext hf
      have hs := sizeL_take ks i hlt
      have hwa := wrap_add (1 + sizeL (ks.take i) : Nat) (sizeN ks[i])
      have hsum : ((1 + sizeL (ks.take i) : Nat) : Int) + (sizeN ks[i] : Int) = ((1 + sizeL (ks.take (i + 1)) : Nat) : Int) := by rw [hs]; omega
      rw [hsum] at hwa
      simp (implicitDefEqProofs := false) only [go_sem, hw, hwa]
      refine loopK_intro (i + 1) ?_ ?_ ⟨by omega, L⟩
      · show ks.length - (i + 1) < ks.length - i
        omega
      · simp (implicitDefEqProofs := false) only [go_sem, hw, hwa]
    · have h1 : ¬ ((i : Int) < (ks.length : Int)) := by omega
      obtain rfl : i = ks.length := by omega
      simp (implicitDefEqProofs := false) only [go_sem, h1, ca]
      rw [sizeL_all]
      refine ⟨?_, L.fr⟩
      have e : 1 + sizeL ks = sizeL ks + 1 := by omega
      simp only [sizeN, e]

theorem room_ok : ∀ (N : Nat) (x : Nd), sizeN x ≤ N → ∀ {H : Heap} {vx : Value} {m : Nat}, m < 2^62 → NA H x vx → HCalls Tryd.prog 23 #[vx, .int .i64 m] H fun v H' => v = .int .i64 (if sizeN x ≤ m then (m : Int) - sizeN x else -1) ∧ Fr [] H H' := by
  intro N
  induction N with
  | zero =>
    intro x hx
    cases x; simp only [sizeN] at hx; omega
  | succ N ih =>
  intro x hx H vx m hm hax
  obtain ⟨k, t, n, a, ks⟩ := x
  obtain ⟨kv, rfl, hk⟩ := hax.open
  obtain ⟨aa, cc, rfl, hcc, hmx⟩ := kids_len hk
  refine calls_of_vc (args := [_, _]) Tryd.func23 c23ok (Nat.le_of_ble_eq_true rfl) ?_
  have L := L0 H
  have hw0 : IntKind.i64.wrap ((m : Int) - 1) = (m : Int) - 1 := wrap_i64_id _ (by omega) (by omega)
  simp (implicitDefEqProofs := false) only [go_sem, c23, hw0]
  refine L.newP fun bx H1 L => ?_
  simp (implicitDefEqProofs := false) only [go_sem, hw0]
  refine vc_loop (fun (i : Nat) H' => i ≤ ks.length ∧ Lv [] H [] (fun _ => True) H' [.blk bx 24 [.int .i64 k, sv t, .int .i64 n, .int .i64 a, .slice aa ks.length cc]] [])
    (fun i => [(1, .int .i64 (if 1 + sizeL (ks.take i) ≤ m then (m : Int) - (1 + sizeL (ks.take i) : Nat) else -1)), (2, .pointer (some ⟨bx, 0, none⟩)), (5, .int .i64 i)]) (fun i => ks.length - i) 0 ?_ ?_ ?_
  · exact ⟨Nat.zero_le _, L⟩
  · simp (implicitDefEqProofs := false) only [go_sem, sizeL, List.take_zero]
    split
    · simp
    · rename_i h
      have : m = 0 := by omega
      subst this; rfl
  · rintro i H3 ⟨hi, L⟩
    have ca := L.cell 0 rfl
    obtain ⟨cur, hcur⟩ : ∃ cur, cur = if 1 + sizeL (ks.take i) ≤ m then (m : Int) - (1 + sizeL (ks.take i) : Nat) else -1 := ⟨_, rfl⟩
    rw [← hcur]
    rcases Nat.lt_or_ge i ks.length with hlt | hge
    · have h0 : (0 : Int) ≤ (i : Int) := by omega
      have h1 : (i : Int) < (ks.length : Int) := by omega
      have hs := sizeL_take ks i hlt
      by_cases hc : 1 + sizeL (ks.take i) ≤ m
      · rw [if_pos hc] at hcur
        have hc0 : (0 : Int) ≤ cur := by omega
        obtain ⟨cn, hcn⟩ : ∃ cn : Nat, cur = cn := ⟨cur.toNat, by omega⟩
        have hw := wrap_at hlt hmx
        obtain ⟨b, o, c, k1, t1, n1, a1, kks, kv1, e1, e2, ⟨q0, q1, q2, q3, q4⟩, hr⟩ := kid_at (hk.ext L.fr) i hlt
        cases e1
        simp only [Nat.add_zero] at q0
        have hsz := sizeL_get ks i hlt
        simp only [sizeN] at hx
        have hcall := ih ks[i] (by omega) (H := H3) (m := cn) (by omega) (e2 ▸ NA.mk hr)
        rw [← hcn] at hcall
        unfold sv at *
        simp (implicitDefEqProofs := false) only [go_sem, h0, h1, hc0, ca, q0, q1, q2, q3, q4]
        refine hcall.mono ?_
        rintro v H4 ⟨rfl, hf⟩
        have L := L.ext hf
        have hval : (if sizeN ks[i] ≤ cn then cur - sizeN ks[i] else -1) = if 1 + sizeL (ks.take (i + 1)) ≤ m then (m : Int) - (1 + sizeL (ks.take (i + 1)) : Nat) else -1 := by
          rw [hs]
          by_cases h : sizeN ks[i] ≤ cn
          · rw [if_pos h, if_pos (by omega)]; omega
          · rw [if_neg h, if_neg (by omega)]
        rw [hval]
        simp (implicitDefEqProofs := false) only [go_sem, hw]
        refine loopK_intro (i + 1) ?_ ?_ ⟨by omega, L⟩
        · show ks.length - (i + 1) < ks.length - i
          omega
        · simp (implicitDefEqProofs := false) only [go_sem, hw]
      · rw [if_neg hc] at hcur
        have hfin : ¬ (sizeN (.mk k t n a ks) ≤ m) := by
          have h2 := sizeL_le ks i
          simp only [sizeN]; omega
        rw [if_neg hfin]
        subst hcur
        simp (implicitDefEqProofs := false) only [go_sem, h1, ca]
        exact L.fr
    · have h1 : ¬ ((i : Int) < (ks.length : Int)) := by omega
      obtain rfl : i = ks.length := by omega
      simp (implicitDefEqProofs := false) only [go_sem, h1, ca]
      have e : cur = if sizeN (.mk k t n a ks) ≤ m then (m : Int) - sizeN (.mk k t n a ks) else -1 := by
        rw [hcur, sizeL_all]
        by_cases h : 1 + sizeL ks ≤ m
        · rw [if_pos h, if_pos (by simp only [sizeN]; omega)]; simp only [sizeN]; omega
        · rw [if_neg h, if_neg (by simp only [sizeN]; omega)]
      rw [e]
      exact ⟨rfl, L.fr⟩
theorem small_ok (x : Nd) {H : Heap} {vx : Value} {m : Nat} (hm : m < 2^62) (hax : NA H x vx) : HCalls Tryd.prog 11 #[vx, .int .i64 m] H fun v H' => v = .bool (decide (sizeN x ≤ m)) ∧ Fr [] H H' := by
  obtain ⟨k, t, n, a, ks⟩ := x
  obtain ⟨kv, rfl, hk⟩ := hax.open
  obtain ⟨aa, cc, rfl, hcc, hmx⟩ := kids_len hk
  refine calls_of_vc (args := [_, _]) Tryd.func11 c11ok (Nat.le_of_ble_eq_true rfl) ?_
  have L := L0 H
  simp (implicitDefEqProofs := false) only [go_sem, c11]
  refine L.newP fun bx H1 L => ?_
  have ca := L.cell 0 rfl
  have hcall := room_ok _ (.mk k t n a ks) (Nat.le_refl _) (H := H1) hm ((NA.mk hk).ext L.fr)
  simp (implicitDefEqProofs := false) only [go_sem, ca]
  refine hcall.mono ?_
  rintro v H2 ⟨rfl, hf⟩
  have hF := L.fr.trans hf
  by_cases h : sizeN (.mk k t n a ks) ≤ m
  · rw [if_pos h]
    have h2 : (0 : Int) ≤ (m : Int) - sizeN (.mk k t n a ks) := by omega
    simp (implicitDefEqProofs := false) only [go_sem, h, h2]
    exact hF
  · rw [if_neg h]
    simp (implicitDefEqProofs := false) only [go_sem, h]
    exact hF
end Go.Proofs.YtbgjgaaobnbijaaDoor
end
section
/- What a reader leaves and where its faults stand: within what it was given, never behind the end. -/
set_option linter.unusedSimpArgs false
set_option linter.unusedVariables false
set_option maxRecDepth 8000
namespace Go.Proofs.YtbgjgaaobnbijaaDoor
open Gx Go

def Nk (l : List Tk) : Prop := ∀ t ∈ l, t.kind ≠ 6
theorem Nk.more {ts : List Tk} {i j : Nat} (h : Nk (ts.take i)) (h' : Nk ((ts.drop i).take j)) : Nk (ts.take (i + j)) := by
  intro t ht
  rw [List.take_add] at ht
  rcases List.mem_append.1 ht with q | q
  · exact h t q
  · exact h' t q
theorem Nk.zero (ts : List Tk) : Nk (ts.take 0) := by intro t ht; simp at ht
theorem Nk.one {ts : List Tk} (h : (hd ts).kind ≠ 6) : Nk (ts.take 1) := by
  cases ts with
  | nil => intro t ht; simp at ht
  | cons t r => intro t' ht; simp at ht; subst ht; exact h
/-- A result within ts: the reading goes no further than the end. -/
def Wt {α : Type} (ts : List Tk) : Except Flt (α × List Tk) → Prop
  | .error e => ∃ i, Nk (ts.take i) ∧ e.2 = (hd (ts.drop i)).at_ ∧ (e.1 = 2 ∨ (e.1 = 6 ∧ (hd (ts.drop i)).kind ≠ 6))
  | .ok x => ∃ i, Nk (ts.take i) ∧ x.2 = ts.drop i
def Wg {α : Type} (p : PP α) : Prop := ∀ ts, Wt ts (p ts)
theorem Wt.drop {α : Type} {ts : List Tk} {i : Nat} {A : Except Flt (α × List Tk)} (h : Nk (ts.take i)) (hA : Wt (ts.drop i) A) : Wt ts A := by
  cases A with
  | error e =>
    obtain ⟨j, h1, h2, h3⟩ := hA
    rw [List.drop_drop] at h2 h3
    exact ⟨i + j, h.more h1, h2, h3⟩
  | ok x =>
    obtain ⟨j, h1, h2⟩ := hA
    rw [List.drop_drop] at h2
    exact ⟨i + j, h.more h1, h2⟩
theorem drop_one (ts : List Tk) : ts.drop 1 = ts.tail := List.drop_one
theorem Wt.tl {α : Type} {ts : List Tk} {A : Except Flt (α × List Tk)} (h : (hd ts).kind ≠ 6) (hA : Wt ts.tail A) : Wt ts A :=
  Wt.drop (i := 1) (Nk.one h) (by rw [drop_one]; exact hA)
theorem Wt.bad {α : Type} {ts : List Tk} : Wt (α := α) ts (.error (2, (hd ts).at_)) := ⟨0, Nk.zero ts, rfl, .inl rfl⟩
theorem Wt.lim {α : Type} {ts : List Tk} (h : (hd ts).kind ≠ 6) : Wt (α := α) ts (.error (6, (hd ts).at_)) := ⟨0, Nk.zero ts, rfl, .inr ⟨rfl, h⟩⟩
theorem Wt.val {α : Type} {ts : List Tk} {a : α} : Wt ts (.ok (a, ts)) := ⟨0, Nk.zero ts, rfl⟩
theorem Wt.one {α : Type} {ts : List Tk} {a : α} (h : (hd ts).kind ≠ 6) : Wt ts (.ok (a, ts.tail)) := ⟨1, Nk.one h, (drop_one ts).symm⟩
theorem Wt.ite {α : Type} {c : Prop} [Decidable c] {ts : List Tk} {x y : Except Flt (α × List Tk)} (h1 : c → Wt ts x) (h2 : ¬ c → Wt ts y) : Wt ts (if c then x else y) := by
  by_cases h : c
  · rw [if_pos h]; exact h1 h
  · rw [if_neg h]; exact h2 h
theorem Wg.ret {α : Type} (a : α) : Wg (ret a) := fun ts => Wt.val
theorem Wt.bnd {α β : Type} {p : PP α} {f : α → PP β} {ts : List Tk} (h : Wt ts (p ts)) (hf : ∀ a r, Wt r (f a r)) : Wt ts (bd p f ts) := by
  cases e : p ts with
  | error e' => rw [bd_err e]; rw [e] at h; exact h
  | ok x =>
    obtain ⟨a, r⟩ := x
    rw [bd_ok e]
    rw [e] at h
    obtain ⟨i, h1, h2⟩ := h
    simp only at h2
    subst h2
    exact Wt.drop h1 (hf a _)
theorem Wg.bnd {α β : Type} {p : PP α} {f : α → PP β} (h : Wg p) (hf : ∀ a, Wg (f a)) : Wg (bd p f) := fun ts => (h ts).bnd fun a r => hf a r
theorem Wg.bnd' {α β : Type} {p : PP α} {f : α → PP β} (h : Wg p) (hf : ∀ a r, Wt r (f a r)) : Wg (bd p f) := fun ts => (h ts).bnd hf
/-- A reader that reads a token reads none that is the end. -/
theorem Wg.kind {α : Type} {p : PP α} (h : Wg p) (hl : Lt p) {ts r : List Tk} {a : α} (e : p ts = .ok (a, r)) : (hd ts).kind ≠ 6 := by
  have h1 := h ts
  have h2 := hl _ _ _ e
  rw [e] at h1
  obtain ⟨i, h3, h4⟩ := h1
  simp only at h4
  subst h4
  cases ts with
  | nil => simp at h2
  | cons t ts =>
    cases i with
    | zero => simp at h2
    | succ i => exact h3 t (by simp)

theorem takeP_wg {k : Int} (hk : k ≠ 6) : Wg (takeP k) := fun ts => by
  unfold takeP
  exact Wt.ite (fun h => Wt.one (by rw [h]; exact hk)) fun _ => Wt.bad
theorem expP_wg (s : Bs) : Wg (expP s) := fun ts => by
  unfold expP
  exact Wt.ite (fun h => Wt.one (isB_kind h)) fun _ => Wt.bad
theorem entP_wg {α β : Type} {lo : Option β} {s : Bs} {body : β → PP α} (h : ∀ x, lo = some x → Wg (body x)) : Wg (entP lo s body) := fun ts => by
  unfold entP
  refine Wt.ite (fun e => ?_) fun _ => Wt.bad
  cases lo with
  | none => exact Wt.lim (isB_kind e)
  | some x => exact Wt.tl (isB_kind e) (h x rfl _)
theorem intP_wg : Wg intP := fun ts => by
  unfold intP
  exact Wt.ite (fun e => Wt.tl (isB_kind e) (((takeP_wg (by decide)).bnd fun _ => Wg.ret _) _)) fun _ => ((takeP_wg (by decide)).bnd fun _ => Wg.ret _) _
theorem namedP_wg (k : Int) : Wg (namedP k) := (takeP_wg (by decide)).bnd fun _ => Wg.ret _
theorem quoteP_wg : Wg quoteP := (takeP_wg (by decide)).bnd fun _ => Wg.ret _
theorem chainF_wg {op : PP Nd} {kd : Kd} (h : Wg op) : ∀ f n, Wg (chainF op kd f n)
  | 0, n => Wg.ret n
  | f + 1, n => fun ts => by
    simp only [chainF]
    exact Wt.ite (fun e => Wt.tl (isB_kind (opAt_isB e)) ((h.bnd fun m => chainF_wg h f _) _)) fun _ => Wt.val
theorem chainP_wg {op : PP Nd} {kd : Kd} (h : Wg op) : Wg (chainP op kd) := h.bnd' fun n r => chainF_wg h _ n r
def LoWg (lo : Lo) : Prop := ∀ x, lo = some x → Wg x.1 ∧ Wg x.2
theorem postF_wg {lo : Lo} (hl : LoWg lo) : ∀ f n, Wg (postF lo f n)
  | 0, n => Wg.ret n
  | f + 1, n => fun ts => by
    simp only [postF]
    exact Wt.ite (fun e => Wt.tl (isB_kind e) (((takeP_wg (by decide)).bnd fun t => postF_wg hl f _) _)) fun _ =>
      Wt.ite (fun e => entP_wg (fun x hx => (hl x hx).1.bnd fun m => (expP_wg _).bnd fun _ => postF_wg hl f _) _) fun _ => Wt.val
theorem commaP_wg : Wg commaP := fun ts => by
  unfold commaP
  exact Wt.ite (fun e => Wt.one (isB_kind e)) fun _ => ((expP_wg _).bnd fun _ => Wg.ret _) _
theorem argP_wg {e : PP Nd} (he : Wg e) (fn : Bs) : Wg (argP e fn) := fun ts => by
  unfold argP
  exact Wt.ite (fun _ => ((takeP_wg (by decide)).bnd fun t => (expP_wg _).bnd fun _ => he.bnd fun _ => Wg.ret _) _) fun _ =>
    Wt.ite (fun _ => (he.bnd fun t => (expP_wg _).bnd fun _ => he.bnd fun _ => Wg.ret _) _) fun _ => he _
theorem listF_wg {arg : PP Nd} (h : Wg arg) : ∀ f l, Wg (listF arg f l)
  | 0, l => Wg.ret l
  | f + 1, l => h.bnd fun a => commaP_wg.bnd fun m => by
    cases m
    · exact Wg.ret _
    · exact listF_wg h f _
theorem listP_wg {arg : PP Nd} (h : Wg arg) : Wg (listP arg) := fun ts => by
  unfold listP
  exact Wt.ite (fun e => Wt.one (isB_kind e)) fun _ => listF_wg h _ _ _
section
variable {lo : Lo} (hl : LoWg lo)
include hl
theorem primP_wg : Wg (primP lo) := fun ts => by
  unfold primP
  refine Wt.ite (fun _ => intP_wg _) fun _ => ?_
  refine Wt.ite (fun _ => quoteP_wg _) fun _ => ?_
  refine Wt.ite (fun _ => namedP_wg _ _) fun _ => ?_
  refine Wt.ite (fun e => Wt.one (isB_kind e)) fun _ => ?_
  refine Wt.ite (fun e => Wt.one (isB_kind e)) fun _ => ?_
  refine Wt.ite (fun e => Wt.one (isB_kind e)) fun _ => ?_
  refine Wt.ite (fun e => Wt.one (isB_kind e)) fun _ => ?_
  refine Wt.ite (fun _ => entP_wg (fun x hx => (hl x hx).1.bnd fun _ => (expP_wg _).bnd fun _ => Wg.ret _) _) fun _ => ?_
  exact Wt.ite (fun e => Wt.tl (by rw [e.1]; decide) (entP_wg (fun x hx => (listP_wg (argP_wg (hl x hx).1 _)).bnd fun _ => Wg.ret _) _)) fun _ => Wt.bad
theorem postP_wg : Wg (postP lo) := (primP_wg hl).bnd' fun n r => postF_wg hl _ n r
theorem sumP_wg : Wg (sumP lo) := chainP_wg (postP_wg hl)
theorem joinP_wg : Wg (joinP lo) := chainP_wg (sumP_wg hl)
theorem cmpP_wg : Wg (cmpP lo) := (joinP_wg hl).bnd' fun n r =>
  Wt.ite (fun e => Wt.tl (isB_kind (opAt_isB e)) (((joinP_wg hl).bnd fun _ => Wg.ret _) _)) fun _ => Wt.val
theorem notP_wg : Wg (notP lo) := fun ts => by
  unfold notP
  exact Wt.ite (fun _ => entP_wg (fun x hx => (hl x hx).2.bnd fun _ => Wg.ret _) _) fun _ => cmpP_wg hl _
theorem andP_wg : Wg (andP lo) := chainP_wg (notP_wg hl)
theorem orP_wg : Wg (orP lo) := chainP_wg (andP_wg hl)
theorem exprP_wg : Wg (exprP lo) := fun ts => by
  unfold exprP
  exact Wt.ite (fun _ => entP_wg (fun x hx => (hl x hx).1.bnd fun _ => (expP_wg _).bnd fun _ => (hl x hx).1.bnd fun _ => (expP_wg _).bnd fun _ => (hl x hx).1.bnd fun _ => Wg.ret _) _) fun _ => orP_wg hl _
end
theorem lev_wg : ∀ k, Wg (lev k).1 ∧ Wg (lev k).2
  | 0 => by
    have h : LoWg none := fun x hx => by cases hx
    exact ⟨exprP_wg h, notP_wg h⟩
  | k + 1 => by
    have h : LoWg (some (lev k)) := fun x hx => by
      cases hx; exact lev_wg k
    exact ⟨exprP_wg h, notP_wg h⟩
theorem loK_wg (k : Nat) : LoWg (loK k) := by
  intro x hx
  cases k with
  | zero => cases hx
  | succ k => cases hx; exact lev_wg k

/-! ### lattices, declarations -/
theorem quotesF_wg : ∀ f l, Wg (quotesF f l)
  | 0, l => Wg.ret l
  | f + 1, l => fun ts => by
    simp only [quotesF]
    exact Wt.ite (fun e => Wt.tl (isB_kind e) ((quoteP_wg.bnd fun m => quotesF_wg f _) _)) fun _ => Wt.val
theorem quotesP_wg : Wg quotesP := quoteP_wg.bnd' fun n r => quotesF_wg _ _ r
theorem allowedP_wg : Wg allowedP := fun ts => by
  unfold allowedP
  exact Wt.ite (fun e => Wt.tl (isB_kind e) ((quotesP_wg.bnd fun _ => (expP_wg _).bnd fun _ => Wg.ret _) _)) fun _ => Wt.val
theorem twoP_wg {p : PP Nd} (h : Wg p) : Wg (twoP p) := (expP_wg _).bnd fun _ => h.bnd fun _ => (expP_wg _).bnd fun _ => h.bnd fun _ => (expP_wg _).bnd fun _ => Wg.ret _
theorem optQ_wg : Wg optQ := fun ts => by
  unfold optQ
  exact Wt.ite (fun _ => quotesP_wg _) fun _ => Wt.val
theorem ruleP_wg : Wg ruleP := fun ts => by
  unfold ruleP
  exact (optQ_wg.bnd fun _ => (expP_wg _).bnd fun _ => quoteP_wg.bnd fun _ => Wg.ret _) _
theorem rulesF_wg : ∀ f l, Wg (rulesF f l)
  | 0, l => Wg.ret l
  | f + 1, l => fun ts => by
    simp only [rulesF]
    exact Wt.ite (fun e => Wt.tl (isB_kind e) ((ruleP_wg.bnd fun m => rulesF_wg f _) _)) fun _ => Wt.val
theorem closedP_wg : Wg closedP := (expP_wg _).bnd fun _ => optQ_wg.bnd' fun l r => ((rulesF_wg _ l).bnd fun _ => (expP_wg _).bnd fun _ => Wg.ret _) r
theorem memP_wg {x : PP Nd} (h : Wg x) : Wg (memP x) := (takeP_wg (by decide)).bnd fun _ => (expP_wg _).bnd fun _ => h.bnd fun _ => Wg.ret _
theorem memF_wg {x : PP Nd} (h : Wg x) : ∀ f l, Wg (memF x f l)
  | 0, l => Wg.ret l
  | f + 1, l => (memP_wg h).bnd' fun m r => Wt.ite (fun e => Wt.tl (isB_kind e) (memF_wg h f _ _)) fun _ => Wt.val
theorem memsP_wg {x : PP Nd} (h : Wg x) : Wg (memsP x) := fun ts => by
  unfold memsP
  exact ((memF_wg h _ _).bnd fun _ => (expP_wg _).bnd fun _ => Wg.ret _) _
theorem latP_wg {lo : LLo} (hl : ∀ x, lo = some x → Wg x) : Wg (latP lo) := fun ts => by
  unfold latP
  refine Wt.ite (fun _ => namedP_wg _ _) fun _ => ?_
  refine Wt.ite (fun e => Wt.one (isB_kind e)) fun _ => ?_
  refine Wt.ite (fun e => Wt.one (isB_kind e)) fun _ => ?_
  refine Wt.ite (fun e => Wt.tl (isB_kind e) ((allowedP_wg.bnd fun _ => Wg.ret _) _)) fun _ => ?_
  refine Wt.ite (fun e => Wt.tl (isB_kind e) ((allowedP_wg.bnd fun _ => Wg.ret _) _)) fun _ => ?_
  refine Wt.ite (fun _ => entP_wg (fun x hx => allowedP_wg.bnd fun _ => (hl x hx).bnd fun _ => Wg.ret _) _) fun _ => ?_
  refine Wt.ite (fun e => Wt.tl (isB_kind e) (((twoP_wg intP_wg).bnd fun _ => Wg.ret _) _)) fun _ => ?_
  refine Wt.ite (fun e => Wt.tl (isB_kind e) (((twoP_wg intP_wg).bnd fun _ => Wg.ret _) _)) fun _ => ?_
  refine Wt.ite (fun _ => entP_wg (fun x hx => (twoP_wg (hl x hx)).bnd fun _ => Wg.ret _) _) fun _ => ?_
  refine Wt.ite (fun _ => entP_wg (fun x hx => (memsP_wg (hl x hx)).bnd fun _ => Wg.ret _) _) fun _ => ?_
  exact Wt.ite (fun e => Wt.tl (isB_kind e) ((closedP_wg.bnd fun _ => Wg.ret _) _)) fun _ => Wt.bad
theorem levL_wg : ∀ k, Wg (levL k)
  | 0 => latP_wg fun x hx => by cases hx
  | k + 1 => latP_wg fun x hx => by cases hx; exact levL_wg k
theorem sortP_wg : Wg sortP := fun ts => by
  unfold sortP
  refine Wt.ite (fun e => Wt.one (isB_kind e)) fun _ => ?_
  refine Wt.ite (fun e => Wt.one (isB_kind e)) fun _ => ?_
  refine Wt.ite (fun e => Wt.one (isB_kind e)) fun _ => ?_
  exact Wt.ite (fun e => Wt.one (isB_kind e)) fun _ => Wt.bad
theorem paramP_wg : Wg paramP := (takeP_wg (by decide)).bnd fun _ => (expP_wg _).bnd fun _ => sortP_wg.bnd fun _ => Wg.ret _
theorem lev64_wg : Wg (exprP (loK 64)) := exprP_wg (loK_wg 64)
theorem colonP_wg (kind : Int) : Wg (if kind = 5 then bd (expP [58]) fun _ => sortP else ret 0) := by
  split
  · exact (expP_wg _).bnd fun _ => sortP_wg
  · exact Wg.ret _
theorem funcP_wg (a k : Int) : Wg (funcP a k) := (takeP_wg (by decide)).bnd fun _ => (expP_wg _).bnd fun _ => (listP_wg paramP_wg).bnd fun _ => (expP_wg _).bnd fun _ => (namedP_wg _).bnd fun _ => (colonP_wg k).bnd fun _ =>
  (expP_wg _).bnd fun _ => lev64_wg.bnd fun _ => (expP_wg _).bnd fun _ => Wg.ret _
theorem latD_wg (a k : Int) (s : Bs) : Wg (latD a k s) := (takeP_wg (by decide)).bnd fun _ => (expP_wg _).bnd fun _ => (levL_wg 64).bnd fun _ => (expP_wg _).bnd fun _ => Wg.ret _
theorem declP_wg : Wg declP := fun ts => by
  unfold declP
  refine Wt.ite (fun e => Wt.tl (isB_kind e) (latD_wg _ _ _ _)) fun _ => ?_
  refine Wt.ite (fun e => Wt.tl (isB_kind e) (latD_wg _ _ _ _)) fun _ => ?_
  refine Wt.ite (fun e => Wt.tl (isB_kind e) (funcP_wg _ _ _)) fun _ => ?_
  exact Wt.ite (fun e => Wt.tl (isB_kind e) (funcP_wg _ _ _)) fun _ => Wt.bad
theorem progF_wg : ∀ f l, Wg (progF f l)
  | 0, l => Wg.ret l
  | f + 1, l => fun ts => by
    simp only [progF]
    exact Wt.ite (fun _ => Wt.val) fun _ => (declP_wg.bnd fun d => progF_wg f _) _
theorem progP_wg : Wg progP := fun ts => by
  unfold progP
  exact ((progF_wg _ _).bnd fun _ => Wg.ret _) _
end Go.Proofs.YtbgjgaaobnbijaaDoor
end
section
/- Two readings beside each other: of tokens that agree but for offsets up to a place, or that end otherwise, or within fewer levels. -/
set_option linter.unusedSimpArgs false
set_option linter.unusedVariables false
set_option maxRecDepth 8000
namespace Go.Proofs.YtbgjgaaobnbijaaDoor
open Gx Go

def tkE (a b : Tk) : Prop := a.kind = b.kind ∧ a.text = b.text ∧ a.n = b.n
theorem tkE.refl (a : Tk) : tkE a a := ⟨rfl, rfl, rfl⟩
/-- What may stand behind an expression or a declaration, besides the end. -/
def clL : List Bs := [[41], [108, 97, 116, 116, 105, 99, 101], [111, 98, 106, 101, 99, 116], [117, 112, 100, 97, 116, 101], [113, 117, 101, 114, 121]]
def isCl (t : Tk) : Prop := t.kind = 6 ∨ ((t.kind = 2 ∨ t.kind = 5) ∧ t.text ∈ clL)
def NdE (n n' : Nd) : Prop := sameN n n' = true
def LsE (l l' : List Nd) : Prop := l.length = l'.length ∧ sameL l l' = true
theorem ndE {k k' n n' a a' : Int} {t t' : Bs} {ks ks' : List Nd} (h1 : k = k') (h2 : t = t') (h3 : n = n') (h4 : LsE ks ks') : NdE (.mk k t n a ks) (.mk k' t' n' a' ks') := by
  unfold NdE
  simp only [sameN, h1, h2, h3, h4.1, h4.2, decide_true, Bool.and_self]
theorem LsE.nil : LsE [] [] := ⟨rfl, by simp [sameL]⟩
theorem LsE.cons {n n' : Nd} {l l' : List Nd} (h : NdE n n') (h' : LsE l l') : LsE (n :: l) (n' :: l') := by
  refine ⟨by simp [h'.1], ?_⟩
  unfold NdE at h
  simp only [sameL, h, h'.2, Bool.and_self]
theorem LsE.one {n n' : Nd} (h : NdE n n') : LsE [n] [n'] := LsE.cons h LsE.nil
theorem LsE.two {n n' m m' : Nd} (h : NdE n n') (h' : NdE m m') : LsE [n, m] [n', m'] := LsE.cons h (LsE.one h')
theorem LsE.app : ∀ {l l' m m' : List Nd}, LsE l l' → LsE m m' → LsE (l ++ m) (l' ++ m')
  | [], [], m, m', _, h => h
  | x :: l, y :: l', m, m', h, h' => by
    have h1 := h.1
    have h2 := h.2
    simp only [sameL, Bool.and_eq_true] at h2
    exact LsE.cons h2.1 (LsE.app (l := l) (l' := l') ⟨by simpa using h1, h2.2⟩ h')
  | [], _ :: _, _, _, h, _ => by have := h.1; simp at this
  | _ :: _, [], _, _, h, _ => by have := h.1; simp at this

structure Md where
  W : List Tk
  W' : List Tk
  S : Nat → Prop
  lim : Prop
  kx : Prop
  wild : Prop
structure Md.Ok (M : Md) : Prop where
  sync : ∀ i, M.S i → tkE (hd (M.W.drop i)) (hd (M.W'.drop i)) ∨ (M.kx ∧ (hd (M.W.drop i)).kind = 6 ∧ isCl (hd (M.W'.drop i)))
  next : ∀ i, M.S i → (hd (M.W.drop i)).kind ≠ 6 → M.S (i + 1) ∨ M.wild
  ne : ∀ i, M.S i → Nk (M.W.take i) → M.W.drop i ≠ [] ∧ M.W'.drop i ≠ []
/-- Both readings stand at the same place. -/
def In (M : Md) (ts ts' : List Tk) : Prop := ∃ i, M.S i ∧ Nk (M.W.take i) ∧ ts = M.W.drop i ∧ ts' = M.W'.drop i
/-- The first reading is where nothing is known of the second. -/
def Zn (M : Md) {α : Type} (A : Except Flt (α × List Tk)) : Prop := M.wild ∧ ∃ i, ¬ M.S i ∧ Nk (M.W.take i) ∧ Wt (M.W.drop i) A
def Ou (M : Md) {α : Type} (φ : α → α → Prop) (A B : Except Flt (α × List Tk)) : Prop :=
  (M.lim ∧ ∃ o, B = .error (6, o)) ∨ Zn M A ∨ (match A with
    | .error e => M.kx ∨ ∃ ts ts', In M ts ts' ∧ e.2 = (hd ts).at_ ∧ B = .error (e.1, (hd ts').at_)
    | .ok x => ∃ n' r', B = .ok (n', r') ∧ φ x.1 n' ∧ In M x.2 r')
def Rl (M : Md) {α : Type} (φ : α → α → Prop) (p q : PP α) : Prop := ∀ ts ts', In M ts ts' → Ou M φ (p ts) (q ts')
def LoR (M : Md) {β : Type} (R : β → β → Prop) (lo lo' : Option β) : Prop := (∀ x', lo' = some x' → ∃ x, lo = some x ∧ R x x') ∧ (lo' = none → lo = none ∨ M.lim)
section
variable {M : Md}
theorem Ou.bd {α β : Type} {p q : PP α} {f g : α → PP β} {φ : α → α → Prop} {ψ : β → β → Prop} {ts ts' : List Tk} (h : Ou M φ (p ts) (q ts')) (hw : ∀ a r, Wt r (f a r))
    (hf : ∀ a a' r r', p ts = .ok (a, r) → q ts' = .ok (a', r') → φ a a' → In M r r' → Ou M ψ (f a r) (g a' r')) : Ou M ψ (bd p f ts) (bd q g ts') := by
  rcases h with ⟨hl, o, hB⟩ | ⟨hw', i, h1, h2, h3⟩ | h
  · exact .inl ⟨hl, o, bd_err hB⟩
  · exact .inr (.inl ⟨hw', i, h1, h2, by
      cases e : p ts with
      | error e' => rw [bd_err e]; rw [e] at h3; exact h3
      | ok x =>
        obtain ⟨a, r⟩ := x
        rw [bd_ok e]
        rw [e] at h3
        obtain ⟨j, n1, n2⟩ := h3
        simp only at n2
        subst n2
        exact Wt.drop n1 (hw a _)⟩)
  · cases e : p ts with
    | error e' =>
      rw [e] at h
      rw [bd_err e]
      rcases h with h | ⟨us, us', h1, h2, h3⟩
      · exact .inr (.inr (.inl h))
      · exact .inr (.inr (.inr ⟨us, us', h1, h2, bd_err h3⟩))
    | ok x =>
      obtain ⟨a, r⟩ := x
      rw [e] at h
      rw [bd_ok e]
      obtain ⟨a', r', h1, h2, h3⟩ := h
      rw [bd_ok h1]
      exact hf a a' r r' e h1 h2 h3
theorem Ou.mono {α : Type} {φ ψ : α → α → Prop} {A B : Except Flt (α × List Tk)} (h : Ou M φ A B) (hm : ∀ a b, φ a b → ψ a b) : Ou M ψ A B := by
  rcases h with h | h | h
  · exact .inl h
  · exact .inr (.inl h)
  · refine .inr (.inr ?_)
    cases A with
    | error e => exact h
    | ok x => obtain ⟨n', r', h1, h2, h3⟩ := h; exact ⟨n', r', h1, hm _ _ h2, h3⟩
theorem Ou.err {α : Type} {φ : α → α → Prop} {ts ts' : List Tk} {c : Int} (hi : In M ts ts') : Ou M φ (.error (c, (hd ts).at_)) (.error (c, (hd ts').at_)) := .inr (.inr (.inr ⟨ts, ts', hi, rfl, rfl⟩))
theorem Ou.kx {α : Type} {φ : α → α → Prop} {e : Flt} {B : Except Flt (α × List Tk)} (h : M.kx) : Ou M φ (.error e) B := .inr (.inr (.inl h))
theorem Ou.val {α : Type} {φ : α → α → Prop} {a a' : α} {ts ts' : List Tk} (hi : In M ts ts') (h : φ a a') : Ou M φ (.ok (a, ts)) (.ok (a', ts')) := .inr (.inr ⟨a', ts', rfl, h, hi⟩)
theorem Ou.ret {α : Type} {φ : α → α → Prop} {a a' : α} {ts ts' : List Tk} (hi : In M ts ts') (h : φ a a') : Ou M φ (ret a ts) (ret a' ts') := Ou.val hi h
theorem Ou.ite {α : Type} {φ : α → α → Prop} {c c' : Prop} [Decidable c] [Decidable c'] {x y x' y' : Except Flt (α × List Tk)} (h : c' ↔ c) (h1 : c → Ou M φ x x') (h2 : ¬ c → Ou M φ y y') : Ou M φ (if c then x else y) (if c' then x' else y') := by
  by_cases e : c
  · rw [if_pos e, if_pos (h.2 e)]; exact h1 e
  · rw [if_neg e, if_neg (fun q => e (h.1 q))]; exact h2 e
variable (hM : M.Ok)
include hM
theorem In.tl {ts ts' : List Tk} (hi : In M ts ts') (hk : (hd ts).kind ≠ 6) : In M ts.tail ts'.tail ∨ (M.wild ∧ ∃ i, ¬ M.S i ∧ Nk (M.W.take i) ∧ ts.tail = M.W.drop i) := by
  obtain ⟨i, h1, h2, rfl, rfl⟩ := hi
  have e : ∀ W : List Tk, (W.drop i).tail = W.drop (i + 1) := fun W => by rw [← drop_one, List.drop_drop]
  have hn : Nk (M.W.take (i + 1)) := h2.more (Nk.one hk)
  by_cases hs : M.S (i + 1)
  · exact .inl ⟨i + 1, hs, hn, e _, e _⟩
  · rcases hM.next i h1 hk with h | h
    · exact absurd h hs
    · exact .inr ⟨h, i + 1, hs, hn, e _⟩
theorem Ou.tl {α : Type} {φ : α → α → Prop} {ts ts' : List Tk} {A B : Except Flt (α × List Tk)} (hi : In M ts ts') (hk : (hd ts).kind ≠ 6) (hw : Wt ts.tail A) (h : In M ts.tail ts'.tail → Ou M φ A B) : Ou M φ A B := by
  rcases hi.tl hM hk with q | ⟨q, i, h1, h2, h3⟩
  · exact h q
  · exact .inr (.inl ⟨q, i, h1, h2, by rw [← h3]; exact hw⟩)
theorem Ou.one {α : Type} {φ : α → α → Prop} {a a' : α} {ts ts' : List Tk} (hi : In M ts ts') (hk : (hd ts).kind ≠ 6) (h : φ a a') : Ou M φ (.ok (a, ts.tail)) (.ok (a', ts'.tail)) :=
  Ou.tl hM hi hk Wt.val fun hi' => Ou.val hi' h
theorem In.both {ts ts' : List Tk} (hi : In M ts ts') : tkE (hd ts) (hd ts') ∨ (M.kx ∧ (hd ts).kind = 6 ∧ isCl (hd ts')) := by
  obtain ⟨i, h1, h2, rfl, rfl⟩ := hi
  exact hM.sync i h1
theorem In.sync {ts ts' : List Tk} (hi : In M ts ts') (hk : (hd ts).kind ≠ 6) : tkE (hd ts) (hd ts') := by
  rcases hi.both hM with h | ⟨_, h, _⟩
  · exact h
  · exact absurd h hk
theorem In.len {ts ts' : List Tk} (hi : In M ts ts') : 0 < ts.length ∧ 0 < ts'.length := by
  obtain ⟨i, h1, h2, rfl, rfl⟩ := hi
  obtain ⟨h3, h4⟩ := hM.ne i h1 h2
  exact ⟨List.length_pos_iff.2 h3, List.length_pos_iff.2 h4⟩
omit hM in
theorem isB_iff {s : Bs} {ts : List Tk} : isB s ts = true ↔ ((hd ts).kind = 2 ∨ (hd ts).kind = 5) ∧ (hd ts).text = s := by
  unfold isB
  simp only [Bool.and_eq_true, Bool.or_eq_true, decide_eq_true_eq]
theorem In.isB {ts ts' : List Tk} (hi : In M ts ts') (s : Bs) (hs : s ∉ clL) : isB s ts' = true ↔ isB s ts = true := by
  rw [isB_iff, isB_iff]
  rcases hi.both hM with ⟨h1, h2, _⟩ | ⟨_, h, h'⟩
  · rw [h1, h2]
  · constructor
    · rintro ⟨q1, q2⟩
      rcases h' with h' | h'
      · omega
      · rw [q2] at h'; exact absurd h'.2 hs
    · rintro ⟨q1, q2⟩; omega
theorem In.kd {ts ts' : List Tk} (hi : In M ts ts') (k : Int) (hk : k ≠ 2 ∧ k ≠ 5 ∧ k ≠ 6) : (hd ts').kind = k ↔ (hd ts).kind = k := by
  rcases hi.both hM with ⟨h1, h2, _⟩ | ⟨_, h, h'⟩
  · rw [h1]
  · unfold isCl at h'
    omega
omit hM in
theorem opAt_iff {kd : Kd} {ts : List Tk} : opAt kd ts = true ↔ kdOf kd (hd ts).text ≠ 0 ∧ ((hd ts).kind = 2 ∨ (hd ts).kind = 5) := by
  unfold opAt
  rw [Bool.and_eq_true, isB_iff, decide_eq_true_eq]
  exact ⟨fun h => ⟨h.1, h.2.1⟩, fun h => ⟨h.1, h.2, rfl⟩⟩
theorem In.op {ts ts' : List Tk} (hi : In M ts ts') {kd : Kd} (hk : ∀ c ∈ clL, kdOf kd c = 0) : opAt kd ts' = true ↔ opAt kd ts = true := by
  rw [opAt_iff, opAt_iff]
  rcases hi.both hM with ⟨h1, h2, _⟩ | ⟨_, h, h'⟩
  · rw [h1, h2]
  · constructor
    · rintro ⟨q1, q2⟩
      rcases h' with h' | h'
      · omega
      · exact absurd (hk _ h'.2) q1
    · rintro ⟨q1, q2⟩; omega
theorem In.fn {ts ts' : List Tk} (hi : In M ts ts') : ((hd ts').kind = 2 ∧ (hd ts').text ∈ fnList) ↔ ((hd ts).kind = 2 ∧ (hd ts).text ∈ fnList) := by
  rcases hi.both hM with ⟨h1, h2, _⟩ | ⟨_, h, h'⟩
  · rw [h1, h2]
  · constructor
    · rintro ⟨q1, q2⟩
      rcases h' with h' | h'
      · omega
      · have : ∀ c ∈ clL, c ∉ fnList := by decide
        exact absurd q2 (this _ h'.2)
    · rintro ⟨q1, q2⟩; omega

/-! ### the grammar of expressions -/
theorem takeP_rl {k : Int} (hk : k ≠ 2 ∧ k ≠ 5 ∧ k ≠ 6) : Rl M tkE (takeP k) (takeP k) := fun ts ts' hi => by
  unfold takeP
  refine Ou.ite (hi.kd hM k hk) (fun e => ?_) fun e => Ou.err hi
  have h6 : (hd ts).kind ≠ 6 := by rw [e]; exact hk.2.2
  exact Ou.one hM hi h6 (hi.sync hM h6)
theorem expP_rl (s : Bs) : Rl M (fun _ _ => True) (expP s) (expP s) := fun ts ts' hi => by
  unfold expP
  rcases hi.both hM with h | ⟨h0, h, h'⟩
  · have e : isB s ts' = true ↔ isB s ts = true := by
      rw [isB_iff, isB_iff, h.1, h.2.1]
    exact Ou.ite e (fun e => Ou.one hM hi (isB_kind e) trivial) fun e => Ou.err hi
  · rw [if_neg (fun e => isB_kind e h)]
    exact Ou.kx h0
theorem entP_rl {α β : Type} {R : β → β → Prop} {lo lo' : Option β} {s : Bs} {body body' : β → PP α} {φ : α → α → Prop} (hlo : LoR M R lo lo') (hs : s ∉ clL) (hw : ∀ x, lo = some x → Wg (body x))
    (hb : ∀ x x', lo = some x → lo' = some x' → R x x' → Rl M φ (body x) (body' x')) {ts ts' : List Tk} (hi : In M ts ts') : Ou M φ (entP lo s body ts) (entP lo' s body' ts') := by
  unfold entP
  refine Ou.ite (hi.isB hM s hs) (fun e => ?_) fun e => Ou.err hi
  cases e' : lo' with
  | none =>
    rcases hlo.2 e' with h | h
    · subst h; exact Ou.err hi
    · exact .inl ⟨h, _, rfl⟩
  | some x' =>
    obtain ⟨x, rfl, hR⟩ := hlo.1 x' e'
    exact Ou.tl hM hi (isB_kind e) (hw x rfl _) fun hi' => hb x x' rfl e' hR _ _ hi'
theorem intP_rl : Rl M NdE intP intP := fun ts ts' hi => by
  unfold intP
  refine Ou.ite (hi.isB hM _ (by decide)) (fun e => ?_) fun e => ?_
  · exact Ou.tl hM hi (isB_kind e) (((takeP_wg (by decide)).bnd fun _ => Wg.ret _) _) fun hi' => (takeP_rl hM (by decide) _ _ hi').bd (fun _ => Wg.ret _) fun t t' r r' _ _ ht hr => Ou.ret hr (ndE rfl rfl (by rw [ht.2.2]) LsE.nil)
  · exact (takeP_rl hM (by decide) _ _ hi).bd (fun _ => Wg.ret _) fun t t' r r' _ _ ht hr => Ou.ret hr (ndE rfl rfl (by rw [ht.2.2]) LsE.nil)
theorem namedP_rl (k : Int) : Rl M NdE (namedP k) (namedP k) := fun ts ts' hi => (takeP_rl hM (by decide) _ _ hi).bd (fun _ => Wg.ret _) fun t t' r r' _ _ ht hr => Ou.ret hr (ndE rfl ht.2.1 rfl LsE.nil)
theorem quoteP_rl : Rl M NdE quoteP quoteP := fun ts ts' hi => (takeP_rl hM (by decide) _ _ hi).bd (fun _ => Wg.ret _) fun t t' r r' _ _ ht hr => Ou.ret hr (ndE rfl ht.2.1 rfl LsE.nil)
theorem chainF_rl {op op' : PP Nd} {kd : Kd} (hkd : ∀ c ∈ clL, kdOf kd c = 0) (hw : Wg op) (h1 : Dn op) (h2 : Dn op') (h : Rl M NdE op op') :
    ∀ (f f' : Nat) (n n' : Nd) (ts ts' : List Tk), ts.length ≤ f → ts'.length ≤ f' → NdE n n' → In M ts ts' → Ou M NdE (chainF op kd f n ts) (chainF op' kd f' n' ts')
  | 0, _, n, n', ts, ts', hf, _, _, hi => by have := (hi.len hM).1; omega
  | _ + 1, 0, n, n', ts, ts', _, hf, _, hi => by have := (hi.len hM).2; omega
  | f + 1, f' + 1, n, n', ts, ts', hf, hf', hn, hi => by
    simp only [chainF]
    refine Ou.ite (hi.op hM hkd) (fun e => ?_) fun e => Ou.val hi hn
    have hs := hi.sync hM (isB_kind (opAt_isB e))
    have l1 := tl_lt (opAt_isB e)
    have l2 := tl_lt (opAt_isB ((hi.op hM hkd).2 e))
    exact Ou.tl hM hi (isB_kind (opAt_isB e)) ((hw.bnd fun m => chainF_wg hw f _) _) fun hi' => (h _ _ hi').bd (fun _ => chainF_wg hw f _) fun m m' r r' e1 e2 hm hr => by
      have := h1.of e1
      have := h2.of e2
      exact chainF_rl hkd hw h1 h2 h f f' _ _ r r' (by omega) (by omega) (ndE (by rw [hs.2.1]) rfl rfl (LsE.two hn hm)) hr
theorem chainP_rl {op op' : PP Nd} {kd : Kd} (hkd : ∀ c ∈ clL, kdOf kd c = 0) (hw : Wg op) (h1 : Dn op) (h2 : Dn op') (h : Rl M NdE op op') : Rl M NdE (chainP op kd) (chainP op' kd) := fun ts ts' hi =>
  (h _ _ hi).bd (fun n r => chainF_wg hw _ n r) fun n n' r r' e1 e2 hn hr => chainF_rl hM hkd hw h1 h2 h _ _ n n' r r' (Nat.le_refl _) (Nat.le_refl _) hn hr
def ExR (M : Md) (x x' : PP Nd × PP Nd) : Prop := Rl M NdE x.1 x'.1 ∧ Rl M NdE x.2 x'.2
omit hM in
theorem loK_lt (k : Nat) : ∀ x, loK k = some x → Lt x.1 ∧ Lt x.2 := by
  intro x hx
  cases k with
  | zero => cases hx
  | succ k => cases hx; exact lev_Lt k
variable {k k' : Nat} (hlo : LoR M (ExR M) (loK k) (loK k'))
include hlo
theorem postF_rl : ∀ (f f' : Nat) (n n' : Nd) (ts ts' : List Tk), ts.length ≤ f → ts'.length ≤ f' → NdE n n' → In M ts ts' → Ou M NdE (postF (loK k) f n ts) (postF (loK k') f' n' ts')
  | 0, _, n, n', ts, ts', hf, _, _, hi => by have := (hi.len hM).1; omega
  | _ + 1, 0, n, n', ts, ts', _, hf, _, hi => by have := (hi.len hM).2; omega
  | f + 1, f' + 1, n, n', ts, ts', hf, hf', hn, hi => by
    simp only [postF]
    refine Ou.ite (hi.isB hM _ (by decide)) (fun e => ?_) fun e => ?_
    · have l1 := tl_lt e
      have l2 := tl_lt ((hi.isB hM _ (by decide)).2 e)
      exact Ou.tl hM hi (isB_kind e) (((takeP_wg (by decide)).bnd fun t => postF_wg (loK_wg k) f _) _) fun hi' => (takeP_rl hM (by decide) _ _ hi').bd (fun _ => postF_wg (loK_wg k) f _) fun t t' r r' e1 e2 ht hr => by
        have := takeP_lt (by decide) e1
        have := takeP_lt (by decide) e2
        exact postF_rl f f' _ _ r r' (by omega) (by omega) (ndE rfl ht.2.1 rfl (LsE.one hn)) hr
    refine Ou.ite (hi.isB hM _ (by decide)) (fun e2 => ?_) fun e2 => Ou.val hi hn
    have l1 := tl_lt e2
    have l2 := tl_lt ((hi.isB hM _ (by decide)).2 e2)
    unfold entP
    rw [if_pos e2, if_pos ((hi.isB hM _ (by decide)).2 e2)]
    cases e' : loK k' with
    | none =>
      rcases hlo.2 e' with h | h
      · rw [h]; exact Ou.err hi
      · exact .inl ⟨h, _, rfl⟩
    | some x' =>
      obtain ⟨x, ex, hR⟩ := hlo.1 x' e'
      rw [ex]
      have hwx := (loK_wg k x ex).1
      refine Ou.tl hM hi (isB_kind e2) ((hwx.bnd fun m => (expP_wg _).bnd fun _ => ?_) _) fun hi' => (hR.1 _ _ hi').bd (fun _ => (expP_wg _).bnd fun _ => ?_) fun m m' r r' e3 e4 hm hr => (expP_rl hM _ _ _ hr).bd (fun _ => ?_) fun _ _ r2 r2' e5 e6 _ hr2 => ?_
      · rw [← ex]; exact postF_wg (loK_wg k) f _
      · rw [← ex]; exact postF_wg (loK_wg k) f _
      · rw [← ex]; exact postF_wg (loK_wg k) f _
      · have := (loK_dn k x ex).1.of e3
        have := (loK_dn k' x' e').1.of e4
        have := expP_lt e5
        have := expP_lt e6
        have ih := postF_rl f f' (.mk 43 [] 0 (hd ts).at_ [n, m]) (.mk 43 [] 0 (hd ts').at_ [n', m']) r2 r2' (by omega) (by omega) (ndE rfl rfl rfl (LsE.two hn hm)) hr2
        rw [ex, e'] at ih
        exact ih
omit hlo
theorem commaP_rl : Rl M (fun a b => a = b) commaP commaP := fun ts ts' hi => by
  unfold commaP
  exact Ou.ite (hi.isB hM _ (by decide)) (fun e => Ou.one hM hi (isB_kind e) rfl) fun e => (expP_rl hM _ _ _ hi).bd (fun _ => Wg.ret _) fun _ _ r r' _ _ _ hr => Ou.ret hr rfl
theorem argP_rl {e e' : PP Nd} (hw : Wg e) (h : Rl M NdE e e') (fn : Bs) : Rl M NdE (argP e fn) (argP e' fn) := fun ts ts' hi => by
  unfold argP
  refine Ou.ite Iff.rfl (fun _ => ?_) fun _ => Ou.ite Iff.rfl (fun _ => ?_) fun _ => h _ _ hi
  · exact (takeP_rl hM (by decide) _ _ hi).bd (fun _ => (expP_wg _).bnd fun _ => hw.bnd fun _ => Wg.ret _) fun t t' r r' _ _ ht hr => (expP_rl hM _ _ _ hr).bd (fun _ => hw.bnd fun _ => Wg.ret _) fun _ _ r2 r2' _ _ _ hr2 =>
      (h _ _ hr2).bd (fun _ => Wg.ret _) fun x x' r3 r3' _ _ hx hr3 => Ou.ret hr3 (ndE rfl ht.2.1 rfl (LsE.one hx))
  · exact (h _ _ hi).bd (fun _ => (expP_wg _).bnd fun _ => hw.bnd fun _ => Wg.ret _) fun x x' r r' _ _ hx hr => (expP_rl hM _ _ _ hr).bd (fun _ => hw.bnd fun _ => Wg.ret _) fun _ _ r2 r2' _ _ _ hr2 =>
      (h _ _ hr2).bd (fun _ => Wg.ret _) fun y y' r3 r3' _ _ hy hr3 => Ou.ret hr3 (ndE rfl rfl rfl (LsE.two hx hy))
theorem listF_rl {arg arg' : PP Nd} (hw : Wg arg) (h1 : Lt arg) (h2 : Lt arg') (h : Rl M NdE arg arg') :
    ∀ (f f' : Nat) (l l' : List Nd) (ts ts' : List Tk), ts.length ≤ f → ts'.length ≤ f' → LsE l l' → In M ts ts' → Ou M LsE (listF arg f l ts) (listF arg' f' l' ts')
  | 0, _, n, n', ts, ts', hf, _, _, hi => by have := (hi.len hM).1; omega
  | _ + 1, 0, n, n', ts, ts', _, hf, _, hi => by have := (hi.len hM).2; omega
  | f + 1, f' + 1, l, l', ts, ts', hf, hf', hn, hi => by
    simp only [listF]
    have hwm : ∀ (a : Nd) (m : Bool), Wg (if m = true then listF arg f (l ++ [a]) else Go.Proofs.YtbgjgaaobnbijaaDoor.ret (l ++ [a])) := fun a m => by
      cases m
      · exact Wg.ret _
      · exact listF_wg hw f _
    refine (h _ _ hi).bd (fun a => commaP_wg.bnd fun m => hwm a m) fun a a' r r' e1 e2 ha hr => (commaP_rl hM _ _ hr).bd (fun m => hwm a m) fun m m' r2 r2' e3 e4 hm hr2 => ?_
    have := h1.of e1
    have := h2.of e2
    have := comma_lt' e3
    have := comma_lt' e4
    subst hm
    cases m with
    | false => exact Ou.ret hr2 (hn.app (LsE.one ha))
    | true => exact listF_rl hw h1 h2 h f f' _ _ r2 r2' (by omega) (by omega) (hn.app (LsE.one ha)) hr2
theorem listP_rl {arg arg' : PP Nd} (hw : Wg arg) (h1 : Lt arg) (h2 : Lt arg') (h : Rl M NdE arg arg') : Rl M LsE (listP arg) (listP arg') := fun ts ts' hi => by
  unfold listP
  rcases hi.both hM with hs | ⟨h0, h6, h'⟩
  · have e : isB [41] ts' = true ↔ isB [41] ts = true := by rw [isB_iff, isB_iff, hs.1, hs.2.1]
    exact Ou.ite e (fun e => Ou.one hM hi (isB_kind e) LsE.nil) fun e => listF_rl hM hw h1 h2 h _ _ _ _ ts ts' (Nat.le_refl _) (Nat.le_refl _) LsE.nil hi
  · rw [if_neg (fun e => isB_kind e h6)]
    have hpos := (hi.len hM).1
    obtain ⟨f, hf⟩ : ∃ f, ts.length = f + 1 := ⟨ts.length - 1, by omega⟩
    rw [hf, listF]
    cases e : arg ts with
    | error e' => rw [bd_err e]; exact Ou.kx h0
    | ok x => exact absurd h6 (hw.kind h1 e)
include hlo
theorem primP_rl : Rl M NdE (primP (loK k)) (primP (loK k')) := fun ts ts' hi => by
  have nn : ∀ {c : Int}, NdE (.mk c [] 0 (hd ts).at_ []) (.mk c [] 0 (hd ts').at_ []) := ndE rfl rfl rfl LsE.nil
  unfold primP
  refine Ou.ite (or_congr (hi.kd hM 3 (by decide)) (hi.isB hM _ (by decide))) (fun _ => intP_rl hM _ _ hi) fun _ => ?_
  refine Ou.ite (hi.kd hM 4 (by decide)) (fun _ => quoteP_rl hM _ _ hi) fun _ => ?_
  refine Ou.ite (hi.kd hM 1 (by decide)) (fun _ => namedP_rl hM _ _ _ hi) fun _ => ?_
  refine Ou.ite (hi.isB hM _ (by decide)) (fun e => Ou.one hM hi (isB_kind e) nn) fun _ => ?_
  refine Ou.ite (hi.isB hM _ (by decide)) (fun e => Ou.one hM hi (isB_kind e) nn) fun _ => ?_
  refine Ou.ite (hi.isB hM _ (by decide)) (fun e => Ou.one hM hi (isB_kind e) nn) fun _ => ?_
  refine Ou.ite (hi.isB hM _ (by decide)) (fun e => Ou.one hM hi (isB_kind e) nn) fun _ => ?_
  refine Ou.ite (hi.isB hM _ (by decide)) (fun e => ?_) fun _ => ?_
  · exact entP_rl hM hlo (by decide) (fun x hx => (loK_wg k x hx).1.bnd fun _ => (expP_wg _).bnd fun _ => Wg.ret _) (fun x x' hx hx' hR us us' hi' => (hR.1 _ _ hi').bd (fun _ => (expP_wg _).bnd fun _ => Wg.ret _) fun n n' r r' _ _ hn hr =>
      (expP_rl hM _ _ _ hr).bd (fun _ => Wg.ret _) fun _ _ r2 r2' _ _ _ hr2 => Ou.ret hr2 hn) hi
  refine Ou.ite (hi.fn hM) (fun e => ?_) fun _ => Ou.err hi
  have h6 : (hd ts).kind ≠ 6 := by rw [e.1]; decide
  have ht := (hi.sync hM h6).2.1
  rw [← ht]
  refine Ou.tl hM hi h6 (entP_wg (fun x hx => (listP_wg (argP_wg (loK_wg k x hx).1 _)).bnd fun _ => Wg.ret _) _) fun hi' => ?_
  exact entP_rl hM hlo (by decide) (fun x hx => (listP_wg (argP_wg (loK_wg k x hx).1 _)).bnd fun _ => Wg.ret _) (fun x x' hx hx' hR us us' hi' =>
    (listP_rl hM (argP_wg (loK_wg k x hx).1 _) (argP_Lt (loK_lt k x hx).1 (loK_dn k x hx).1 _) (argP_Lt (loK_lt k' x' hx').1 (loK_dn k' x' hx').1 _) (argP_rl hM (loK_wg k x hx).1 hR.1 _) _ _ hi').bd (fun _ => Wg.ret _) fun l l' r r' _ _ hl hr => Ou.ret hr (ndE rfl rfl rfl hl)) hi'
theorem postP_rl : Rl M NdE (postP (loK k)) (postP (loK k')) := fun ts ts' hi => (primP_rl hM hlo _ _ hi).bd (fun n r => postF_wg (loK_wg k) _ n r) fun n n' r r' _ _ hn hr =>
  postF_rl hM hlo _ _ n n' r r' (Nat.le_refl _) (Nat.le_refl _) hn hr
theorem sumP_rl : Rl M NdE (sumP (loK k)) (sumP (loK k')) := chainP_rl hM (by decide) (postP_wg (loK_wg k)) (postP_dn (loK_dn k)) (postP_dn (loK_dn k')) (postP_rl hM hlo)
theorem joinP_rl : Rl M NdE (joinP (loK k)) (joinP (loK k')) := chainP_rl hM (by decide) (sumP_wg (loK_wg k)) (sumP_dn (loK_dn k)) (sumP_dn (loK_dn k')) (sumP_rl hM hlo)
theorem cmpP_rl : Rl M NdE (cmpP (loK k)) (cmpP (loK k')) := fun ts ts' hi => by
  have hj := joinP_rl hM hlo
  have hw := joinP_wg (loK_wg k)
  refine (hj _ _ hi).bd (fun n r => Wt.ite (fun e => Wt.tl (isB_kind (opAt_isB e)) ((hw.bnd fun _ => Wg.ret _) _)) fun _ => Wt.val) fun n n' r r' _ _ hn hr => ?_
  refine Ou.ite (hr.op hM (by decide)) (fun e => ?_) fun e => Ou.val hr hn
  have hs := hr.sync hM (isB_kind (opAt_isB e))
  exact Ou.tl hM hr (isB_kind (opAt_isB e)) ((hw.bnd fun _ => Wg.ret _) _) fun hi' => (hj _ _ hi').bd (fun _ => Wg.ret _) fun m m' r2 r2' _ _ hm hr2 => Ou.ret hr2 (ndE (by rw [hs.2.1]) rfl rfl (LsE.two hn hm))
theorem notP_rl : Rl M NdE (notP (loK k)) (notP (loK k')) := fun ts ts' hi => by
  unfold notP
  refine Ou.ite (hi.isB hM _ (by decide)) (fun e => ?_) fun e => cmpP_rl hM hlo _ _ hi
  exact entP_rl hM hlo (by decide) (fun x hx => (loK_wg k x hx).2.bnd fun _ => Wg.ret _) (fun x x' hx hx' hR us us' hi' => (hR.2 _ _ hi').bd (fun _ => Wg.ret _) fun n n' r r' _ _ hn hr => Ou.ret hr (ndE rfl rfl rfl (LsE.one hn))) hi
theorem andP_rl : Rl M NdE (andP (loK k)) (andP (loK k')) := chainP_rl hM (by decide) (notP_wg (loK_wg k)) (notP_dn (loK_dn k)) (notP_dn (loK_dn k')) (notP_rl hM hlo)
theorem orP_rl : Rl M NdE (orP (loK k)) (orP (loK k')) := chainP_rl hM (by decide) (andP_wg (loK_wg k)) (andP_dn (loK_dn k)) (andP_dn (loK_dn k')) (andP_rl hM hlo)
theorem exprP_rl : Rl M NdE (exprP (loK k)) (exprP (loK k')) := fun ts ts' hi => by
  unfold exprP
  refine Ou.ite (hi.isB hM _ (by decide)) (fun e => ?_) fun e => orP_rl hM hlo _ _ hi
  refine entP_rl hM hlo (by decide) (fun x hx => ?_) (fun x x' hx hx' hR us us' hi' => ?_) hi
  · have hw := (loK_wg k x hx).1
    exact hw.bnd fun _ => (expP_wg _).bnd fun _ => hw.bnd fun _ => (expP_wg _).bnd fun _ => hw.bnd fun _ => Wg.ret _
  · have hw := (loK_wg k x hx).1
    exact (hR.1 _ _ hi').bd (fun _ => (expP_wg _).bnd fun _ => hw.bnd fun _ => (expP_wg _).bnd fun _ => hw.bnd fun _ => Wg.ret _) fun a a' r r' _ _ ha hr =>
      (expP_rl hM _ _ _ hr).bd (fun _ => hw.bnd fun _ => (expP_wg _).bnd fun _ => hw.bnd fun _ => Wg.ret _) fun _ _ r r' _ _ _ hr =>
      (hR.1 _ _ hr).bd (fun _ => (expP_wg _).bnd fun _ => hw.bnd fun _ => Wg.ret _) fun b b' r r' _ _ hb hr =>
      (expP_rl hM _ _ _ hr).bd (fun _ => hw.bnd fun _ => Wg.ret _) fun _ _ r r' _ _ _ hr =>
      (hR.1 _ _ hr).bd (fun _ => Wg.ret _) fun c c' r r' _ _ hc hr => Ou.ret hr (ndE rfl rfl rfl (LsE.cons ha (LsE.two hb hc)))
omit hlo
/-- The same levels on both sides. -/
theorem lev_rl : ∀ k : Nat, ExR M (lev k) (lev k) ∧ LoR M (ExR M) (loK k) (loK k) := by
  have key : ∀ k, LoR M (ExR M) (loK k) (loK k) → ExR M (lev k) (lev k) := fun k h => by
    rw [lev_eq]; exact ⟨exprP_rl hM h, notP_rl hM h⟩
  intro k
  induction k with
  | zero =>
    have h : LoR M (ExR M) (loK 0) (loK 0) := ⟨fun x' h => (by cases h), fun _ => .inl rfl⟩
    exact ⟨key 0 h, h⟩
  | succ k ih =>
    have h : LoR M (ExR M) (loK (k + 1)) (loK (k + 1)) := ⟨fun x' h => ⟨x', h, by cases h; exact ih.1⟩, fun h => by cases h⟩
    exact ⟨key _ h, h⟩
theorem expr_rl (k : Nat) : Rl M NdE (exprP (loK k)) (exprP (loK k)) := exprP_rl hM (lev_rl hM k).2
/-- One level less on the second side. -/
theorem lev_less (hl : M.lim) : ∀ k : Nat, ExR M (lev (k + 1)) (lev k) ∧ LoR M (ExR M) (loK (k + 1)) (loK k) := by
  have key : ∀ k, LoR M (ExR M) (loK (k + 1)) (loK k) → ExR M (lev (k + 1)) (lev k) := fun k h => by
    rw [lev_eq, lev_eq]; exact ⟨exprP_rl hM h, notP_rl hM h⟩
  intro k
  induction k with
  | zero =>
    have h : LoR M (ExR M) (loK 1) (loK 0) := ⟨fun x' h => (by cases h), fun _ => .inr hl⟩
    exact ⟨key 0 h, h⟩
  | succ k ih =>
    have h : LoR M (ExR M) (loK (k + 2)) (loK (k + 1)) := ⟨fun x' h => ⟨lev (k + 1), rfl, by cases h; exact ih.1⟩, fun h => by cases h⟩
    exact ⟨key _ h, h⟩
theorem expr_less (hl : M.lim) (k : Nat) : Rl M NdE (exprP (loK (k + 1))) (exprP (loK k)) := exprP_rl hM (lev_less hM hl k).2
end
end Go.Proofs.YtbgjgaaobnbijaaDoor
end
section
/- Two readings beside each other: lattices, declarations, programs. -/
set_option linter.unusedSimpArgs false
set_option linter.unusedVariables false
set_option maxRecDepth 8000
namespace Go.Proofs.YtbgjgaaobnbijaaDoor
open Gx Go
section
variable {M : Md} (hM : M.Ok)
include hM
theorem quotesF_rl : ∀ (f f' : Nat) (l l' : List Nd) (ts ts' : List Tk), ts.length ≤ f → ts'.length ≤ f' → LsE l l' → In M ts ts' → Ou M LsE (quotesF f l ts) (quotesF f' l' ts')
  | 0, _, n, n', ts, ts', hf, _, _, hi => by have := (hi.len hM).1; omega
  | _ + 1, 0, n, n', ts, ts', _, hf, _, hi => by have := (hi.len hM).2; omega
  | f + 1, f' + 1, l, l', ts, ts', hf, hf', hn, hi => by
    simp only [quotesF]
    refine Ou.ite (hi.isB hM _ (by decide)) (fun e => ?_) fun e => Ou.val hi hn
    have l1 := tl_lt e
    have l2 := tl_lt ((hi.isB hM _ (by decide)).2 e)
    exact Ou.tl hM hi (isB_kind e) ((quoteP_wg.bnd fun m => quotesF_wg f _) _) fun hi' => (quoteP_rl hM _ _ hi').bd (fun _ => quotesF_wg f _) fun q q' r r' e1 e2 hq hr => by
      have := quoteP_lt e1
      have := quoteP_lt e2
      exact quotesF_rl f f' _ _ r r' (by omega) (by omega) (hn.app (LsE.one hq)) hr
theorem quotesP_rl : Rl M LsE quotesP quotesP := fun ts ts' hi => (quoteP_rl hM _ _ hi).bd (fun q r => quotesF_wg _ _ r) fun q q' r r' _ _ hq hr =>
  quotesF_rl hM _ _ _ _ r r' (Nat.le_refl _) (Nat.le_refl _) (LsE.one hq) hr
theorem allowedP_rl : Rl M LsE allowedP allowedP := fun ts ts' hi => by
  unfold allowedP
  refine Ou.ite (hi.isB hM _ (by decide)) (fun e => ?_) fun e => Ou.val hi LsE.nil
  exact Ou.tl hM hi (isB_kind e) ((quotesP_wg.bnd fun _ => (expP_wg _).bnd fun _ => Wg.ret _) _) fun hi' => (quotesP_rl hM _ _ hi').bd (fun _ => (expP_wg _).bnd fun _ => Wg.ret _) fun l l' r r' _ _ hl hr =>
    (expP_rl hM _ _ _ hr).bd (fun _ => Wg.ret _) fun _ _ r2 r2' _ _ _ hr2 => Ou.ret hr2 hl
theorem twoP_rl {p p' : PP Nd} (hw : Wg p) (h : Rl M NdE p p') : Rl M LsE (twoP p) (twoP p') := fun ts ts' hi =>
  (expP_rl hM _ _ _ hi).bd (fun _ => hw.bnd fun _ => (expP_wg _).bnd fun _ => hw.bnd fun _ => (expP_wg _).bnd fun _ => Wg.ret _) fun _ _ r r' _ _ _ hr =>
  (h _ _ hr).bd (fun _ => (expP_wg _).bnd fun _ => hw.bnd fun _ => (expP_wg _).bnd fun _ => Wg.ret _) fun a a' r r' _ _ ha hr =>
  (expP_rl hM _ _ _ hr).bd (fun _ => hw.bnd fun _ => (expP_wg _).bnd fun _ => Wg.ret _) fun _ _ r r' _ _ _ hr =>
  (h _ _ hr).bd (fun _ => (expP_wg _).bnd fun _ => Wg.ret _) fun b b' r r' _ _ hb hr =>
  (expP_rl hM _ _ _ hr).bd (fun _ => Wg.ret _) fun _ _ r r' _ _ _ hr => Ou.ret hr (LsE.two ha hb)
theorem optQ_rl : Rl M LsE optQ optQ := fun ts ts' hi => by
  unfold optQ
  exact Ou.ite (hi.kd hM 4 (by decide)) (fun _ => quotesP_rl hM _ _ hi) fun _ => Ou.val hi LsE.nil
theorem ruleP_rl : Rl M NdE ruleP ruleP := fun ts ts' hi => by
  unfold ruleP
  exact (optQ_rl hM _ _ hi).bd (fun _ => (expP_wg _).bnd fun _ => quoteP_wg.bnd fun _ => Wg.ret _) fun q q' r r' _ _ hq hr =>
    (expP_rl hM _ _ _ hr).bd (fun _ => quoteP_wg.bnd fun _ => Wg.ret _) fun _ _ r r' _ _ _ hr =>
    (quoteP_rl hM _ _ hr).bd (fun _ => Wg.ret _) fun c c' r r' _ _ hc hr => Ou.ret hr (ndE rfl rfl rfl (hq.app (LsE.one hc)))
theorem rulesF_rl : ∀ (f f' : Nat) (l l' : List Nd) (ts ts' : List Tk), ts.length ≤ f → ts'.length ≤ f' → LsE l l' → In M ts ts' → Ou M LsE (rulesF f l ts) (rulesF f' l' ts')
  | 0, _, n, n', ts, ts', hf, _, _, hi => by have := (hi.len hM).1; omega
  | _ + 1, 0, n, n', ts, ts', _, hf, _, hi => by have := (hi.len hM).2; omega
  | f + 1, f' + 1, l, l', ts, ts', hf, hf', hn, hi => by
    simp only [rulesF]
    refine Ou.ite (hi.isB hM _ (by decide)) (fun e => ?_) fun e => Ou.val hi hn
    have l1 := tl_lt e
    have l2 := tl_lt ((hi.isB hM _ (by decide)).2 e)
    exact Ou.tl hM hi (isB_kind e) ((ruleP_wg.bnd fun m => rulesF_wg f _) _) fun hi' => (ruleP_rl hM _ _ hi').bd (fun _ => rulesF_wg f _) fun q q' r r' e1 e2 hq hr => by
      have := ruleP_dn.of e1
      have := ruleP_dn.of e2
      exact rulesF_rl f f' _ _ r r' (by omega) (by omega) (hn.app (LsE.one hq)) hr
theorem closedP_rl : Rl M LsE closedP closedP := fun ts ts' hi => by
  have hw : ∀ (l : List Nd) (r : List Tk), Wt r (bd (rulesF r.length l) (fun l => bd (expP [41]) fun _ => ret l) r) := fun l r => ((rulesF_wg _ l).bnd fun _ => (expP_wg _).bnd fun _ => Wg.ret _) r
  exact (expP_rl hM _ _ _ hi).bd (fun _ => optQ_wg.bnd' hw) fun _ _ r r' _ _ _ hr => (optQ_rl hM _ _ hr).bd hw fun l l' r r' _ _ hl hr =>
    (rulesF_rl hM _ _ _ _ r r' (Nat.le_refl _) (Nat.le_refl _) hl hr).bd (fun _ => (expP_wg _).bnd fun _ => Wg.ret _) fun l l' r r' _ _ hl hr =>
    (expP_rl hM _ _ _ hr).bd (fun _ => Wg.ret _) fun _ _ r r' _ _ _ hr => Ou.ret hr hl
theorem memP_rl {x x' : PP Nd} (hw : Wg x) (h : Rl M NdE x x') : Rl M NdE (memP x) (memP x') := fun ts ts' hi =>
  (takeP_rl hM (by decide) _ _ hi).bd (fun _ => (expP_wg _).bnd fun _ => hw.bnd fun _ => Wg.ret _) fun t t' r r' _ _ ht hr =>
  (expP_rl hM _ _ _ hr).bd (fun _ => hw.bnd fun _ => Wg.ret _) fun _ _ r r' _ _ _ hr =>
  (h _ _ hr).bd (fun _ => Wg.ret _) fun y y' r r' _ _ hy hr => Ou.ret hr (ndE rfl ht.2.1 rfl (LsE.one hy))
theorem memF_rl {x x' : PP Nd} (hw : Wg x) (h1 : Dn x) (h2 : Dn x') (h : Rl M NdE x x') : ∀ (f f' : Nat) (l l' : List Nd) (ts ts' : List Tk), ts.length ≤ f → ts'.length ≤ f' → LsE l l' → In M ts ts' → Ou M LsE (memF x f l ts) (memF x' f' l' ts')
  | 0, _, n, n', ts, ts', hf, _, _, hi => by have := (hi.len hM).1; omega
  | _ + 1, 0, n, n', ts, ts', _, hf, _, hi => by have := (hi.len hM).2; omega
  | f + 1, f' + 1, l, l', ts, ts', hf, hf', hn, hi => by
    simp only [memF]
    refine (memP_rl hM hw h _ _ hi).bd (fun m r => Wt.ite (fun e => Wt.tl (isB_kind e) (memF_wg hw f _ _)) fun _ => Wt.val) fun m m' r r' e1 e2 hm hr => ?_
    have := (memP_Lt h1).of e1
    have := (memP_Lt h2).of e2
    refine Ou.ite (hr.isB hM _ (by decide)) (fun e => ?_) fun e => Ou.val hr (hn.app (LsE.one hm))
    have l1 := tl_lt e
    have l2 := tl_lt ((hr.isB hM _ (by decide)).2 e)
    exact Ou.tl hM hr (isB_kind e) (memF_wg hw f _ _) fun hi' => memF_rl hw h1 h2 h f f' _ _ _ _ (by omega) (by omega) (hn.app (LsE.one hm)) hi'
theorem memsP_rl {x x' : PP Nd} (hw : Wg x) (h1 : Dn x) (h2 : Dn x') (h : Rl M NdE x x') : Rl M LsE (memsP x) (memsP x') := fun ts ts' hi => by
  unfold memsP
  exact (memF_rl hM hw h1 h2 h _ _ _ _ ts ts' (Nat.le_succ _) (Nat.le_succ _) LsE.nil hi).bd (fun _ => (expP_wg _).bnd fun _ => Wg.ret _) fun l l' r r' _ _ hl hr =>
    (expP_rl hM _ _ _ hr).bd (fun _ => Wg.ret _) fun _ _ r r' _ _ _ hr => Ou.ret hr hl
omit hM in
theorem loL_wg (k : Nat) : ∀ x, loL k = some x → Wg x := by
  intro x hx
  cases k with
  | zero => cases hx
  | succ k => cases hx; exact levL_wg k
theorem latP_rl {k : Nat} (hlo : LoR M (Rl M NdE) (loL k) (loL k)) : Rl M NdE (latP (loL k)) (latP (loL k)) := fun ts ts' hi => by
  have nn : ∀ {c : Int} {l l' : List Nd}, LsE l l' → NdE (.mk c [] 0 (hd ts).at_ l) (.mk c [] 0 (hd ts').at_ l') := fun h => ndE rfl rfl rfl h
  unfold latP
  refine Ou.ite (hi.kd hM 1 (by decide)) (fun _ => namedP_rl hM _ _ _ hi) fun _ => ?_
  refine Ou.ite (hi.isB hM _ (by decide)) (fun e => Ou.one hM hi (isB_kind e) (nn LsE.nil)) fun _ => ?_
  refine Ou.ite (hi.isB hM _ (by decide)) (fun e => Ou.one hM hi (isB_kind e) (nn LsE.nil)) fun _ => ?_
  refine Ou.ite (hi.isB hM _ (by decide)) (fun e => Ou.tl hM hi (isB_kind e) ((allowedP_wg.bnd fun _ => Wg.ret _) _) fun hi' => (allowedP_rl hM _ _ hi').bd (fun _ => Wg.ret _) fun l l' r r' _ _ hl hr => Ou.ret hr (nn hl)) fun _ => ?_
  refine Ou.ite (hi.isB hM _ (by decide)) (fun e => Ou.tl hM hi (isB_kind e) ((allowedP_wg.bnd fun _ => Wg.ret _) _) fun hi' => (allowedP_rl hM _ _ hi').bd (fun _ => Wg.ret _) fun l l' r r' _ _ hl hr => Ou.ret hr (nn hl)) fun _ => ?_
  refine Ou.ite (hi.isB hM _ (by decide)) (fun e => ?_) fun _ => ?_
  · exact entP_rl hM hlo (by decide) (fun x hx => allowedP_wg.bnd fun _ => (loL_wg k x hx).bnd fun _ => Wg.ret _) (fun x x' hx hx' hR us us' hi' => (allowedP_rl hM _ _ hi').bd (fun _ => (loL_wg k x hx).bnd fun _ => Wg.ret _) fun l l' r r' _ _ hl hr =>
      (hR _ _ hr).bd (fun _ => Wg.ret _) fun y y' r r' _ _ hy hr => Ou.ret hr (nn (hl.app (LsE.one hy)))) hi
  refine Ou.ite (hi.isB hM _ (by decide)) (fun e => Ou.tl hM hi (isB_kind e) (((twoP_wg intP_wg).bnd fun _ => Wg.ret _) _) fun hi' => (twoP_rl hM intP_wg (intP_rl hM) _ _ hi').bd (fun _ => Wg.ret _) fun l l' r r' _ _ hl hr => Ou.ret hr (nn hl)) fun _ => ?_
  refine Ou.ite (hi.isB hM _ (by decide)) (fun e => Ou.tl hM hi (isB_kind e) (((twoP_wg intP_wg).bnd fun _ => Wg.ret _) _) fun hi' => (twoP_rl hM intP_wg (intP_rl hM) _ _ hi').bd (fun _ => Wg.ret _) fun l l' r r' _ _ hl hr => Ou.ret hr (nn hl)) fun _ => ?_
  refine Ou.ite (hi.isB hM _ (by decide)) (fun e => ?_) fun _ => ?_
  · exact entP_rl hM hlo (by decide) (fun x hx => (twoP_wg (loL_wg k x hx)).bnd fun _ => Wg.ret _) (fun x x' hx hx' hR us us' hi' => (twoP_rl hM (loL_wg k x hx) hR _ _ hi').bd (fun _ => Wg.ret _) fun l l' r r' _ _ hl hr => Ou.ret hr (nn hl)) hi
  refine Ou.ite (hi.isB hM _ (by decide)) (fun e => ?_) fun _ => ?_
  · exact entP_rl hM hlo (by decide) (fun x hx => (memsP_wg (loL_wg k x hx)).bnd fun _ => Wg.ret _) (fun x x' hx hx' hR us us' hi' => (memsP_rl hM (loL_wg k x hx) (loL_dn k x hx) (loL_dn k x' hx') hR _ _ hi').bd (fun _ => Wg.ret _) fun l l' r r' _ _ hl hr => Ou.ret hr (nn hl)) hi
  exact Ou.ite (hi.isB hM _ (by decide)) (fun e => Ou.tl hM hi (isB_kind e) ((closedP_wg.bnd fun _ => Wg.ret _) _) fun hi' => (closedP_rl hM _ _ hi').bd (fun _ => Wg.ret _) fun l l' r r' _ _ hl hr => Ou.ret hr (nn hl)) fun _ => Ou.err hi
theorem levL_rl : ∀ k : Nat, Rl M NdE (levL k) (levL k) ∧ LoR M (Rl M NdE) (loL k) (loL k) := by
  have key : ∀ k, LoR M (Rl M NdE) (loL k) (loL k) → Rl M NdE (levL k) (levL k) := fun k h => by
    rw [levL_eq]; exact latP_rl hM h
  intro k
  induction k with
  | zero =>
    have h : LoR M (Rl M NdE) (loL 0) (loL 0) := ⟨fun x' h => (by cases h), fun _ => .inl rfl⟩
    exact ⟨key 0 h, h⟩
  | succ k ih =>
    have h : LoR M (Rl M NdE) (loL (k + 1)) (loL (k + 1)) := ⟨fun x' h => ⟨x', h, by cases h; exact ih.1⟩, fun h => by cases h⟩
    exact ⟨key _ h, h⟩
theorem sortP_rl : Rl M (fun a b => a = b) sortP sortP := fun ts ts' hi => by
  unfold sortP
  refine Ou.ite (hi.isB hM _ (by decide)) (fun e => Ou.one hM hi (isB_kind e) rfl) fun _ => ?_
  refine Ou.ite (hi.isB hM _ (by decide)) (fun e => Ou.one hM hi (isB_kind e) rfl) fun _ => ?_
  refine Ou.ite (hi.isB hM _ (by decide)) (fun e => Ou.one hM hi (isB_kind e) rfl) fun _ => ?_
  exact Ou.ite (hi.isB hM _ (by decide)) (fun e => Ou.one hM hi (isB_kind e) rfl) fun _ => Ou.err hi
theorem paramP_rl : Rl M NdE paramP paramP := fun ts ts' hi =>
  (takeP_rl hM (by decide) _ _ hi).bd (fun _ => (expP_wg _).bnd fun _ => sortP_wg.bnd fun _ => Wg.ret _) fun t t' r r' _ _ ht hr =>
  (expP_rl hM _ _ _ hr).bd (fun _ => sortP_wg.bnd fun _ => Wg.ret _) fun _ _ r r' _ _ _ hr =>
  (sortP_rl hM _ _ hr).bd (fun _ => Wg.ret _) fun y y' r r' _ _ hy hr => Ou.ret hr (ndE rfl ht.2.1 hy LsE.nil)
theorem colonP_rl (kind : Int) : Rl M (fun a b => a = b) (if kind = 5 then bd (expP [58]) fun _ => sortP else ret 0) (if kind = 5 then bd (expP [58]) fun _ => sortP else ret 0) := by
  split
  · exact fun ts ts' hi => (expP_rl hM _ _ _ hi).bd (fun _ => sortP_wg) fun _ _ r r' _ _ _ hr => sortP_rl hM _ _ hr
  · exact fun ts ts' hi => Ou.ret hi rfl
theorem funcP_rl (a a' kind : Int) : Rl M NdE (funcP a kind) (funcP a' kind) := fun ts ts' hi => by
  have w1 : ∀ (t : Tk) (ps : List Nd) (o : Nd) (n : Int) (e : Nd), Wg (bd (expP [59]) fun _ => ret (Nd.mk kind t.text n a (ps ++ [o] ++ [e]))) := fun t ps o n e => (expP_wg _).bnd fun _ => Wg.ret _
  have w2 := fun (t : Tk) (ps : List Nd) (o : Nd) (n : Int) => lev64_wg.bnd fun e => w1 t ps o n e
  have w3 := fun (t : Tk) (ps : List Nd) (o : Nd) (n : Int) => (expP_wg [61]).bnd fun _ => w2 t ps o n
  have w4 := fun (t : Tk) (ps : List Nd) (o : Nd) => (colonP_wg kind).bnd fun n => w3 t ps o n
  have w5 := fun (t : Tk) (ps : List Nd) => (namedP_wg 48).bnd fun o => w4 t ps o
  have w6 := fun (t : Tk) (ps : List Nd) => (expP_wg [111, 110]).bnd fun _ => w5 t ps
  have w7 := fun (t : Tk) => (listP_wg paramP_wg).bnd fun ps => w6 t ps
  have w8 := fun (t : Tk) => (expP_wg [40]).bnd fun _ => w7 t
  exact (takeP_rl hM (by decide) _ _ hi).bd (fun t => w8 t) fun t t' r r' _ _ ht hr =>
    (expP_rl hM _ _ _ hr).bd (fun _ => w7 t) fun _ _ r r' _ _ _ hr =>
    (listP_rl hM paramP_wg paramP_Lt paramP_Lt (paramP_rl hM) _ _ hr).bd (fun ps => w6 t ps) fun ps ps' r r' _ _ hps hr =>
    (expP_rl hM _ _ _ hr).bd (fun _ => w5 t ps) fun _ _ r r' _ _ _ hr =>
    (namedP_rl hM _ _ _ hr).bd (fun o => w4 t ps o) fun o o' r r' _ _ ho hr =>
    (colonP_rl hM kind _ _ hr).bd (fun n => w3 t ps o n) fun n n' r r' _ _ hn hr =>
    (expP_rl hM _ _ _ hr).bd (fun _ => w2 t ps o n) fun _ _ r r' _ _ _ hr =>
    (expr_rl hM 64 _ _ hr).bd (fun e => w1 t ps o n e) fun e e' r r' _ _ he hr =>
    (expP_rl hM _ _ _ hr).bd (fun _ => Wg.ret _) fun _ _ r r' _ _ _ hr => Ou.ret hr (ndE rfl ht.2.1 hn ((hps.app (LsE.one ho)).app (LsE.one he)))
theorem latD_rl (a a' kind : Int) (s : Bs) : Rl M NdE (latD a kind s) (latD a' kind s) := fun ts ts' hi =>
  (takeP_rl hM (by decide) _ _ hi).bd (fun _ => (expP_wg _).bnd fun _ => (levL_wg 64).bnd fun _ => (expP_wg _).bnd fun _ => Wg.ret _) fun t t' r r' _ _ ht hr =>
  (expP_rl hM _ _ _ hr).bd (fun _ => (levL_wg 64).bnd fun _ => (expP_wg _).bnd fun _ => Wg.ret _) fun _ _ r r' _ _ _ hr =>
  ((levL_rl hM 64).1 _ _ hr).bd (fun _ => (expP_wg _).bnd fun _ => Wg.ret _) fun x x' r r' _ _ hx hr =>
  (expP_rl hM _ _ _ hr).bd (fun _ => Wg.ret _) fun _ _ r r' _ _ _ hr => Ou.ret hr (ndE rfl ht.2.1 rfl (LsE.one hx))
omit hM in
theorem declP_end {ts : List Tk} (h : (hd ts).kind = 6) : declP ts = .error (2, (hd ts).at_) := by
  have n : ∀ s, ¬ isB s ts = true := fun s e => isB_kind e h
  unfold declP
  rw [if_neg (n _), if_neg (n _), if_neg (n _), if_neg (n _)]
theorem declP_rl : Rl M NdE declP declP := fun ts ts' hi => by
  rcases hi.both hM with hs | ⟨h0, h6, h'⟩
  · have e : ∀ s, isB s ts' = true ↔ isB s ts = true := fun s => by rw [isB_iff, isB_iff, hs.1, hs.2.1]
    unfold declP
    refine Ou.ite (e _) (fun e => Ou.tl hM hi (isB_kind e) (latD_wg _ _ _ _) fun hi' => latD_rl hM _ _ _ _ _ _ hi') fun _ => ?_
    refine Ou.ite (e _) (fun e => Ou.tl hM hi (isB_kind e) (latD_wg _ _ _ _) fun hi' => latD_rl hM _ _ _ _ _ _ hi') fun _ => ?_
    refine Ou.ite (e _) (fun e => Ou.tl hM hi (isB_kind e) (funcP_wg _ _ _) fun hi' => funcP_rl hM _ _ _ _ _ hi') fun _ => ?_
    exact Ou.ite (e _) (fun e => Ou.tl hM hi (isB_kind e) (funcP_wg _ _ _) fun hi' => funcP_rl hM _ _ _ _ _ hi') fun _ => Ou.err hi
  · rw [declP_end h6]; exact Ou.kx h0
theorem progF_rl (hk : ¬ M.kx) : ∀ (f f' : Nat) (l l' : List Nd) (ts ts' : List Tk), ts.length ≤ f → ts'.length ≤ f' → LsE l l' → In M ts ts' → Ou M LsE (progF f l ts) (progF f' l' ts')
  | 0, _, n, n', ts, ts', hf, _, _, hi => by have := (hi.len hM).1; omega
  | _ + 1, 0, n, n', ts, ts', _, hf, _, hi => by have := (hi.len hM).2; omega
  | f + 1, f' + 1, l, l', ts, ts', hf, hf', hn, hi => by
    simp only [progF]
    have hs : tkE (hd ts) (hd ts') := by
      rcases hi.both hM with h | ⟨h, _⟩
      · exact h
      · exact absurd h hk
    have hl := hi.len hM
    refine Ou.ite (by rw [hs.1]) (fun _ => Ou.val hi hn) fun _ => (declP_rl hM _ _ hi).bd (fun d => progF_wg f _) fun d d' r r' e1 e2 hd hr => ?_
    have := declP_lt e1 (List.length_pos_iff.1 hl.1)
    have := declP_lt e2 (List.length_pos_iff.1 hl.2)
    exact progF_rl hk f f' _ _ r r' (by omega) (by omega) (hn.app (LsE.one hd)) hr
theorem progP_rl (hk : ¬ M.kx) : Rl M NdE progP progP := fun ts ts' hi => by
  unfold progP
  exact (progF_rl hM hk _ _ _ _ ts ts' (Nat.le_succ _) (Nat.le_succ _) LsE.nil hi).bd (fun _ => Wg.ret _) fun l l' r r' _ _ hl hr => Ou.ret hr (ndE rfl rfl rfl hl)
end
end Go.Proofs.YtbgjgaaobnbijaaDoor
end
section
/- Same, spellings, Text: contracts of the program. -/
set_option linter.unusedSimpArgs false
set_option linter.unusedVariables false
set_option maxRecDepth 8000
namespace Go.Proofs.YtbgjgaaobnbijaaDoor
open Gx Go

def tkEq (o : Bool) (x y : Tk) : Bool := decide (x.kind = y.kind) && (decide (x.text = y.text) && (decide (x.n = y.n) && (!o || decide (x.at_ = y.at_))))
def sameT (o : Bool) : List Tk → List Tk → Bool
  | [], [] => true
  | x :: xs, y :: ys => tkEq o x y && sameT o xs ys
  | _, _ => false
theorem sameT_len {o : Bool} : ∀ {a b : List Tk}, sameT o a b = true → a.length = b.length
  | [], [], _ => rfl
  | x :: xs, y :: ys, h => by
    simp only [sameT, Bool.and_eq_true] at h
    simp [sameT_len h.2]
  | [], _ :: _, h => by simp [sameT] at h
  | _ :: _, [], h => by simp [sameT] at h
theorem sameT_drop {o : Bool} {a b : List Tk} {i : Nat} (ha : i < a.length) (hb : i < b.length) : sameT o (a.drop i) (b.drop i) = (tkEq o a[i] b[i] && sameT o (a.drop (i + 1)) (b.drop (i + 1))) := by
  rw [List.drop_eq_getElem_cons ha, List.drop_eq_getElem_cons hb]; rfl
theorem rowT_at {H : Heap} {a : Option Addr} {l : List Tk} (h : RowR tkC H a l) (j : Nat) (hj : j < l.length) :
    ∃ b o, a = some ⟨b, o, none⟩ ∧ cellB H b (o + j * 4) = some (.int .i64 l[j].kind) ∧ cellB H b (o + j * 4 + 1) = some (sv l[j].text) ∧ cellB H b (o + j * 4 + 2) = some (.int .i64 l[j].n) ∧ cellB H b (o + j * 4 + 3) = some (.int .i64 l[j].at_) := by
  obtain ⟨b, o, h1, h2⟩ := RowR.get h tkC_len j hj (by decide)
  exact ⟨b, o, h1, h2 0 (by decide), h2 1 (by decide), h2 2 (by decide), h2 3 (by decide)⟩


/-! ### spellings -/
def spT (t : Tk) : Bs := if t.kind = 3 then Lib.itoa t.n else if t.kind = 4 then 39 :: (t.text ++ [39]) else if t.kind = 6 then [] else t.text
def poB (t : Tk) : Bool :=
  (decide (t.kind = 3) || decide (t.n = 0)) && (if t.kind = 1 then validN t.text && !kwB t.text else if t.kind = 2 then kwB t.text else if t.kind = 3 then decide (t.text = []) && (decide (0 ≤ t.n) && decide (t.n ≤ 1000000000000000))
    else if t.kind = 4 then validN t.text else if t.kind = 5 then signB t.text else if t.kind = 6 then decide (t.text = []) else false)

set_option maxHeartbeats 4000000 in
theorem spelling_ok (t : Tk) (hn : -9223372036854775808 ≤ t.n ∧ t.n ≤ 9223372036854775807) (ht : t.text.length ≤ 1000000000000) {H : Heap} (hg : GlobH H) :
    HCalls Tryd.prog 31 #[tkV t] H fun r H' => (∃ s, r = .tuple #[s, .bool (poB t)] ∧ (poB t = true → s = sv (spT t))) ∧ Fr [] H H' := by
  refine calls_of_vc (args := [_]) Tryd.func31 c31ok (Nat.le_of_ble_eq_true rfl) ?_
  unfold tkV sv
  simp (implicitDefEqProofs := false) only [go_sem, c31]
  refine NewP_intro fun H1 hb1 hf1 hs1 => ?_
  have hc1 := hb1.cell
  generalize hx1 : H.size = x1 at *
  have hg1 := hg.ext hf1
  by_cases k3 : t.kind = 3
  · rw [show poB t = (decide (t.text = []) && (decide (0 ≤ t.n) && decide (t.n ≤ 1000000000000000))) by simp [poB, k3]]
    rw [show spT t = Lib.itoa t.n by simp [spT, k3]]
    simp (implicitDefEqProofs := false) only [go_sem, hc1, k3]
    refine (formatInt_ok hn.1 hn.2 hg1).mono ?_
    rintro r H2 ⟨rfl, hf2⟩
    have hc2 := (hb1.ext hf2).cell
    by_cases e1 : t.text = []
    · by_cases e2 : 0 ≤ t.n
      · simp (implicitDefEqProofs := false) only [go_sem, hc2, hc1, k3, ba_eq, e1, e2]
        first | exact ⟨⟨_, rfl, fun _ => rfl⟩, hf1.trans hf2⟩ | exact ⟨⟨_, rfl⟩, hf1.trans hf2⟩
      · simp (implicitDefEqProofs := false) only [go_sem, hc2, hc1, k3, ba_eq, e1, e2]
        first | exact ⟨⟨_, rfl, fun _ => rfl⟩, hf1.trans hf2⟩ | exact ⟨⟨_, rfl⟩, hf1.trans hf2⟩
    · simp (implicitDefEqProofs := false) only [go_sem, hc2, hc1, k3, ba_eq, e1]
      first | exact ⟨⟨_, rfl, fun _ => rfl⟩, hf1.trans hf2⟩ | exact ⟨⟨_, rfl⟩, hf1.trans hf2⟩
  by_cases n0 : t.n = 0
  case neg =>
    rw [show poB t = false by simp [poB, k3, n0]]
    simp (implicitDefEqProofs := false) only [go_sem, hc1, k3, n0]
    first | exact ⟨⟨_, rfl, fun h => by cases h⟩, hf1⟩ | exact ⟨⟨_, rfl⟩, hf1⟩
  by_cases k1 : t.kind = 1
  · rw [show poB t = (validN t.text && !kwB t.text) by simp [poB, n0, k1], show spT t = t.text by simp [spT, k1]]
    simp (implicitDefEqProofs := false) only [go_sem, hc1, k3, n0, k1]
    refine (valid_ok t.text H1).mono ?_
    rintro r H2 ⟨rfl, hEq⟩
    obtain rfl := hEq.symm
    cases e1 : validN t.text
    · simp (implicitDefEqProofs := false) only [go_sem, hc1, k3, n0, k1]
      first | exact ⟨⟨_, rfl, fun h => by cases h⟩, hf1⟩ | exact ⟨⟨_, rfl⟩, hf1⟩
    · simp (implicitDefEqProofs := false) only [go_sem, hc1, k3, n0, k1]
      refine (keyword_ok t.text H1).mono ?_
      rintro r H3 ⟨rfl, hf3⟩
      have hc3 := (hb1.ext hf3).cell
      simp (implicitDefEqProofs := false) only [go_sem, hc1, hc3, k3, n0, k1]
      first | exact ⟨⟨_, rfl, fun _ => rfl⟩, hf1.trans hf3⟩ | exact ⟨⟨_, rfl⟩, hf1.trans hf3⟩
  by_cases k2 : t.kind = 2
  · rw [show poB t = kwB t.text by simp [poB, n0, k2], show spT t = t.text by simp [spT, k2]]
    simp (implicitDefEqProofs := false) only [go_sem, hc1, k3, n0, k1, k2]
    refine (keyword_ok t.text H1).mono ?_
    rintro r H3 ⟨rfl, hf3⟩
    have hc3 := (hb1.ext hf3).cell
    simp (implicitDefEqProofs := false) only [go_sem, hc1, hc3, k3, n0, k1, k2]
    first | exact ⟨⟨_, rfl, fun _ => rfl⟩, hf1.trans hf3⟩ | exact ⟨⟨_, rfl⟩, hf1.trans hf3⟩
  by_cases k4 : t.kind = 4
  · rw [show poB t = validN t.text by simp [poB, n0, k4], show spT t = 39 :: (t.text ++ [39]) by simp [spT, k4]]
    have z1 : (1 : Nat) + t.text.length ≤ 9223372036854775807 := by omega
    have z2 : (1 : Nat) + t.text.length + 1 ≤ 9223372036854775807 := by omega
    simp (implicitDefEqProofs := false) only [go_sem, hc1, k3, n0, k1, k2, k4, ba_size]
    refine ⟨by omega, by omega, (valid_ok t.text H1).mono ?_⟩
    rintro r H2 ⟨rfl, hEq⟩
    obtain rfl := hEq.symm
    simp (implicitDefEqProofs := false) only [go_sem, hc1, k3, n0, k1, k2, k4, ba_app]
    first | exact ⟨⟨_, rfl, fun _ => rfl⟩, hf1⟩ | exact ⟨⟨_, rfl⟩, hf1⟩
  by_cases k5 : t.kind = 5
  · rw [show poB t = signB t.text by simp [poB, n0, k5], show spT t = t.text by simp [spT, k5]]
    simp (implicitDefEqProofs := false) only [go_sem, hc1, k3, n0, k1, k2, k4, k5]
    refine (sign_ok t.text H1).mono ?_
    rintro r H3 ⟨rfl, hf3⟩
    have hc3 := (hb1.ext hf3).cell
    simp (implicitDefEqProofs := false) only [go_sem, hc1, hc3, k3, n0, k1, k2, k4, k5]
    first | exact ⟨⟨_, rfl, fun _ => rfl⟩, hf1.trans hf3⟩ | exact ⟨⟨_, rfl⟩, hf1.trans hf3⟩
  by_cases k6 : t.kind = 6
  · rw [show poB t = decide (t.text = []) by simp [poB, n0, k6], show spT t = [] by simp [spT, k6]]
    simp (implicitDefEqProofs := false) only [go_sem, hc1, k3, n0, k1, k2, k4, k5, k6, ba_eq]
    first | exact ⟨⟨_, rfl, fun _ => rfl⟩, hf1⟩ | exact ⟨⟨_, rfl⟩, hf1⟩
  · rw [show poB t = false by simp [poB, n0, k1, k2, k3, k4, k5, k6]]
    simp (implicitDefEqProofs := false) only [go_sem, hc1, k3, n0, k1, k2, k4, k5, k6]
    first | exact ⟨⟨_, rfl, fun h => by cases h⟩, hf1⟩ | exact ⟨⟨_, rfl⟩, hf1⟩
end Go.Proofs.YtbgjgaaobnbijaaDoor
end
