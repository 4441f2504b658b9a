/- Lattices: the contract. -/
import Derived.Test.YtbgjgaaobnbijaaDoorPj
set_option linter.unusedSimpArgs false
set_option linter.unusedVariables false
set_option maxRecDepth 8000
namespace Go.Proofs.YtbgjgaaobnbijaaDoor
open Gx Go
section
variable {X : Cx} {H0 H H' : Heap} {ts0 ts r : List Tk} {k0 k : Nat} {l : List Ent} {ds : List (Dat × List Value)} {γ : Type} {P0 : Except Flt (γ × List Tk)} {Q : Value → Heap → Prop}
theorem two_go {g : Nat} {p : PP Nd} {G : List Nd → PP γ} (hg : hasBody Tryd.prog g = true) (hop : POk k g [] p NdR) (h0 : Ps X H0 ts0 k0) (L : PLv X H0 ts k H l ds) (hp : P0 = bd (twoP p) G ts)
    (hR : ∀ ns a c gb r H', PLv X H0 r k H' (.row 24 5 (.slice a ns.length c) (ns.map Nd.dat) gb :: l) ds → P0 = G ns r → Q (.slice a ns.length c) H') : PCalls Tryd.prog 66 #[ptr X.b, .func (.func g) #[ptr X.b] #[]] H Q (PEr X H0 P0) :=
  PCalls.mono (two_ok hg hop L.ps) (fun v H' ⟨ns, r, he, ⟨gb, h1, h2⟩, hs, hf⟩ => by
    obtain ⟨a, c, hv, _⟩ := h1.slice
    rw [List.length_map] at hv
    subst hv
    exact hR ns a c gb r H' (L.callRow hf (fun M H'' hf' hM => Ps.on h0 hs hf' fun x hx => (hM x hx).1) h1 h2) (by rw [hp, bd_ok he])) fun ch H' ⟨e, h1, h2, h3⟩ => ⟨e, by rw [hp, bd_err h1], h2, L.fr.trans h3⟩
end
theorem memP_eq (x : PP Nd) : memP x = bd (namedP 22) (fun n => match n with | .mk kk tt nn aa ks => bd (expP [58]) fun _ => bd x fun y => ret (.mk kk tt nn aa [y])) := by
  funext ts
  unfold memP namedP
  rw [bd_bd]; rfl
theorem allowedP_len {ns : List Nd} {ts r : List Tk} (h : allowedP ts = .ok (ns, r)) : ns.length + r.length ≤ ts.length := by
  unfold allowedP bd at h
  split at h
  · split at h
    · cases h
    · rename_i a q hq
      have h1 := quotesP_len hq
      simp only [List.length_tail] at h1
      replace h : bd (expP [41]) (fun _ => ret a) q = .ok (ns, r) := h
      cases hq2 : expP [41] q with
      | error e => rw [bd_err hq2] at h; cases h
      | ok x =>
        have h2 := (expP_dn [41]).of (a := x.1) (r := x.2) hq2
        rw [bd_ok (a := x.1) (r := x.2) hq2] at h
        simp only [ret, Except.ok.injEq, Prod.mk.injEq] at h
        obtain ⟨rfl, rfl⟩ := h
        omega
  · cases h; simp
theorem lo_0' : loL 0 = none := rfl
theorem lo_s' (j : Nat) : ∃ x, loL (j + 1) = some x := ⟨_, rfl⟩

set_option maxHeartbeats 2000000 in
theorem lattice_ok {k : Nat} (hlat : ∀ j, k = j + 1 → POk j 44 [] (levL j) NdR) : POk k 44 [] (latP (loL k)) NdR := by
  refine ⟨fun {X H ts} hs => ?_⟩
  refine pcalls_of_vc (args := [_]) Tryd.func44 c44ok (Nat.le_of_ble_eq_true rfl) ?_
  have L := hs.walk
  obtain ⟨hp, _⟩ : latP (loL k) ts = latP (loL k) ts ∧ True := ⟨rfl, trivial⟩
  conv at hp => rhs; unfold latP
  simp (implicitDefEqProofs := false) only [go_sem, c44]
  refine L.newP fun b1 H1 L => ?_
  simp (implicitDefEqProofs := false) only [go_sem]
  refine look_go L fun H2 L => ?_
  simp (implicitDefEqProofs := false) only [go_sem, tkC]
  refine L.newP fun b2 H3 L => ?_
  simp (implicitDefEqProofs := false) only [go_sem]
  refine L.stoAll 0 rfl rfl (one4' (hd ts)) fun H4 L => ?_
  simp only [List.set_cons_zero, List.set_cons_succ, List.set_nil, List.eraseIdx_cons_zero, List.eraseIdx_cons_succ] at L
  have c := L.cell 0 rfl
  simp (implicitDefEqProofs := false) only [go_sem, c]
  refine L.newP fun b3 H5 L => ?_
  simp (implicitDefEqProofs := false) only [go_sem]
  refine L.stoAll 0 rfl rfl (one_agg (t := []) rfl) fun H6 L => ?_
  simp only [List.set_cons_zero, List.set_cons_succ, List.set_nil, List.eraseIdx_cons_zero, List.eraseIdx_cons_succ] at L
  have c := L.cell 1 rfl
  by_cases k1 : (hd ts).kind = 1
  · rw [if_pos k1] at hp
    simp (implicitDefEqProofs := false) only [go_sem, c, k1]
    refine (named_ok 21).goL hs L hp fun kk tt nn aa ks kv r H5 L hp => ?_
    simp (implicitDefEqProofs := false) only [go_sem]
    refine L.stoAll 2 rfl rfl (one_agg (L.one (ks := ks) (by simp))) fun HZ L => ?_
    simp only [List.set_cons_zero, List.set_cons_succ, List.set_nil, List.eraseIdx_cons_zero, List.eraseIdx_cons_succ] at L
    have c := L.cell 2 rfl
    simp (implicitDefEqProofs := false) only [go_sem, c]
    exact L.fin hp (.inl (by simp))
  rw [if_neg k1] at hp
  simp (implicitDefEqProofs := false) only [go_sem, c, k1]
  refine accept_go hs L [102, 108, 97, 103] (fun e H7 L => ?_) fun e H7 L => ?_
  · rw [if_pos e] at hp
    simp (implicitDefEqProofs := false) only [go_sem]
    refine L.stoOne 0 rfl (by simp) rfl fun H8 L => ?_
    simp only [List.set_cons_zero, List.set_cons_succ, List.set_nil, List.eraseIdx_cons_zero, List.eraseIdx_cons_succ] at L
    simp (implicitDefEqProofs := false) only [go_sem]
    have c := L.cell 0 rfl
    simp (implicitDefEqProofs := false) only [go_sem, c]
    refine L.stoAll 2 rfl rfl (one_agg (t := []) rfl) fun HZ L => ?_
    simp only [List.set_cons_zero, List.set_cons_succ, List.set_nil, List.eraseIdx_cons_zero, List.eraseIdx_cons_succ] at L
    have c := L.cell 2 rfl
    simp (implicitDefEqProofs := false) only [go_sem, c]
    exact L.fin hp (.inr ⟨rfl, rfl⟩)
  rw [if_neg (nb e)] at hp
  simp (implicitDefEqProofs := false) only [go_sem]
  refine accept_go hs L [114, 101, 103, 105, 115, 116, 101, 114] (fun e H7 L => ?_) fun e H7 L => ?_
  · rw [if_pos e] at hp
    simp (implicitDefEqProofs := false) only [go_sem]
    refine L.stoOne 0 rfl (by simp) rfl fun H8 L => ?_
    simp only [List.set_cons_zero, List.set_cons_succ, List.set_nil, List.eraseIdx_cons_zero, List.eraseIdx_cons_succ] at L
    simp (implicitDefEqProofs := false) only [go_sem]
    have c := L.cell 0 rfl
    simp (implicitDefEqProofs := false) only [go_sem, c]
    refine L.stoAll 2 rfl rfl (one_agg (t := []) rfl) fun HZ L => ?_
    simp only [List.set_cons_zero, List.set_cons_succ, List.set_nil, List.eraseIdx_cons_zero, List.eraseIdx_cons_succ] at L
    have c := L.cell 2 rfl
    simp (implicitDefEqProofs := false) only [go_sem, c]
    exact L.fin hp (.inr ⟨rfl, rfl⟩)
  rw [if_neg (nb e)] at hp
  simp (implicitDefEqProofs := false) only [go_sem]
  refine accept_go hs L [115, 101, 116] (fun e H7 L => ?_) fun e H7 L => ?_
  · rw [if_pos e] at hp
    simp (implicitDefEqProofs := false) only [go_sem]
    refine allowed_ok.goR hs L hp fun ns a cw gb r H8 L hp _ => ?_
    simp (implicitDefEqProofs := false) only [go_sem]
    refine L.stoOne 1 rfl (by simp) rfl fun HA L => ?_
    simp only [List.set_cons_zero, List.set_cons_succ, List.set_nil, List.eraseIdx_cons_zero, List.eraseIdx_cons_succ] at L
    simp (implicitDefEqProofs := false) only [go_sem]
    refine L.stoOne 1 rfl (by simp) rfl fun HB L => ?_
    simp only [List.set_cons_zero, List.set_cons_succ, List.set_nil, List.eraseIdx_cons_zero, List.eraseIdx_cons_succ] at L
    have L := L.rowN 0 ns rfl
    simp only [List.set_cons_zero, List.set_cons_succ, List.set_nil, List.eraseIdx_cons_zero, List.eraseIdx_cons_succ] at L
    simp (implicitDefEqProofs := false) only [go_sem]
    have c := L.cell 0 rfl
    simp (implicitDefEqProofs := false) only [go_sem, c]
    refine L.stoAll 2 rfl rfl (one_agg (t := []) rfl) fun HZ L => ?_
    simp only [List.set_cons_zero, List.set_cons_succ, List.set_nil, List.eraseIdx_cons_zero, List.eraseIdx_cons_succ] at L
    have c := L.cell 2 rfl
    simp (implicitDefEqProofs := false) only [go_sem, c]
    exact L.fin hp (.inl (by simp))
  rw [if_neg (nb e)] at hp
  simp (implicitDefEqProofs := false) only [go_sem]
  refine accept_go hs L [102, 108, 97, 116] (fun e H7 L => ?_) fun e H7 L => ?_
  · rw [if_pos e] at hp
    simp (implicitDefEqProofs := false) only [go_sem]
    refine allowed_ok.goR hs L hp fun ns a cw gb r H8 L hp _ => ?_
    simp (implicitDefEqProofs := false) only [go_sem]
    refine L.stoOne 1 rfl (by simp) rfl fun HA L => ?_
    simp only [List.set_cons_zero, List.set_cons_succ, List.set_nil, List.eraseIdx_cons_zero, List.eraseIdx_cons_succ] at L
    simp (implicitDefEqProofs := false) only [go_sem]
    refine L.stoOne 1 rfl (by simp) rfl fun HB L => ?_
    simp only [List.set_cons_zero, List.set_cons_succ, List.set_nil, List.eraseIdx_cons_zero, List.eraseIdx_cons_succ] at L
    have L := L.rowN 0 ns rfl
    simp only [List.set_cons_zero, List.set_cons_succ, List.set_nil, List.eraseIdx_cons_zero, List.eraseIdx_cons_succ] at L
    simp (implicitDefEqProofs := false) only [go_sem]
    have c := L.cell 0 rfl
    simp (implicitDefEqProofs := false) only [go_sem, c]
    refine L.stoAll 2 rfl rfl (one_agg (t := []) rfl) fun HZ L => ?_
    simp only [List.set_cons_zero, List.set_cons_succ, List.set_nil, List.eraseIdx_cons_zero, List.eraseIdx_cons_succ] at L
    have c := L.cell 2 rfl
    simp (implicitDefEqProofs := false) only [go_sem, c]
    exact L.fin hp (.inl (by simp))
  rw [if_neg (nb e)] at hp
  simp (implicitDefEqProofs := false) only [go_sem]
  refine is_go L [109, 97, 112] fun H7 L => ?_
  cases e : isB [109, 97, 112] ts with
  | true =>
    rw [if_pos e] at hp
    simp (implicitDefEqProofs := false) only [go_sem]
    refine enter_go (lo := loL) hs L lo_0' lo_s' hp fun j x H8 hj hx L _ hp => ?_
    cases hx
    simp (implicitDefEqProofs := false) only [go_sem]
    have hlen := L.len
    refine allowed_ok.goR hs L hp fun ns a cw gb r H8 L hp he => ?_
    have hlen2 := allowedP_len he
    have hlen3 := List.length_pos_iff.2 L.ps.nil
    simp (implicitDefEqProofs := false) only [go_sem]
    refine L.stoOne 1 rfl (by simp) rfl fun HA L => ?_
    simp only [List.set_cons_zero, List.set_cons_succ, List.set_nil, List.eraseIdx_cons_zero, List.eraseIdx_cons_succ] at L
    simp (implicitDefEqProofs := false) only [go_sem]
    refine L.stoOne 1 rfl (by simp) rfl fun HB L => ?_
    simp only [List.set_cons_zero, List.set_cons_succ, List.set_nil, List.eraseIdx_cons_zero, List.eraseIdx_cons_succ] at L
    have c := L.cell 1 rfl
    simp (implicitDefEqProofs := false) only [go_sem, c]
    refine (hlat j hj).goN hs L hp fun kk tt nn aa ks kv r H9 L hp _ => ?_
    have c := L.cell 1 rfl
    simp (implicitDefEqProofs := false) only [go_sem, c]
    refine L.newS fun b4 H10 L => ?_
    have c := L.cell 2 rfl
    simp (implicitDefEqProofs := false) only [go_sem, c]
    refine L.appN (ns := ns) (ks := ks) 0 rfl (by simp) (by omega) fun a c g' H11 L => ?_
    simp only [List.set_cons_zero, List.set_cons_succ, List.set_nil, List.eraseIdx_cons_zero, List.eraseIdx_cons_succ] at L
    simp (implicitDefEqProofs := false) only [go_sem]
    refine L.stoOne 1 rfl (by simp) rfl fun H12 L => ?_
    simp only [List.set_cons_zero, List.set_cons_succ, List.set_nil, List.eraseIdx_cons_zero, List.eraseIdx_cons_succ] at L
    have L := L.rowN 0 (ns ++ [.mk kk tt nn aa ks]) rfl
    simp only [List.set_cons_zero, List.set_cons_succ, List.set_nil, List.eraseIdx_cons_zero, List.eraseIdx_cons_succ] at L
    simp (implicitDefEqProofs := false) only [go_sem]
    refine leave_go hs L hj hs.k64 fun _ H13 L => ?_
    have c := L.cell 0 rfl
    simp (implicitDefEqProofs := false) only [go_sem, c]
    refine L.stoAll 2 rfl rfl (one_agg (t := []) rfl) fun HZ L => ?_
    simp only [List.set_cons_zero, List.set_cons_succ, List.set_nil, List.eraseIdx_cons_zero, List.eraseIdx_cons_succ] at L
    have c := L.cell 2 rfl
    simp (implicitDefEqProofs := false) only [go_sem, c]
    exact L.fin hp (.inl (by simp))
  | false =>
  rw [if_neg (nb e)] at hp
  simp (implicitDefEqProofs := false) only [go_sem]
  refine accept_go hs L [109, 97, 120] (fun e H7 L => ?_) fun e H7 L => ?_
  · rw [if_pos e] at hp
    simp (implicitDefEqProofs := false) only [go_sem]
    refine two_go (by kernel_rfl) integer_ok hs L hp fun ns a cw gb r H8 L hp => ?_
    simp (implicitDefEqProofs := false) only [go_sem]
    refine L.stoOne 1 rfl (by simp) rfl fun HA L => ?_
    simp only [List.set_cons_zero, List.set_cons_succ, List.set_nil, List.eraseIdx_cons_zero, List.eraseIdx_cons_succ] at L
    simp (implicitDefEqProofs := false) only [go_sem]
    refine L.stoOne 1 rfl (by simp) rfl fun HB L => ?_
    simp only [List.set_cons_zero, List.set_cons_succ, List.set_nil, List.eraseIdx_cons_zero, List.eraseIdx_cons_succ] at L
    have L := L.rowN 0 ns rfl
    simp only [List.set_cons_zero, List.set_cons_succ, List.set_nil, List.eraseIdx_cons_zero, List.eraseIdx_cons_succ] at L
    simp (implicitDefEqProofs := false) only [go_sem]
    have c := L.cell 0 rfl
    simp (implicitDefEqProofs := false) only [go_sem, c]
    refine L.stoAll 2 rfl rfl (one_agg (t := []) rfl) fun HZ L => ?_
    simp only [List.set_cons_zero, List.set_cons_succ, List.set_nil, List.eraseIdx_cons_zero, List.eraseIdx_cons_succ] at L
    have c := L.cell 2 rfl
    simp (implicitDefEqProofs := false) only [go_sem, c]
    exact L.fin hp (.inl (by simp))
  rw [if_neg (nb e)] at hp
  simp (implicitDefEqProofs := false) only [go_sem]
  refine accept_go hs L [109, 105, 110] (fun e H7 L => ?_) fun e H7 L => ?_
  · rw [if_pos e] at hp
    simp (implicitDefEqProofs := false) only [go_sem]
    refine two_go (by kernel_rfl) integer_ok hs L hp fun ns a cw gb r H8 L hp => ?_
    simp (implicitDefEqProofs := false) only [go_sem]
    refine L.stoOne 1 rfl (by simp) rfl fun HA L => ?_
    simp only [List.set_cons_zero, List.set_cons_succ, List.set_nil, List.eraseIdx_cons_zero, List.eraseIdx_cons_succ] at L
    simp (implicitDefEqProofs := false) only [go_sem]
    refine L.stoOne 1 rfl (by simp) rfl fun HB L => ?_
    simp only [List.set_cons_zero, List.set_cons_succ, List.set_nil, List.eraseIdx_cons_zero, List.eraseIdx_cons_succ] at L
    have L := L.rowN 0 ns rfl
    simp only [List.set_cons_zero, List.set_cons_succ, List.set_nil, List.eraseIdx_cons_zero, List.eraseIdx_cons_succ] at L
    simp (implicitDefEqProofs := false) only [go_sem]
    have c := L.cell 0 rfl
    simp (implicitDefEqProofs := false) only [go_sem, c]
    refine L.stoAll 2 rfl rfl (one_agg (t := []) rfl) fun HZ L => ?_
    simp only [List.set_cons_zero, List.set_cons_succ, List.set_nil, List.eraseIdx_cons_zero, List.eraseIdx_cons_succ] at L
    have c := L.cell 2 rfl
    simp (implicitDefEqProofs := false) only [go_sem, c]
    exact L.fin hp (.inl (by simp))
  rw [if_neg (nb e)] at hp
  simp (implicitDefEqProofs := false) only [go_sem]
  refine is_go L [108, 101, 120] fun H7 L => ?_
  cases e : isB [108, 101, 120] ts with
  | true =>
    rw [if_pos e] at hp
    simp (implicitDefEqProofs := false) only [go_sem]
    refine enter_go (lo := loL) hs L lo_0' lo_s' hp fun j x H8 hj hx L _ hp => ?_
    cases hx
    simp (implicitDefEqProofs := false) only [go_sem]
    refine two_go (by kernel_rfl) (hlat j hj) hs L hp fun ns a cw gb r H8 L hp => ?_
    simp (implicitDefEqProofs := false) only [go_sem]
    refine L.stoOne 1 rfl (by simp) rfl fun HA L => ?_
    simp only [List.set_cons_zero, List.set_cons_succ, List.set_nil, List.eraseIdx_cons_zero, List.eraseIdx_cons_succ] at L
    simp (implicitDefEqProofs := false) only [go_sem]
    refine L.stoOne 1 rfl (by simp) rfl fun HB L => ?_
    simp only [List.set_cons_zero, List.set_cons_succ, List.set_nil, List.eraseIdx_cons_zero, List.eraseIdx_cons_succ] at L
    have L := L.rowN 0 ns rfl
    simp only [List.set_cons_zero, List.set_cons_succ, List.set_nil, List.eraseIdx_cons_zero, List.eraseIdx_cons_succ] at L
    simp (implicitDefEqProofs := false) only [go_sem]
    refine leave_go hs L hj hs.k64 fun _ H13 L => ?_
    have c := L.cell 0 rfl
    simp (implicitDefEqProofs := false) only [go_sem, c]
    refine L.stoAll 2 rfl rfl (one_agg (t := []) rfl) fun HZ L => ?_
    simp only [List.set_cons_zero, List.set_cons_succ, List.set_nil, List.eraseIdx_cons_zero, List.eraseIdx_cons_succ] at L
    have c := L.cell 2 rfl
    simp (implicitDefEqProofs := false) only [go_sem, c]
    exact L.fin hp (.inl (by simp))
  | false =>
  rw [if_neg (nb e)] at hp
  simp (implicitDefEqProofs := false) only [go_sem]
  refine is_go L [123] fun H7 L => ?_
  cases e : isB [123] ts with
  | true =>
    rw [if_pos e] at hp
    simp (implicitDefEqProofs := false) only [go_sem]
    refine enter_go (lo := loL) hs L lo_0' lo_s' hp fun j x H8 hj hx L _ hp => ?_
    cases hx
    have hlen := L.len
    have hdn := memP_dn (levL_dn j)
    have L := L.row0 24 5
    obtain ⟨cur0, hcur0⟩ : ∃ cur, cur = ts.tail := ⟨_, rfl⟩
    rw [← hcur0] at L hp hlen
    have hp : latP (loL k) ts = bd (memF (levL j) (cur0.length + 1) []) (fun l => bd (expP [125]) fun _ => ret (.mk 15 [] 0 (hd ts).at_ l)) cur0 := by
      rw [hp]
      have e : memsP (levL j) cur0 = bd (memF (levL j) (cur0.length + 1) []) (fun l => bd (expP [125]) fun _ => ret l) cur0 := rfl
      unfold bd at e ⊢
      rw [e]
      cases memF (levL j) (cur0.length + 1) [] cur0 with
      | error e => rfl
      | ok x =>
        simp only
        cases expP [125] x.2 <;> rfl
    simp (implicitDefEqProofs := false) only [go_sem]
    refine L.stoOne 1 rfl (by simp) rfl fun H9 L => ?_
    simp only [List.set_cons_zero, List.set_cons_succ, List.set_nil, List.eraseIdx_cons_zero, List.eraseIdx_cons_succ] at L
    simp (implicitDefEqProofs := false) only [go_sem]
    refine vc_loop (fun (s : Bool × List Tk × List Nd × Value) H' => ∃ g f, PLv X H s.2.1 j H' [.row 24 5 s.2.2.2 (s.2.2.1.map Nd.dat) g, .blk b3 24 [.int .i64 15, sv [], .int .i64 0, .int .i64 (hd ts).at_, s.2.2.2], .blk b2 39 (tkC (hd ts)), .blk b1 24 [.int .i64 0, sv [], .int .i64 0, .int .i64 0, .slice none 0 0]] [] ∧ (∃ a n c, s.2.2.2 = .slice a n c) ∧
      (s.1 = true → latP (loL k) ts = bd (memF (levL j) (f + 1) s.2.2.1) (fun l => bd (expP [125]) fun _ => ret (.mk 15 [] 0 (hd ts).at_ l)) s.2.1 ∧ s.2.1.length ≤ f ∧ s.2.2.1.length + s.2.1.length ≤ 1048576) ∧
      (s.1 = false → latP (loL k) ts = bd (expP [125]) (fun _ => ret (Nd.mk 15 [] 0 (hd ts).at_ s.2.2.1)) s.2.1))
      (fun s => [(0, ptr X.b), (2, .pointer (some ⟨b1, 0, none⟩)), (3, .pointer (some ⟨b2, 0, none⟩)), (4, .pointer (some ⟨b3, 0, none⟩)), (5, .bool s.1)]) (fun s => if s.1 then s.2.1.length + 1 else 0) (true, cur0, [], .slice none 0 0) ?_ ?_ ?_
    · exact ⟨none, cur0.length, L, ⟨_, _, _, rfl⟩, fun _ => ⟨hp, Nat.le_refl _, by simp; omega⟩, fun h => by cases h⟩
    · simp (implicitDefEqProofs := false) only [go_sem, ptr]
    · rintro ⟨more, cur, ns, v⟩ H10 ⟨g, f, L, ⟨va, vn, vc, hv⟩, hT, hF⟩
      simp only at L hT hF hv ⊢
      subst hv
      cases more with
      | false =>
        have hp := hF rfl
        simp (implicitDefEqProofs := false) only [go_sem]
        refine (expect_ok [125]).go hs L hp fun _ r v H11 L hp _ _ => ?_
        simp (implicitDefEqProofs := false) only [go_sem]
        refine leave_go hs L hj hs.k64 fun _ H12 L => ?_
        have L := L.rowN 0 ns rfl
        simp only [List.set_cons_zero, List.set_cons_succ, List.set_nil, List.eraseIdx_cons_zero, List.eraseIdx_cons_succ] at L
        have c := L.cell 0 rfl
        simp (implicitDefEqProofs := false) only [go_sem, c]
        refine L.stoAll 2 rfl rfl (one_agg (L.one (ks := ns) (by simp))) fun HZ L => ?_
        simp only [List.set_cons_zero, List.set_cons_succ, List.set_nil, List.eraseIdx_cons_zero, List.eraseIdx_cons_succ] at L
        have c := L.cell 2 rfl
        simp (implicitDefEqProofs := false) only [go_sem, c]
        exact L.fin hp (.inl (by simp))
      | true =>
        obtain ⟨hp, hf, hle⟩ := hT rfl
        have hcur := List.length_pos_iff.2 L.ps.nil
        have hp : latP (loL k) ts = bd (memP (levL j)) (fun m => bd (fun ts => if isB [44] ts then memF (levL j) f (ns ++ [m]) ts.tail else .ok (ns ++ [m], ts)) (fun l => bd (expP [125]) fun _ => ret (.mk 15 [] 0 (hd ts).at_ l))) cur := by
          rw [hp]; simp only [memF, bd_bd]
        rw [memP_eq, bd_bd] at hp
        simp (implicitDefEqProofs := false) only [go_sem]
        refine (named_ok 22).goN hs L hp fun kk tt nn aa ks kv r1 H11 L hp he => ?_
        have hle1 := (namedP_dn 22).of he
        simp only [bd_bd] at hp
        simp (implicitDefEqProofs := false) only [go_sem]
        refine L.newP fun b4 H12 L => ?_
        simp (implicitDefEqProofs := false) only [go_sem]
        refine L.stoAll 0 rfl rfl (one_agg (L.one (ks := ks) (by simp))) fun H13 L => ?_
        simp only [List.set_cons_zero, List.set_cons_succ, List.set_nil, List.eraseIdx_cons_zero, List.eraseIdx_cons_succ] at L
        simp (implicitDefEqProofs := false) only [go_sem]
        refine (expect_ok [58]).go hs L hp fun _ r2 v H14 L hp he _ => ?_
        have hle2 := (expP_dn _).of he
        rw [bd_bd] at hp
        simp (implicitDefEqProofs := false) only [go_sem]
        refine (hlat j hj).goN hs L hp fun kk' tt' nn' aa' ks' kv' r3 H15 L hp he => ?_
        have hle3 := (levL_dn j).of he
        simp (implicitDefEqProofs := false) only [go_sem]
        refine L.newS fun b5 H16 L => ?_
        have L := L.rowN1 (ks := ks') (by simp)
        have L := L.rowN 0 [.mk kk' tt' nn' aa' ks'] rfl
        simp only [List.set_cons_zero, List.set_cons_succ, List.set_nil, List.eraseIdx_cons_zero, List.eraseIdx_cons_succ] at L
        simp (implicitDefEqProofs := false) only [go_sem]
        refine L.stoOne 0 rfl (by simp) rfl fun H17 L => ?_
        simp only [List.set_cons_zero, List.set_cons_succ, List.set_nil, List.eraseIdx_cons_zero, List.eraseIdx_cons_succ] at L
        have c := L.cell 2 rfl
        have c' := L.cell 0 rfl
        simp (implicitDefEqProofs := false) only [go_sem, c, c']
        refine L.newS fun b6 H18 L => ?_
        simp (implicitDefEqProofs := false) only [go_sem]
        refine L.appN (ns := ns) (ks := [.mk kk' tt' nn' aa' ks']) 1 rfl (by simp) (by have := List.length_pos_iff.2 L.ps.nil; omega) fun a c g' H19 L => ?_
        simp only [List.set_cons_zero, List.set_cons_succ, List.set_nil, List.eraseIdx_cons_zero, List.eraseIdx_cons_succ] at L
        simp (implicitDefEqProofs := false) only [go_sem]
        refine L.stoOne 2 rfl (by simp) rfl fun H20 L => ?_
        simp only [List.set_cons_zero, List.set_cons_succ, List.set_nil, List.eraseIdx_cons_zero, List.eraseIdx_cons_succ] at L
        have hnil := List.length_pos_iff.2 L.ps.nil
        simp (implicitDefEqProofs := false) only [go_sem]
        refine accept_u hs L [44] fun H21 L => ?_
        have L := L.drop (l' := [_, _, _, _]) (List.sublist_cons_self _ _) (ds' := []) (by simp)
        simp (implicitDefEqProofs := false) only [go_sem]
        refine loopK_intro (isB [44] r3, (if isB [44] r3 then r3.tail else r3), ns ++ [.mk kk tt nn aa [.mk kk' tt' nn' aa' ks']], .slice a (ns ++ [Nd.mk kk tt nn aa [.mk kk' tt' nn' aa' ks']]).length c) ?_ ?_ ⟨g', f - 1, L, ⟨_, _, _, rfl⟩, fun h => ?_, fun h => ?_⟩
        · cases e4 : isB [44] r3 with
          | false => show 0 < cur.length + 1; omega
          | true =>
            show r3.tail.length + 1 < cur.length + 1
            rw [List.length_tail]; omega
        · simp (implicitDefEqProofs := false) only [go_sem]
        · simp only at h
          rw [h] at L ⊢
          simp only [if_true] at L ⊢
          have hnt := List.length_pos_iff.2 L.ps.nil
          rw [List.length_tail] at hnt
          refine ⟨?_, by rw [List.length_tail]; omega, by simp only [List.length_append, List.length_cons, List.length_nil, List.length_tail]; omega⟩
          rw [hp, show f - 1 + 1 = f by omega]
          conv => lhs; unfold bd ret
          simp only [h, if_true]; rfl
        · simp only at h
          rw [h]
          rw [hp]
          conv => lhs; unfold bd ret
          simp only [h, Bool.false_eq_true, if_false]; rfl
  | false =>
  rw [if_neg (nb e)] at hp
  simp (implicitDefEqProofs := false) only [go_sem]
  refine accept_go hs L [99, 108, 111, 115, 101, 100] (fun e H7 L => ?_) fun e H7 L => ?_
  · rw [if_pos e] at hp
    simp (implicitDefEqProofs := false) only [go_sem]
    refine closed_ok.goR hs L hp fun ns a cw gb r H8 L hp _ => ?_
    simp (implicitDefEqProofs := false) only [go_sem]
    refine L.stoOne 1 rfl (by simp) rfl fun HA L => ?_
    simp only [List.set_cons_zero, List.set_cons_succ, List.set_nil, List.eraseIdx_cons_zero, List.eraseIdx_cons_succ] at L
    simp (implicitDefEqProofs := false) only [go_sem]
    refine L.stoOne 1 rfl (by simp) rfl fun HB L => ?_
    simp only [List.set_cons_zero, List.set_cons_succ, List.set_nil, List.eraseIdx_cons_zero, List.eraseIdx_cons_succ] at L
    have L := L.rowN 0 ns rfl
    simp only [List.set_cons_zero, List.set_cons_succ, List.set_nil, List.eraseIdx_cons_zero, List.eraseIdx_cons_succ] at L
    simp (implicitDefEqProofs := false) only [go_sem]
    have c := L.cell 0 rfl
    simp (implicitDefEqProofs := false) only [go_sem, c]
    refine L.stoAll 2 rfl rfl (one_agg (t := []) rfl) fun HZ L => ?_
    simp only [List.set_cons_zero, List.set_cons_succ, List.set_nil, List.eraseIdx_cons_zero, List.eraseIdx_cons_succ] at L
    have c := L.cell 2 rfl
    simp (implicitDefEqProofs := false) only [go_sem, c]
    exact L.fin hp (.inl (by simp))
  rw [if_neg (nb e)] at hp
  simp (implicitDefEqProofs := false) only [go_sem]
  exact fail_go L hp
end Go.Proofs.YtbgjgaaobnbijaaDoor
