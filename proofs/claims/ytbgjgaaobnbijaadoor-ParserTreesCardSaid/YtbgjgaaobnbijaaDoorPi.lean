/- Parts of lattices: contracts. -/
import Derived.Test.YtbgjgaaobnbijaaDoorPh
set_option linter.unusedSimpArgs false
set_option linter.unusedVariables false
set_option maxRecDepth 8000
namespace Go.Proofs.YtbgjgaaobnbijaaDoor
open Gx Go
theorem nb {s : Bs} {ts : List Tk} (h : isB s ts = false) : ¬ isB s ts = true := by rw [h]; decide
/-- A row of trees of one's own. -/
def KdR (ns : List Nd) (v : Value) (H H' : Heap) : Prop := ∃ g, LsO H' (fun x => x < H.size) 24 5 v (ns.map Nd.dat) g ∧ ∀ b, g = some b → H.size ≤ b
/-- What a call leaves with a row of its own. -/
theorem _root_.Gx.Lv.callRow {O0 O : List Nat} {S S' : Heap → Prop} {H0 H H' : Heap} {l : List Ent} {ds : List (Dat × List Value)} {e m : Nat} {v : Value} {dl : List Dat} {g : Option Nat} (L : Lv O0 H0 O S H l ds) (hf : Fr O H H')
    (hS : ∀ (M : List Nat) (H'' : Heap), Fr M H' H'' → (∀ x ∈ M, H0.size ≤ x ∧ x ∉ O) → S' H'') (hr : LsO H' (fun x => x < H.size) e m v dl g) (hg : ∀ b, g = some b → H.size ≤ b) : Lv O0 H0 O S' H' (.row e m v dl g :: l) ds := by
  have L' := Lv.call L hf hS
  have hsz := L.fr.size
  have hb : ∀ x, Lk H0.size O (.row e m v dl g :: l) x → Lk H0.size O l x ∨ H.size ≤ x := by
    rintro x (q | q | q)
    · exact .inl (.inl q)
    · exact .inl (.inr (.inl q))
    · simp only [List.flatMap_cons, Ent.bs, List.mem_append, Option.mem_toList] at q
      rcases q with q | q
      · exact .inr (hg x q)
      · exact .inl (.inr (.inr q))
  have hold : ∀ x, Lk H0.size O l x → x < H.size := by
    rintro x (q | q | q)
    · omega
    · exact (L.own x q).1
    · exact (L.lo x q).2.2
  refine ⟨L'.fr, L'.own, ?_, fun x hx => ?_, fun p hp => ?_, fun p hp => ?_, hS⟩
  · simp only [List.flatMap_cons, Ent.bs, List.nodup_append]
    refine ⟨by cases g <;> simp, L.nd, fun a ha b hb => ?_⟩
    have h1 := hg a (by simpa using ha)
    have h2 := (L.lo b hb).2.2
    omega
  · simp only [List.flatMap_cons, Ent.bs, List.mem_append, Option.mem_toList] at hx
    rcases hx with hx | hx
    · have := hg x hx
      exact ⟨by omega, fun q => by have := (L.own x q).1; omega, LsO.lt hr hx⟩
    · exact L'.lo x hx
  · rcases List.mem_cons.1 hp with rfl | hp
    · obtain ⟨css, h1, h2, h3⟩ := hr
      refine ⟨css, h1, h2, h3.more fun x hx => .inl ?_⟩
      rcases hx with (q | q | q) | q
      · exact .inl (by omega)
      · exact .inl (L.own x q).1
      · simp only [List.flatMap_cons, Ent.bs, List.mem_append, Option.mem_toList] at q
        rcases q with q | q
        · exact .inr q
        · exact .inl (L.lo x q).2.2
      · exact .inr q
    · refine Ent.ok_step (L.ok p hp) hf (fun x hx => .inl (.inr (.inl hx))) (fun x hx hm => ?_) hb
      exact (L.lo x (List.mem_flatMap.2 ⟨p, hp, hx⟩)).2.1 hm
  · exact RepP.fr (L.dat p hp) hf (fun x hx => .inl (.inr (.inl hx))) hb
section
variable {X : Cx} {H0 H H' : Heap} {ts0 ts r : List Tk} {k0 k : Nat} {l : List Ent} {ds : List (Dat × List Value)} {γ : Type} {P0 : Except Flt (γ × List Tk)} {Q : Value → Heap → Prop}
theorem POk.goR {f : Nat} {av : List Value} {p : PP (List Nd)} {g : List Nd → PP γ} (h : POk k f av p KdR) (h0 : Ps X H0 ts0 k0) (L : PLv X H0 ts k H l ds) (hp : P0 = bd p g ts)
    (hR : ∀ ns a c gb r H', PLv X H0 r k H' (.row 24 5 (.slice a ns.length c) (ns.map Nd.dat) gb :: l) ds → P0 = g ns r → p ts = .ok (ns, r) → Q (.slice a ns.length c) H') : PCalls Tryd.prog f (ptr X.b :: av).toArray H Q (PEr X H0 P0) :=
  h.use L.ps (fun e H' he hf => ⟨e, by rw [hp, bd_err he], rfl, L.fr.trans hf⟩) fun ns r v H' he ⟨gb, h1, h2⟩ hs hf => by
    obtain ⟨a, c, hv, _⟩ := h1.slice
    rw [List.length_map] at hv
    subst hv
    exact hR ns a c gb r H' (L.callRow hf (fun M H'' hf' hM => Ps.on h0 hs hf' fun x hx => (hM x hx).1) h1 h2) (by rw [hp, bd_ok he]) he
/-- A row is returned. -/
theorem _root_.Gx.Lv.finR {P0 : Except Flt (List Nd × List Tk)} {ns : List Nd} {v : Value} {g : Option Nat} (L : PLv X H0 r k H l ds) (hp : P0 = ret ns r) (i : Nat) (hi : l[i]? = some (.row 24 5 v (ns.map Nd.dat) g)) :
    ∃ a r, P0 = .ok (a, r) ∧ KdR a v H0 H ∧ Ps X H r k ∧ Fr [X.b] H0 H :=
  ⟨ns, r, hp, ⟨g, (L.rowGet i hi).ext (Fr.refl [] _) fun x hx => .inl (.inl hx), fun b hb => (L.lo b (List.mem_flatMap.2 ⟨_, List.mem_of_getElem? hi, by simp [Ent.bs, hb]⟩)).1⟩, L.ps, L.fr⟩
end

theorem quotes_ok {k : Nat} : POk k 77 [] quotesP KdR := by
  refine ⟨fun {X H ts} hs => ?_⟩
  refine pcalls_of_vc (args := [_]) Tryd.func77 c77ok (Nat.le_of_ble_eq_true rfl) ?_
  have L := hs.walk
  have hcap := hs.cap
  simp (implicitDefEqProofs := false) only [go_sem, c77]
  refine quote_ok.goN hs L (P0 := quotesP ts) rfl fun kk tt nn aa ks kv r H1 L hp he => ?_
  simp (implicitDefEqProofs := false) only [go_sem]
  refine L.newS fun b1 H2 L => ?_
  have L := L.rowN1 (ks := ks) (by simp)
  have hlen : r.length ≤ 1048576 := by
    obtain ⟨i', _, e', _⟩ := L.ps.ex
    rw [e', List.length_drop]; omega
  simp (implicitDefEqProofs := false) only [go_sem]
  refine vc_loop (fun (s : List Tk × List Nd × Value) H' => ∃ g f, PLv X H s.1 k H' [.row 24 5 s.2.2 (s.2.1.map Nd.dat) g] [] ∧ quotesP ts = quotesF f s.2.1 s.1 ∧ s.1.length ≤ f ∧ s.2.1.length + s.1.length ≤ 1048577)
    (fun s => [(0, ptr X.b), (3, s.2.2)]) (fun s => s.1.length) (r, [.mk kk tt nn aa ks], .slice (some ⟨b1, 0, none⟩) 1 1) ?_ ?_ ?_
  · exact ⟨_, r.length, L.drop (List.Sublist.refl _) (by simp), hp, Nat.le_refl _, by simp; omega⟩
  · simp (implicitDefEqProofs := false) only [go_sem, ptr]
  · rintro ⟨cur, ns, v⟩ H3 ⟨g, f, L, hp, hf, hle⟩
    simp only at L hp hf hle ⊢
    have hcur := List.length_pos_iff.2 L.ps.nil
    obtain ⟨f, rfl⟩ : ∃ f', f = f' + 1 := ⟨f - 1, by omega⟩
    have htl : cur.tail.length = cur.length - 1 := by simp
    conv at hp => rhs; unfold quotesF
    simp (implicitDefEqProofs := false) only [go_sem]
    refine accept_go hs L [44] (fun e H4 L => ?_) fun e H4 L => ?_
    · rw [if_pos e] at hp
      have hct := List.length_pos_iff.2 L.ps.nil
      simp (implicitDefEqProofs := false) only [go_sem]
      refine quote_ok.goN hs L hp fun kk tt nn aa ks kv r' H5 L hp he => ?_
      have hle1 := quoteP_dn.of he
      simp (implicitDefEqProofs := false) only [go_sem]
      refine L.newS fun bA HA L => ?_
      simp (implicitDefEqProofs := false) only [go_sem]
      refine L.appN (ns := ns) (ks := ks) 0 rfl (by simp) (by omega) fun a c g' HB L => ?_
      simp only [List.set_cons_zero, List.set_cons_succ, List.set_nil, List.eraseIdx_cons_zero, List.eraseIdx_cons_succ] at L
      simp (implicitDefEqProofs := false) only [go_sem]
      refine loopK_intro (r', ns ++ [.mk kk tt nn aa ks], .slice a (ns ++ [Nd.mk kk tt nn aa ks]).length c) ?_ ?_ ⟨g', f, L.drop (List.Sublist.refl _) (by simp), hp, show r'.length ≤ f by omega, ?_⟩
      · show r'.length < cur.length
        omega
      · simp (implicitDefEqProofs := false) only [go_sem]
      · simp only [List.length_append, List.length_cons, List.length_nil]; omega
    · rw [if_neg (nb e)] at hp
      simp (implicitDefEqProofs := false) only [go_sem]
      exact L.finR hp 0 rfl
theorem allowed_ok {k : Nat} : POk k 65 [] allowedP KdR := by
  refine ⟨fun {X H ts} hs => ?_⟩
  refine pcalls_of_vc (args := [_]) Tryd.func65 c65ok (Nat.le_of_ble_eq_true rfl) ?_
  have L := hs.walk
  obtain ⟨hp, _⟩ : allowedP ts = allowedP ts ∧ True := ⟨rfl, trivial⟩
  conv at hp => rhs; unfold allowedP
  simp (implicitDefEqProofs := false) only [go_sem, c65]
  refine accept_go hs L [40] (fun e H1 L => ?_) fun e H1 L => ?_
  · rw [if_pos e] at hp
    simp (implicitDefEqProofs := false) only [go_sem]
    refine quotes_ok.goR hs L hp fun ns a c gb r H2 L hp _ => ?_
    simp (implicitDefEqProofs := false) only [go_sem]
    refine (expect_ok [41]).go hs L hp fun _ r v H3 L hp _ _ => ?_
    simp (implicitDefEqProofs := false) only [go_sem]
    exact L.finR hp 0 rfl
  · rw [if_neg (nb e)] at hp
    simp (implicitDefEqProofs := false) only [go_sem]
    exact (L.row0 24 5).finR (ns := []) hp 0 rfl

theorem two_ok {k g : Nat} {p : PP Nd} (hg : hasBody Tryd.prog g = true) (hop : POk k g [] p NdR) {X : Cx} {H : Heap} {ts : List Tk} (hs : Ps X H ts k) :
    PCalls Tryd.prog 66 #[ptr X.b, .func (.func g) #[ptr X.b] #[]] H (fun v H' => ∃ a r, twoP p ts = .ok (a, r) ∧ KdR a v H H' ∧ Ps X H' r k ∧ Fr [X.b] H H') (PEr X H (twoP p ts)) := by
  refine pcalls_of_vc (args := [_, _]) Tryd.func66 c66ok (Nat.le_of_ble_eq_true rfl) ?_
  have L := hs.walk
  simp (implicitDefEqProofs := false) only [go_sem, c66]
  refine (expect_ok [40]).go hs L (P0 := twoP p ts) rfl fun _ r v H1 L hp _ _ => ?_
  simp (implicitDefEqProofs := false) only [go_sem]
  refine ⟨hg, hop.goN hs L hp fun kk tt nn aa ks kv r H2 L hp _ => ?_⟩
  simp (implicitDefEqProofs := false) only [go_sem]
  refine L.newP fun b1 H3 L => ?_
  simp (implicitDefEqProofs := false) only [go_sem]
  refine L.stoAll 0 rfl rfl (one_agg (L.one (ks := ks) (by simp))) fun H4 L => ?_
  simp only [List.set_cons_zero, List.set_cons_succ, List.set_nil, List.eraseIdx_cons_zero, List.eraseIdx_cons_succ] at L
  simp (implicitDefEqProofs := false) only [go_sem]
  refine (expect_ok [44]).go hs L hp fun _ r v H5 L hp _ _ => ?_
  simp (implicitDefEqProofs := false) only [go_sem]
  refine ⟨hg, hop.goN hs L hp fun kk' tt' nn' aa' ks' kv' r H6 L hp _ => ?_⟩
  simp (implicitDefEqProofs := false) only [go_sem]
  refine L.newP fun b2 H7 L => ?_
  simp (implicitDefEqProofs := false) only [go_sem]
  refine L.stoAll 0 rfl rfl (one_agg (L.one (ks := ks') (by simp))) fun H8 L => ?_
  simp only [List.set_cons_zero, List.set_cons_succ, List.set_nil, List.eraseIdx_cons_zero, List.eraseIdx_cons_succ] at L
  simp (implicitDefEqProofs := false) only [go_sem]
  refine (expect_ok [41]).go hs L hp fun _ r v H9 L hp _ _ => ?_
  have c := L.cell 0 rfl
  have c' := L.cell 1 rfl
  simp (implicitDefEqProofs := false) only [go_sem, c, c']
  refine L.newS fun b3 H10 L => ?_
  simp (implicitDefEqProofs := false) only [go_sem]
  have L := L.rowOwn (dl := [Nd.mk kk tt nn aa ks, Nd.mk kk' tt' nn' aa' ks'].map Nd.dat) (m := 5) (n := 2) (css := [[.int .i64 kk, sv tt, .int .i64 nn, .int .i64 aa, kv], [.int .i64 kk', sv tt', .int .i64 nn', .int .i64 aa', kv']]) (by simp only [List.flatten_cons, List.flatten_nil, List.append_nil, List.cons_append, List.nil_append]) (by simp) ((RepsP.nil.cons (L.ndr (ks := ks') (by simp))).cons (L.ndr (ks := ks) (by simp))) rfl (by simp [maxLen])
  exact L.finR hp 0 rfl

theorem nth4 {α : Type} {a b c d : α} {P : Nat → α → Prop} (h0 : P 0 a) (h1 : P 1 b) (h2 : P 2 c) (h3 : P 3 d) : ∀ i x, [a, b, c, d][i]? = some x → P i x := by
  intro i x h
  match i, h with
  | 0, h => cases h; exact h0
  | 1, h => cases h; exact h1
  | 2, h => cases h; exact h2
  | 3, h => cases h; exact h3
def sorts : List Bs := [[105, 110, 116], [98, 111, 111, 108], [110, 97, 109, 101], [110, 97, 109, 101, 115]]
theorem sort_ok {k : Nat} : POk k 48 [] sortP IntR' := by
  refine ⟨fun {X H ts} hs => ?_⟩
  refine pcalls_of_vc (args := [_]) Tryd.func48 c48ok (Nat.le_of_ble_eq_true rfl) ?_
  have L := hs.walk
  obtain ⟨hp, _⟩ : sortP ts = sortP ts ∧ True := ⟨rfl, trivial⟩
  conv at hp => rhs; unfold sortP
  simp (implicitDefEqProofs := false) only [go_sem, c48]
  refine L.newS fun b1 H1 L => ?_
  simp (implicitDefEqProofs := false) only [go_sem]
  refine vc_loop (fun (i : Nat) H' => i ≤ 4 ∧ PLv X H ts k H' [.blk b1 9 [.string ⟨⟨[105, 110, 116]⟩⟩, .string ⟨⟨[98, 111, 111, 108]⟩⟩, .string ⟨⟨[110, 97, 109, 101]⟩⟩, .string ⟨⟨[110, 97, 109, 101, 115]⟩⟩]] [] ∧ ∀ j s, j < i → sorts[j]? = some s → isB s ts = false)
    (fun i => [(0, ptr X.b), (5, .slice (some ⟨b1, 0, none⟩) 4 4), (6, .int .i64 4), (7, .int .i64 i)]) (fun i => 4 - i) 0 ?_ ?_ ?_
  · exact ⟨by decide, L, fun j s h => by omega⟩
  · simp (implicitDefEqProofs := false) only [go_sem, ptr]
  · rintro i H2 ⟨hi, L, hno⟩
    have h5 : i = 0 ∨ i = 1 ∨ i = 2 ∨ i = 3 ∨ i = 4 := by omega
    rcases h5 with rfl | rfl | rfl | rfl | rfl
    · have c := L.cell 0 rfl
      have w : IntKind.i64.wrap 1 = 1 := rfl
      simp (implicitDefEqProofs := false) only [go_sem, c]
      refine accept_go hs L [105, 110, 116] (fun e H3 L => ?_) fun e H3 L => ?_
      · skip
        rw [if_pos e] at hp
        simp (implicitDefEqProofs := false) only [go_sem, w]
        exact ⟨1, ts.tail, hp, rfl, L.ps, L.fr⟩
      · simp (implicitDefEqProofs := false) only [go_sem]
        refine loopK_intro (1 : Nat) (by simp) ?_ ⟨by simp, L, fun j s hj hsj => ?_⟩
        · simp (implicitDefEqProofs := false) only [go_sem, w]
        · rcases Nat.lt_or_ge j (1 - 1) with q | q
          · exact hno j s (by omega) hsj
          · obtain rfl : j = 1 - 1 := by omega
            simp [sorts] at hsj
            subst hsj; exact e
    · have c := L.cell 0 rfl
      have w : IntKind.i64.wrap 2 = 2 := rfl
      simp (implicitDefEqProofs := false) only [go_sem, c]
      refine accept_go hs L [98, 111, 111, 108] (fun e H3 L => ?_) fun e H3 L => ?_
      · rw [if_neg (nb (hno 0 _ (by omega) rfl))] at hp
        rw [if_pos e] at hp
        simp (implicitDefEqProofs := false) only [go_sem, w]
        exact ⟨2, ts.tail, hp, rfl, L.ps, L.fr⟩
      · simp (implicitDefEqProofs := false) only [go_sem]
        refine loopK_intro (2 : Nat) (by simp) ?_ ⟨by simp, L, fun j s hj hsj => ?_⟩
        · simp (implicitDefEqProofs := false) only [go_sem, w]
        · rcases Nat.lt_or_ge j (2 - 1) with q | q
          · exact hno j s (by omega) hsj
          · obtain rfl : j = 2 - 1 := by omega
            simp [sorts] at hsj
            subst hsj; exact e
    · have c := L.cell 0 rfl
      have w : IntKind.i64.wrap 3 = 3 := rfl
      simp (implicitDefEqProofs := false) only [go_sem, c]
      refine accept_go hs L [110, 97, 109, 101] (fun e H3 L => ?_) fun e H3 L => ?_
      · rw [if_neg (nb (hno 0 _ (by omega) rfl)), if_neg (nb (hno 1 _ (by omega) rfl))] at hp
        rw [if_pos e] at hp
        simp (implicitDefEqProofs := false) only [go_sem, w]
        exact ⟨3, ts.tail, hp, rfl, L.ps, L.fr⟩
      · simp (implicitDefEqProofs := false) only [go_sem]
        refine loopK_intro (3 : Nat) (by simp) ?_ ⟨by simp, L, fun j s hj hsj => ?_⟩
        · simp (implicitDefEqProofs := false) only [go_sem, w]
        · rcases Nat.lt_or_ge j (3 - 1) with q | q
          · exact hno j s (by omega) hsj
          · obtain rfl : j = 3 - 1 := by omega
            simp [sorts] at hsj
            subst hsj; exact e
    · have c := L.cell 0 rfl
      have w : IntKind.i64.wrap 4 = 4 := rfl
      simp (implicitDefEqProofs := false) only [go_sem, c]
      refine accept_go hs L [110, 97, 109, 101, 115] (fun e H3 L => ?_) fun e H3 L => ?_
      · rw [if_neg (nb (hno 0 _ (by omega) rfl)), if_neg (nb (hno 1 _ (by omega) rfl)), if_neg (nb (hno 2 _ (by omega) rfl))] at hp
        rw [if_pos e] at hp
        simp (implicitDefEqProofs := false) only [go_sem, w]
        exact ⟨4, ts.tail, hp, rfl, L.ps, L.fr⟩
      · simp (implicitDefEqProofs := false) only [go_sem]
        refine loopK_intro (4 : Nat) (by simp) ?_ ⟨by simp, L, fun j s hj hsj => ?_⟩
        · simp (implicitDefEqProofs := false) only [go_sem, w]
        · rcases Nat.lt_or_ge j (4 - 1) with q | q
          · exact hno j s (by omega) hsj
          · obtain rfl : j = 4 - 1 := by omega
            simp [sorts] at hsj
            subst hsj; exact e
    · rw [if_neg (nb (hno 0 _ (by omega) rfl)), if_neg (nb (hno 1 _ (by omega) rfl)), if_neg (nb (hno 2 _ (by omega) rfl)), if_neg (nb (hno 3 _ (by omega) rfl))] at hp
      simp (implicitDefEqProofs := false) only [go_sem]
      exact fail_go L hp
end Go.Proofs.YtbgjgaaobnbijaaDoor
