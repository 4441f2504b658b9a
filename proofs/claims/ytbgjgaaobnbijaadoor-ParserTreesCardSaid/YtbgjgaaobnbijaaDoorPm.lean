/- The whole of a source: contracts. -/
import Derived.Test.YtbgjgaaobnbijaaDoorPl
import Derived.Test.YtbgjgaaobnbijaaDoorCodeD
import Derived.Test.YtbgjgaaobnbijaaDoorCodeW
set_option linter.unusedSimpArgs false
set_option linter.unusedVariables false
set_option maxRecDepth 8000
namespace Go.Proofs.YtbgjgaaobnbijaaDoor
open Gx Go

/-! ### the tokens of a source -/
theorem lexF_len : ∀ (f : Nat) (s : Bs) (o : Nat) (T : List Tk), lexF f s o = .ok T → T.length ≤ f ∧ T ≠ [] ∧ ∀ i t r, T.drop i = t :: r → t.kind ≠ 6 → r ≠ []
  | 0, s, o, T, h => by simp [lexF] at h
  | f + 1, s, o, T, h => by
    unfold lexF at h
    split at h
    · cases h
    · split at h
      · rename_i k t n m _ hk
        cases h
        refine ⟨by simp, by simp, fun i t' r hi hn => ?_⟩
        cases i with
        | zero => simp only [List.drop_zero, List.cons.injEq] at hi; obtain ⟨rfl, rfl⟩ := hi; exact absurd hk hn
        | succ i => simp at hi
      · rename_i k t n m _ hk
        cases e : lexF f (s.drop (skB false s + m)) (o + skB false s + m) with
        | bad c j => rw [e] at h; cases h
        | ok T' =>
          rw [e] at h
          simp only [LR.cons, LR.ok.injEq] at h
          subst h
          obtain ⟨h1, h2, h3⟩ := lexF_len f _ _ _ e
          refine ⟨by simp; omega, by simp, fun i t' r hi hn => ?_⟩
          cases i with
          | zero => simp only [List.drop_zero, List.cons.injEq] at hi; obtain ⟨rfl, rfl⟩ := hi; exact h2
          | succ i => exact h3 i t' r (by simpa using hi) hn
theorem lexT_len {s : Bs} {T : List Tk} (h : lexT s = .ok T) : T.length ≤ 65537 ∧ T ≠ [] ∧ ∀ i t r, T.drop i = t :: r → t.kind ≠ 6 → r ≠ [] := by
  unfold lexT at h
  split at h
  · cases h
  · unfold lexA at h
    obtain ⟨h1, h2, h3⟩ := lexF_len _ _ _ _ h
    exact ⟨by omega, h2, h3⟩
theorem lexF_bad : ∀ (f : Nat) (s : Bs) (o : Nat) (c : Int) (k : Nat), s.length < f → lexF f s o = .bad c k → c ≠ 0
  | 0, s, o, c, k, hl, h => by omega
  | f + 1, s, o, c, k, hl, h => by
    unfold lexF at h
    split at h
    · rename_i e he
      cases h
      exact bad_code he
    · rename_i kd t n m he
      split at h
      · cases h
      · rename_i hk
        cases e : lexF f (s.drop (skB false s + m)) (o + skB false s + m) with
        | ok T' => rw [e] at h; cases h
        | bad c' j =>
          rw [e] at h
          simp only [LR.cons, LR.bad.injEq] at h
          obtain ⟨rfl, rfl⟩ := h
          refine lexF_bad f _ _ _ _ ?_ e
          obtain ⟨h1, h2, h3⟩ := tokS_len he
          have hne : s.drop (skB false s) ≠ [] := fun q => hk (h3 q)
          have := (h2 hne).1
          have h5 := List.length_pos_iff.2 hne
          simp only [List.length_drop] at h1 h5 ⊢
          omega
theorem lexT_bad {s : Bs} {c : Int} {k : Nat} (h : lexT s = .bad c k) : c ≠ 0 := by
  unfold lexT at h
  split at h
  · cases h; decide
  · exact lexF_bad _ _ _ _ _ (by simp) h

/-- What the parser answers. -/
def srcP (p : PP Nd) (s : Bs) : Except Flt Nd := match lexT s with
  | .bad c k => .error (c, k)
  | .ok T => topP p T
def zeroN : List Value := [.int .i64 0, sv [], .int .i64 0, .int .i64 0, .slice none 0 0]
def ResR (R : Except Flt Nd) (v : Value) (H H' : Heap) : Prop := match R with
  | .error e => v = .tuple #[.agg zeroN.toArray, .agg #[.int .i64 e.1, .int .i64 e.2]]
  | .ok n => ∃ cs, v = .tuple #[.agg cs.toArray, .agg #[.int .i64 0, .int .i64 0]] ∧ RepP H' (fun x => x < H.size) n.dat cs
theorem Ps.keep {X : Cx} {H H' : Heap} {ts : List Tk} {k : Nat} {M : List Nat} (h : Ps X H ts k) (hf : Fr M H H') (hb : X.b ∉ M) (ha : ∀ b o, X.a = some ⟨b, o, none⟩ → b ∉ M) : Ps X H' ts k := by
  obtain ⟨i, h1, h2, h3⟩ := h.ex
  exact ⟨⟨i, h1.fr hf hb, h2, h3⟩, h.row.fr hf ha, h.ne, h.k64, h.cap, h.fin⟩

def pP (x : Nat) : Value := .pointer (some ⟨x, 0, none⟩)
theorem rec_ret {x y : Nat} (H : Heap) : DCalls Tryd.prog 33 #[pP x, pP y] .returning .returning H fun H'' => H'' = H := by
  refine dcalls_of_rec (args := [_, _]) (u := .returning) (m := .returning) (v := .nilIface) Tryd.func33 c33ok (Nat.le_of_ble_eq_true rfl) rfl ?_
  simp (implicitDefEqProofs := false) only [go_sem, c33, c33b, cD, posOf, putS]
theorem rec_panic {H : Heap} {x y : Nat} {xs ys : List Value} {e : Flt} (hx : Blk H x 31 xs) (hxl : xs.length = 2) (hy : Blk H y 24 ys) (hyl : ys.length = 5) (hxy : x ≠ y) :
    DCalls Tryd.prog 33 #[pP x, pP y] (.panicking (flt e)) .returning H fun H'' => Blk H'' x 31 [.int .i64 e.1, .int .i64 e.2] ∧ Blk H'' y 24 zeroN ∧ Fr [x, y] H H'' := by
  refine dcalls_of_rec (args := [_, _]) (u := .panicking (flt e)) (m := .panicking [{ v := .iface 31 (.agg #[.int .i64 e.1, .int .i64 e.2]), recovered := true }]) (v := .iface 31 (.agg #[.int .i64 e.1, .int .i64 e.2])) Tryd.func33 c33ok (Nat.le_of_ble_eq_true rfl) rfl ?_
  simp (implicitDefEqProofs := false) only [go_sem, c33, c33b, pP, cD, posOf, putS]
  refine Sto_all hx (by simp [hxl]) (by simp [Value.oneCell']) fun H1 hx1 hf1 hs1 => ?_
  have hy1 := hy.fr hf1 (by simp; omega)
  simp (implicitDefEqProofs := false) only [go_sem]
  refine Sto_all hy1 (by simp [hyl]) (by simp [Value.oneCell', sv]) fun H2 hy2 hf2 hs2 => ?_
  have hx2 := hx1.fr hf2 (by simp; omega)
  simp (implicitDefEqProofs := false) only [go_sem]
  exact ⟨hx2, hy2, (hf1.mono (by simp)).trans (hf2.mono (by simp))⟩

set_option maxHeartbeats 1000000 in
theorem prun_ok {g : Nat} {p : PP Nd} (hg : hasBody Tryd.prog g = true) (hop : POk 64 g [] p NdR) (s : Bs) (hl : s.length ≤ maxLen) {H : Heap} (hG : GlobH H) :
    HCalls Tryd.prog 24 #[sv s, .func (.func g) #[] #[]] H fun v H' => ResR (srcP p s) v H H' ∧ Fr [] H H' := by
  refine calls_of_defers (args := [_, _]) Tryd.func24 c24ok (Nat.le_of_ble_eq_true rfl) ?_
  have L : Lv [] H [] (fun _ => True) H [] [] := Lv.start (by simp) (fun _ _ _ _ => trivial)
  simp (implicitDefEqProofs := false) only [go_sem, c24, c24a]
  refine L.newP fun b1 H1 L => ?_
  simp (implicitDefEqProofs := false) only [go_sem]
  refine L.newP fun b2 H2 L => ?_
  simp (implicitDefEqProofs := false) only [go_sem]
  refine (lex_ok s hl (hG.ext L.fr)).mono ?_
  rintro r H3 ⟨hr, hf3⟩
  have L := L.ext hf3
  cases hlex : lexT s with
  | bad c k =>
    rw [hlex] at hr
    simp only [LexR] at hr
    subst hr
    have hc := lexT_bad hlex
    have hsp : srcP p s = .error (c, k) := by unfold srcP; rw [hlex]
    rw [hsp]
    simp (implicitDefEqProofs := false) only [go_sem, ftV]
    refine L.newP fun b3 H4 L => ?_
    simp (implicitDefEqProofs := false) only [go_sem]
    refine L.stoAll 0 rfl rfl (by simp [Value.oneCell']) fun H5 L => ?_
    simp only [List.set_cons_zero, List.set_cons_succ, List.set_nil, List.eraseIdx_cons_zero, List.eraseIdx_cons_succ] at L
    have c0 := L.cell 0 rfl
    have c1 := L.cell 1 rfl
    have c2 := L.cell 2 rfl
    simp (implicitDefEqProofs := false) only [go_sem, c0, hc]
    refine L.stoAll 2 rfl rfl (by simp [Value.oneCell', sv]) fun H6 L => ?_
    simp only [List.set_cons_zero, List.set_cons_succ, List.set_nil, List.eraseIdx_cons_zero, List.eraseIdx_cons_succ] at L
    have c0 := L.cell 0 rfl
    simp (implicitDefEqProofs := false) only [go_sem, c0]
    refine L.stoAll 1 rfl rfl (by simp [Value.oneCell']) fun H7 L => ?_
    simp only [List.set_cons_zero, List.set_cons_succ, List.set_nil, List.eraseIdx_cons_zero, List.eraseIdx_cons_succ] at L
    have c1 := L.cell 1 rfl
    have c2 := L.cell 2 rfl
    simp (implicitDefEqProofs := false) only [go_sem, c1, c2, defQ]
    exact ⟨by simp [ResR, zeroN, sv], L.fr⟩
  | ok T =>
    rw [hlex] at hr
    simp only [LexR] at hr
    obtain ⟨a, cT, rfl, hcap1, hcap2, hrow⟩ := hr
    have hsp : srcP p s = topP p T := by unfold srcP; rw [hlex]
    rw [hsp]
    obtain ⟨hT1, hT2, hT3⟩ := lexT_len hlex
    simp (implicitDefEqProofs := false) only [go_sem, ftV]
    obtain ⟨rb, ro, ha, hget⟩ := RowR.get hrow tkC_len (T.length - 1) (by have := List.length_pos_iff.2 hT2; omega) (by decide)
    have hk6 : (T[T.length - 1]'(by have := List.length_pos_iff.2 hT2; omega)).kind = 6 := by
      have hlt : T.length - 1 < T.length := by have := List.length_pos_iff.2 hT2; omega
      refine Decidable.byContradiction fun hn => ?_
      exact hT3 (T.length - 1) _ _ (List.drop_eq_getElem_cons hlt) hn (List.drop_eq_nil_of_le (by omega))
    have h6 := hget 0 (by decide)
    rw [Nat.add_zero] at h6
    simp only [tkC, List.getElem?_cons_zero, hk6] at h6
    have hne1 : rb ≠ b1 := by
      rintro rfl
      have c := L.cell 1 rfl
      rw [c] at h6
      have := List.mem_of_getElem? h6
      simp [sv] at this
    have hne2 : rb ≠ b2 := by
      rintro rfl
      have c := L.cell 0 rfl
      rw [c] at h6
      have := List.mem_of_getElem? h6
      simp at this
    have hrlt := cellB_lt h6
    refine NewP_intro fun H4 hn4 hf4 hs4 => ?_
    have L := L.push hf4 hn4
    simp (implicitDefEqProofs := false) only [go_sem]
    refine Sto_all hn4 rfl (by simp [Value.oneCell']) fun H5 hn5 hf5 hs5 => ?_
    have L := L.sto 0 rfl hf5 hn5
    simp only [List.set_cons_zero, List.set_cons_succ, List.set_nil, List.eraseIdx_cons_zero, List.eraseIdx_cons_succ] at L
    have hrow5 : RowR tkC H5 a T := (hrow.ext hf4).fr hf5 fun b o e hm => by
      rw [ha] at e; cases e
      simp only [List.mem_singleton] at hm
      omega
    have c := L.cell 0 rfl
    simp (implicitDefEqProofs := false) only [go_sem, c]
    refine NewP_intro fun H6 hn6 hf6 hs6 => ?_
    have hsz4 := hf4.size
    have hsz5 := hf5.size
    have hsz0 := L.fr.size
    have hps : Ps ⟨H5.size, a, cT, T⟩ H6 T 64 := ⟨⟨0, hn6, rfl, List.length_pos_iff.2 hT2⟩, hrow5.ext hf6, fun b o e => by rw [ha] at e; cases e; show rb ≠ H5.size; omega, Nat.le_refl _, by show T.length ≤ _; omega, hT3⟩
    obtain ⟨O, hO1, hO2, hO3⟩ : ∃ O : List Nat, H5.size ∈ O ∧ (∀ x ∈ O, x = H5.size ∨ (x = rb ∧ H.size ≤ rb)) ∧ (H.size ≤ rb → rb ∈ O) := by
      by_cases q : H.size ≤ rb
      · exact ⟨[H5.size, rb], by simp, fun x hx => by simp at hx; rcases hx with h | h; exact .inl h; exact .inr ⟨h, q⟩, fun _ => by simp⟩
      · exact ⟨[H5.size], by simp, fun x hx => by simp at hx; exact .inl hx, fun h => absurd h q⟩
    have hstb : ∀ {A : Heap} {ts : List Tk}, Ps ⟨H5.size, a, cT, T⟩ A ts 64 → ∀ (M : List Nat) (B : Heap), Fr M A B → (∀ x ∈ M, H.size ≤ x ∧ x ∉ O) → Ps ⟨H5.size, a, cT, T⟩ B ts 64 := fun h M B hf hM => by
      refine h.keep hf (fun hm => (hM _ hm).2 hO1) fun b o e hm => ?_
      replace e : a = some ⟨b, o, none⟩ := e
      rw [ha] at e; cases e
      exact (hM _ hm).2 (hO3 (hM _ hm).1)
    have hbs : rb ∉ [Ent.blk H3.size 31 [.int .i64 0, .int .i64 0], .blk b2 31 [.int .i64 0, .int .i64 0], .blk b1 24 [.int .i64 0, sv [], .int .i64 0, .int .i64 0, .slice none 0 0]].flatMap Ent.bs := by
      simp [Ent.bs]; omega
    have L6 : Lv [] H O (fun A => Ps ⟨H5.size, a, cT, T⟩ A T 64) H6 [.blk H3.size 31 [.int .i64 0, .int .i64 0], .blk b2 31 [.int .i64 0, .int .i64 0], .blk b1 24 [.int .i64 0, sv [], .int .i64 0, .int .i64 0, .slice none 0 0]] [] := by
      have hlo5 := fun x hx => (L.lo x hx).2.2
      have L := L.ext hf6
      refine ⟨L.fr, fun x hx => ?_, L.nd, fun x hx => ?_, fun p hp => ?_, by simp, hstb hps⟩
      · rcases hO2 x hx with q | ⟨q, q2⟩
        · subst q; exact ⟨hn6.lt, .inr (by omega)⟩
        · subst q; exact ⟨by have := hf6.size; omega, .inr q2⟩
      · obtain ⟨h1, h2, h3⟩ := L.lo x hx
        refine ⟨h1, fun hm => ?_, h3⟩
        rcases hO2 x hm with q | ⟨q, q2⟩
        · have := hlo5 x hx; omega
        · subst q; exact hbs hx
      · have h := L.ok p hp
        simp only [List.mem_cons, List.not_mem_nil, or_false] at hp
        rcases hp with rfl | rfl | rfl <;> exact h
    have step : ∀ {A B : Heap} {ts ts' : List Tk} {l : List Ent} {ds : List (Dat × List Value)}, Lv [] H O (fun A => Ps ⟨H5.size, a, cT, T⟩ A ts 64) A l ds → Fr [H5.size] A B → Ps ⟨H5.size, a, cT, T⟩ B ts' 64 → Lv [] H O (fun A => Ps ⟨H5.size, a, cT, T⟩ A ts' 64) B l ds := fun L hf h =>
      L.call (hf.mono fun x hx => .inl (by simp only [List.mem_singleton] at hx; subst hx; exact hO1)) (hstb h)
    have over : ∀ {A : Heap} {ts : List Tk} {e : Flt} {xs ys : List Value} {ds : List (Dat × List Value)} {B : Heap}, Lv [] H O (fun A => Ps ⟨H5.size, a, cT, T⟩ A ts 64) A [.blk H3.size 31 xs, .blk b2 31 [.int .i64 0, .int .i64 0], .blk b1 24 ys] ds → ys.length = 5 → topP p T = .error e → Fr [H5.size] A B →
        DCalls Tryd.prog 33 #[pP b2, pP b1] (.panicking (flt e)) .returning B fun H'' => finN (fun v H' => ResR (topP p T) v H H' ∧ Fr [] H H') H'' (resV [some (pP b1), some (pP b2)] H'' [.cell S0 (some 5), .cell S1 (some 2)]) := by
      intro A ts e xs ys ds B L hy he hf
      have L : Lv [] H O (fun _ => True) B _ ds := L.call (hf.mono fun x hx => .inl (by simp only [List.mem_singleton] at hx; subst hx; exact hO1)) (fun _ _ _ _ => trivial)
      have hne : b2 ≠ b1 := by
        have := L.nd
        simp only [List.flatMap_cons, List.flatMap_nil, Ent.bs, List.cons_append, List.nil_append, List.nodup_cons, List.mem_cons, List.not_mem_nil, or_false] at this
        exact this.2.1
      refine (rec_panic (L.get 1 rfl) rfl (L.get 2 rfl) hy hne).mono ?_
      rintro H2 ⟨hx2, hy2, hf2⟩
      have cx := hx2.cell
      have cy := hy2.cell
      have hlo := L.lo
      rw [he]
      unfold pP
      simp (implicitDefEqProofs := false) only [go_sem, cx, cy, zeroN]
      refine ⟨by simp [ResR, zeroN], L.fr.trans' hf2 fun x hx => .inr ?_⟩
      simp only [List.mem_cons, List.not_mem_nil, or_false] at hx
      rcases hx with rfl | rfl
      · exact (hlo x (by simp [Ent.bs])).1
      · exact (hlo x (by simp [Ent.bs])).1
    simp (implicitDefEqProofs := false) only [go_sem]
    refine ⟨_, _, rfl, rfl, ?_⟩
    simp (implicitDefEqProofs := false) only [go_sem, c24, c24b]
    refine ⟨hg, PCalls.mono (hop.ok hps) ?_ ?_⟩
    · rintro v H7 ⟨n, r, hp, ⟨cs, rfl, hr⟩, hs7, hf7⟩
      obtain ⟨kk, tt, nn, aa, ks⟩ := n
      obtain ⟨kv, rfl, hkv⟩ := RepP.nd_open hr
      have L := (step L6 hf7 hs7).add (L6.built hkv)
      simp (implicitDefEqProofs := false) only [go_sem]
      refine L.stoAll 2 rfl rfl (one_agg (nd_one (L.dat (kidsD ks, [kv]) (by simp)))) fun H8 L => ?_
      simp only [List.set_cons_zero, List.set_cons_succ, List.set_nil, List.eraseIdx_cons_zero, List.eraseIdx_cons_succ] at L
      simp (implicitDefEqProofs := false) only [go_sem]
      refine (look_ok L.st).mono ?_
      rintro v H9 ⟨rfl, hf9⟩
      have L := L.ext hf9
      have c2 := L.cell 2 rfl
      have c1 := L.cell 1 rfl
      by_cases k6 : (hd r).kind = 6
      · simp (implicitDefEqProofs := false) only [go_sem, tkC, k6, c2]
        refine L.stoAll 2 rfl rfl (one_agg (nd_one (L.dat (kidsD ks, [kv]) (by simp)))) fun HA L => ?_
        simp only [List.set_cons_zero, List.set_cons_succ, List.set_nil, List.eraseIdx_cons_zero, List.eraseIdx_cons_succ] at L
        simp (implicitDefEqProofs := false) only [go_sem]
        refine L.stoAll 1 rfl rfl (by simp [Value.oneCell']) fun HB L => ?_
        simp only [List.set_cons_zero, List.set_cons_succ, List.set_nil, List.eraseIdx_cons_zero, List.eraseIdx_cons_succ] at L
        simp (implicitDefEqProofs := false) only [go_sem]
        refine (rec_ret (x := b2) (y := b1) HB).mono ?_
        rintro H2 rfl
        have c2 := L.cell 2 rfl
        have c1 := L.cell 1 rfl
        simp (implicitDefEqProofs := false) only [go_sem, c1, c2]
        have ht : topP p T = .ok (.mk kk tt nn aa ks) := by unfold topP; rw [hp]; simp only [k6, if_true]
        rw [ht]
        have hk := L.dat (kidsD ks, [kv]) (by simp)
        exact ⟨⟨_, rfl, RepP.nd (hk.more fun x hx => .inl (.inl hx))⟩, L.fr⟩
      · simp (implicitDefEqProofs := false) only [go_sem, tkC, k6]
        refine (fail_ok L.st 2).mono (fun _ _ h => h.elim) ?_
        rintro ch HA ⟨rfl, hfA⟩
        refine over L rfl ?_ (fr1 hfA)
        unfold topP; rw [hp]; simp only [k6, if_false]
    · rintro ch H7 ⟨e, hp, rfl, hf7⟩
      exact over L6 rfl (by unfold topP; rw [hp]) hf7

theorem pexpr1_ok : POk 64 25 [] (exprP (loK 64)) NdR := by
  refine ⟨fun {X H ts} hs => ?_⟩
  refine pcalls_of_vc (args := [_]) Tryd.func25 c25ok (Nat.le_of_ble_eq_true rfl) ?_
  have L := hs.walk
  simp (implicitDefEqProofs := false) only [go_sem, c25]
  refine L.newP fun b1 H1 L => ?_
  simp (implicitDefEqProofs := false) only [go_sem]
  refine (lev_ok 64).1.goL hs L (P0 := exprP (loK 64) ts) rfl fun kk tt nn aa ks kv r H5 L hp => ?_
  simp (implicitDefEqProofs := false) only [go_sem]
  refine L.stoAll 0 rfl rfl (one_agg (L.one (ks := ks) (by simp))) fun HZ L => ?_
  simp only [List.set_cons_zero, List.set_cons_succ, List.set_nil, List.eraseIdx_cons_zero, List.eraseIdx_cons_succ] at L
  have c := L.cell 0 rfl
  simp (implicitDefEqProofs := false) only [go_sem, c]
  exact L.fin hp (.inl (by simp))
theorem pparse1_ok : POk 64 28 [] progP NdR := by
  refine ⟨fun {X H ts} hs => ?_⟩
  refine pcalls_of_vc (args := [_]) Tryd.func28 c28ok (Nat.le_of_ble_eq_true rfl) ?_
  have L := hs.walk
  have hlen := L.len
  simp (implicitDefEqProofs := false) only [go_sem, c28]
  refine L.newP fun b1 H1 L => ?_
  simp (implicitDefEqProofs := false) only [go_sem]
  refine L.newP fun b2 H2 L => ?_
  simp (implicitDefEqProofs := false) only [go_sem]
  refine L.stoAll 0 rfl rfl (one_agg (t := []) rfl) fun H3 L => ?_
  simp only [List.set_cons_zero, List.set_cons_succ, List.set_nil, List.eraseIdx_cons_zero, List.eraseIdx_cons_succ] at L
  have L := L.row0 24 5
  simp (implicitDefEqProofs := false) only [go_sem]
  refine vc_loop (fun (s : List Tk × List Nd × (Option Addr × Nat)) H' => ∃ g f, PLv X H s.1 64 H' [.row 24 5 (.slice s.2.2.1 s.2.1.length s.2.2.2) (s.2.1.map Nd.dat) g, .blk b2 24 [.int .i64 1, sv [], .int .i64 0, .int .i64 0, .slice s.2.2.1 s.2.1.length s.2.2.2], .blk b1 24 [.int .i64 0, sv [], .int .i64 0, .int .i64 0, .slice none 0 0]] [] ∧ s.2.1.length + s.1.length ≤ 1048576 ∧
    progP ts = bd (progF (f + 1) s.2.1) (fun l => ret (.mk 1 [] 0 0 l)) s.1 ∧ s.1.length ≤ f)
    (fun s => [(0, ptr X.b), (2, .pointer (some ⟨b1, 0, none⟩)), (3, .pointer (some ⟨b2, 0, none⟩))]) (fun s => s.1.length) (ts, [], (none, 0)) ?_ ?_ ?_
  · exact ⟨none, ts.length, L, by simpa using hlen, rfl, Nat.le_refl _⟩
  · simp (implicitDefEqProofs := false) only [go_sem, ptr]
  · rintro ⟨cur, ns, va, vc⟩ H4 ⟨g, f, L, hle, hp, hf⟩
    simp only at L hp hf hle ⊢
    have hne := L.ps.nil
    have hcur := List.length_pos_iff.2 hne
    have hp : progP ts = if (hd cur).kind = 6 then ret (Nd.mk 1 [] 0 0 ns) cur else bd declP (fun d => bd (progF f (ns ++ [d])) (fun l => ret (.mk 1 [] 0 0 l))) cur := by
      rw [hp]
      conv => lhs; unfold bd progF
      by_cases e : (hd cur).kind = 6
      · simp only [e, if_true]
      · simp only [e, if_false]
        rw [← bd_bd]; rfl
    simp (implicitDefEqProofs := false) only [go_sem]
    refine look_go L fun H5 L => ?_
    by_cases k6 : (hd cur).kind = 6
    · rw [if_pos k6] at hp
      simp (implicitDefEqProofs := false) only [go_sem, tkC, k6]
      have L := L.rowN 0 ns rfl
      simp only [List.set_cons_zero, List.set_cons_succ, List.set_nil, List.eraseIdx_cons_zero, List.eraseIdx_cons_succ] at L
      have c := L.cell 0 rfl
      simp (implicitDefEqProofs := false) only [go_sem, c]
      refine L.stoAll 1 rfl rfl (one_agg (t := []) rfl) fun HZ L => ?_
      simp only [List.set_cons_zero, List.set_cons_succ, List.set_nil, List.eraseIdx_cons_zero, List.eraseIdx_cons_succ] at L
      have c := L.cell 1 rfl
      simp (implicitDefEqProofs := false) only [go_sem, c]
      exact L.fin hp (.inl (by simp))
    · rw [if_neg k6] at hp
      have c := L.cell 1 rfl
      simp (implicitDefEqProofs := false) only [go_sem, tkC, k6, c]
      refine declaration_ok.goN hs L hp fun kk tt nn aa ks kv r1 H6 L hp he => ?_
      have hlt := declP_lt he hne
      have c := L.cell 1 rfl
      simp (implicitDefEqProofs := false) only [go_sem, c]
      refine L.newS fun bA HA L => ?_
      have c := L.cell 2 rfl
      simp (implicitDefEqProofs := false) only [go_sem, c]
      refine L.appN (ns := ns) (ks := ks) 0 rfl (by simp) (by omega) fun a c g' HB L => ?_
      simp only [List.set_cons_zero, List.set_cons_succ, List.set_nil, List.eraseIdx_cons_zero, List.eraseIdx_cons_succ] at L
      simp (implicitDefEqProofs := false) only [go_sem]
      refine L.stoOne 1 rfl (by simp) rfl fun HC L => ?_
      simp only [List.set_cons_zero, List.set_cons_succ, List.set_nil, List.eraseIdx_cons_zero, List.eraseIdx_cons_succ] at L
      simp (implicitDefEqProofs := false) only [go_sem]
      obtain ⟨f, rfl⟩ : ∃ f', f = f' + 1 := ⟨f - 1, by omega⟩
      refine loopK_intro (r1, ns ++ [.mk kk tt nn aa ks], (a, c)) ?_ ?_ ⟨g', f, L.drop (List.Sublist.refl _) (by simp), ?_, hp, show r1.length ≤ f by omega⟩
      · show r1.length < cur.length
        omega
      · simp (implicitDefEqProofs := false) only [go_sem]
      · simp only [List.length_append, List.length_cons, List.length_nil]; omega

section
variable (s : Bs) (hl : s.length ≤ maxLen) {H : Heap} (hG : GlobH H)
include hl hG
theorem pexpr_ok : HCalls Tryd.prog 16 #[sv s] H fun v H' => ResR (srcP (exprP (loK 64)) s) v H H' ∧ Fr [] H H' := by
  refine calls_of_vc (args := [_]) Tryd.func16 c16ok (Nat.le_of_ble_eq_true rfl) ?_
  have L : Lv [] H [] (fun _ => True) H [] [] := Lv.start (by simp) (fun _ _ _ _ => trivial)
  simp (implicitDefEqProofs := false) only [go_sem, c16]
  refine L.newP fun b1 H1 L => ?_
  simp (implicitDefEqProofs := false) only [go_sem]
  refine L.newP fun b2 H2 L => ?_
  simp (implicitDefEqProofs := false) only [go_sem]
  refine (prun_ok (g := 25) (by kernel_rfl) pexpr1_ok s hl (hG.ext L.fr)).mono ?_
  rintro v H3 ⟨hv, hf3⟩
  cases e : srcP (exprP (loK 64)) s with
  | error e =>
    rw [e] at hv
    simp only [ResR] at hv
    subst hv
    have L := L.ext hf3
    simp (implicitDefEqProofs := false) only [go_sem, zeroN, sv]
    refine L.stoAll 1 rfl rfl (by simp [Value.oneCell']) fun H4 L => ?_
    simp only [List.set_cons_zero, List.set_cons_succ, List.set_nil, List.eraseIdx_cons_zero, List.eraseIdx_cons_succ] at L
    simp (implicitDefEqProofs := false) only [go_sem]
    refine L.stoAll 0 rfl rfl (by simp [Value.oneCell']) fun H5 L => ?_
    simp only [List.set_cons_zero, List.set_cons_succ, List.set_nil, List.eraseIdx_cons_zero, List.eraseIdx_cons_succ] at L
    have c0 := L.cell 0 rfl
    have c1 := L.cell 1 rfl
    simp (implicitDefEqProofs := false) only [go_sem, c0, c1]
    exact ⟨by simp [ResR, zeroN, sv], L.fr⟩
  | ok n =>
    rw [e] at hv
    simp only [ResR] at hv
    obtain ⟨cs, rfl, hr⟩ := hv
    obtain ⟨kk, tt, nn, aa, ks⟩ := n
    obtain ⟨kv, rfl, hkv⟩ := RepP.nd_open hr
    have L := (L.ext hf3).add (L.built hkv)
    simp (implicitDefEqProofs := false) only [go_sem]
    refine L.stoAll 1 rfl rfl (one_agg (nd_one (L.dat (kidsD ks, [kv]) (by simp)))) fun H4 L => ?_
    simp only [List.set_cons_zero, List.set_cons_succ, List.set_nil, List.eraseIdx_cons_zero, List.eraseIdx_cons_succ] at L
    simp (implicitDefEqProofs := false) only [go_sem]
    refine L.stoAll 0 rfl rfl (by simp [Value.oneCell']) fun H5 L => ?_
    simp only [List.set_cons_zero, List.set_cons_succ, List.set_nil, List.eraseIdx_cons_zero, List.eraseIdx_cons_succ] at L
    have c0 := L.cell 0 rfl
    have c1 := L.cell 1 rfl
    simp (implicitDefEqProofs := false) only [go_sem, c0, c1]
    exact ⟨⟨_, rfl, RepP.nd ((L.dat (kidsD ks, [kv]) (by simp)).more fun x hx => .inl (.inl hx))⟩, L.fr⟩
theorem pparse_ok : HCalls Tryd.prog 21 #[sv s] H fun v H' => ResR (srcP progP s) v H H' ∧ Fr [] H H' := by
  refine calls_of_vc (args := [_]) Tryd.func21 c21ok (Nat.le_of_ble_eq_true rfl) ?_
  have L : Lv [] H [] (fun _ => True) H [] [] := Lv.start (by simp) (fun _ _ _ _ => trivial)
  simp (implicitDefEqProofs := false) only [go_sem, c21]
  refine L.newP fun b1 H1 L => ?_
  simp (implicitDefEqProofs := false) only [go_sem]
  refine L.newP fun b2 H2 L => ?_
  simp (implicitDefEqProofs := false) only [go_sem]
  refine (prun_ok (g := 28) (by kernel_rfl) pparse1_ok s hl (hG.ext L.fr)).mono ?_
  rintro v H3 ⟨hv, hf3⟩
  cases e : srcP progP s with
  | error e =>
    rw [e] at hv
    simp only [ResR] at hv
    subst hv
    have L := L.ext hf3
    simp (implicitDefEqProofs := false) only [go_sem, zeroN, sv]
    refine L.stoAll 1 rfl rfl (by simp [Value.oneCell']) fun H4 L => ?_
    simp only [List.set_cons_zero, List.set_cons_succ, List.set_nil, List.eraseIdx_cons_zero, List.eraseIdx_cons_succ] at L
    simp (implicitDefEqProofs := false) only [go_sem]
    refine L.stoAll 0 rfl rfl (by simp [Value.oneCell']) fun H5 L => ?_
    simp only [List.set_cons_zero, List.set_cons_succ, List.set_nil, List.eraseIdx_cons_zero, List.eraseIdx_cons_succ] at L
    have c0 := L.cell 0 rfl
    have c1 := L.cell 1 rfl
    simp (implicitDefEqProofs := false) only [go_sem, c0, c1]
    exact ⟨by simp [ResR, zeroN, sv], L.fr⟩
  | ok n =>
    rw [e] at hv
    simp only [ResR] at hv
    obtain ⟨cs, rfl, hr⟩ := hv
    obtain ⟨kk, tt, nn, aa, ks⟩ := n
    obtain ⟨kv, rfl, hkv⟩ := RepP.nd_open hr
    have L := (L.ext hf3).add (L.built hkv)
    simp (implicitDefEqProofs := false) only [go_sem]
    refine L.stoAll 1 rfl rfl (one_agg (nd_one (L.dat (kidsD ks, [kv]) (by simp)))) fun H4 L => ?_
    simp only [List.set_cons_zero, List.set_cons_succ, List.set_nil, List.eraseIdx_cons_zero, List.eraseIdx_cons_succ] at L
    simp (implicitDefEqProofs := false) only [go_sem]
    refine L.stoAll 0 rfl rfl (by simp [Value.oneCell']) fun H5 L => ?_
    simp only [List.set_cons_zero, List.set_cons_succ, List.set_nil, List.eraseIdx_cons_zero, List.eraseIdx_cons_succ] at L
    have c0 := L.cell 0 rfl
    have c1 := L.cell 1 rfl
    simp (implicitDefEqProofs := false) only [go_sem, c0, c1]
    exact ⟨⟨_, rfl, RepP.nd ((L.dat (kidsD ks, [kv]) (by simp)).more fun x hx => .inl (.inl hx))⟩, L.fr⟩
end
end Go.Proofs.YtbgjgaaobnbijaaDoor
