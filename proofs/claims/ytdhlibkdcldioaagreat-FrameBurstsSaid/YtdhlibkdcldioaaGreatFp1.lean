/- What the laws of messages need: plain facts. -/
import Derived.Test.YtdhlibkdcldioaaGreatFsm
import Derived.Test.YtdhlibkdcldioaaGreatFaw
import Derived.Test.YtdhlibkdcldioaaGreatGx14
set_option linter.unusedSimpArgs false
set_option linter.unusedVariables false
set_option maxRecDepth 8000
namespace Go.Proofs.YtdhlibkdcldioaaGreat
open Gx Go

theorem small_len {m : Msg} (h : bM m) : (encT tMsg m.tup).length < 2^37 := by have := bM_le h; omega
theorem small_enc {m : Msg} (h : bM m) : formB m = true → (encM m).length ≤ 2^24 - 4 := fun hf => by
  have := bM_le h
  have := encM_le hf
  omega
theorem decA_seal {m : Msg} (hf : formB m = true) (ho : okM m) (hl : (encM m).length ≤ 2^24 - 4) : decA (sealB (encM m)) = (m, 0) := by
  have h1 : (sealB (encM m)).length = (encM m).length + 4 := sealB_len _
  have ht : (sealB (encM m)).take (encM m).length = encM m := by unfold sealB; exact List.take_left
  unfold decA
  rw [h1, if_neg (by omega), if_neg (by omega), Nat.add_sub_cancel, ht, if_pos rfl, decF_encM hf ho (by omega)]
theorem decA_nil : decA [] = (Msg.zero, 2) := by
  unfold decA
  rw [if_neg (by simp), if_pos (by simp)]
theorem decF_ok {L : Bs} {m : Msg} (hL : L.length < 2^63) (h : decF L = some m) : okM m := by
  unfold decF at h
  split at h
  · rename_i m' hm
    split at h
    · cases h; exact decM_ok hL hm
    · cases h
  · cases h
/-- No proper part at the beginning of an encoding, and nothing that continues it, is one. -/
theorem decF_cut {m : Msg} (hf : formB m = true) (ho : okM m) (hl : (encM m).length < 2^40) {p r : Bs} (he : p ++ r = encM m) (hr : r ≠ []) : decF p = none := by
  cases hd : decF p with
  | none => rfl
  | some m' =>
    exfalso
    obtain ⟨h1, h2⟩ := decF_some hd
    have hpl : p.length < 2^63 := by have := congrArg List.length he; simp only [List.length_append] at this; omega
    have h3 := decF_ok hpl hd
    have := (encM_free (r := []) (r' := r) hf h2 ho h3 (by simp; omega) (by rw [List.append_nil, h1, he])).2
    exact hr this.symm
theorem decF_more {m : Msg} (hf : formB m = true) (ho : okM m) {r : Bs} (hl : (encM m ++ r).length < 2^40) (hr : r ≠ []) : decF (encM m ++ r) = none := by
  cases hd : decF (encM m ++ r) with
  | none => rfl
  | some m' =>
    exfalso
    obtain ⟨h1, h2⟩ := decF_some hd
    have h3 := decF_ok (by omega) hd
    have := (encM_free (r := r) (r' := []) hf h2 ho h3 (by omega) (by rw [List.append_nil, h1])).2
    exact hr this
theorem decA_cut {m : Msg} (hf : formB m = true) (ho : okM m) (hl : (encM m).length ≤ 2^24 - 4) {cut : Nat} (hc : cut < (sealB (encM m)).length) : decA ((sealB (encM m)).take cut) = (Msg.zero, 2) := by
  have h1 : (sealB (encM m)).length = (encM m).length + 4 := sealB_len _
  have hlen : ((sealB (encM m)).take cut).length = cut := by rw [List.length_take]; omega
  unfold decA
  rw [hlen, if_neg (by omega)]
  by_cases h4 : cut < 4
  · rw [if_pos h4]
  · rw [if_neg h4]
    have ht : ((sealB (encM m)).take cut).take (cut - 4) = (encM m).take (cut - 4) := by
      rw [List.take_take, Nat.min_eq_left (by omega)]
      unfold sealB
      rw [List.take_append_of_le_length (by omega)]
    rw [ht]
    have hn : decF ((encM m).take (cut - 4)) = none := decF_cut hf ho (by omega) (List.take_append_drop _ _) (by
      intro h
      have := congrArg List.length h
      simp only [List.length_drop, List.length_nil] at this
      omega)
    rw [hn]
    split <;> rfl
theorem decA_more {m : Msg} (hf : formB m = true) (ho : okM m) (hl : (encM m).length ≤ 2^23) {r : Bs} (hr : r ≠ []) (hrl : r.length ≤ 100) : decA (sealB (encM m) ++ r) = (Msg.zero, 2) := by
  have h1 : (sealB (encM m)).length = (encM m).length + 4 := sealB_len _
  have hr0 : 0 < r.length := List.length_pos_iff.2 hr
  have hlen : (sealB (encM m) ++ r).length = (encM m).length + 4 + r.length := by rw [List.length_append, h1]
  unfold decA
  rw [hlen, if_neg (by omega), if_neg (by omega)]
  obtain ⟨q, hq, hq0⟩ : ∃ q, (sealB (encM m) ++ r).take ((encM m).length + 4 + r.length - 4) = encM m ++ q ∧ q.length = r.length := by
    refine ⟨(le4 (crc (encM m)) ++ r).take r.length, ?_, ?_⟩
    · unfold sealB
      rw [List.append_assoc, List.take_append, List.take_of_length_le (by omega)]
      congr 2
      omega
    · rw [List.length_take, List.length_append]; omega
  rw [hq]
  have hn : decF (encM m ++ q) = none := decF_more hf ho (by rw [List.length_append]; omega) (by intro h; rw [h] at hq0; simp at hq0; omega)
  rw [hn]
  split <;> rfl
theorem seal_inj {a b : Msg} (ha : formB a = true) (hb : formB b = true) (oa : okM a) (ob : okM b) (hl : (encM a).length < 2^40) : sealB (encM a) = sealB (encM b) ↔ a = b := by
  constructor
  · intro h
    exact (encM_free (r := le4 (crc (encM a))) (r' := le4 (crc (encM b))) ha hb oa ob (by rw [List.length_append, le4_len]; omega) h).1
  · rintro rfl; rfl
theorem eqB_tup (a b : Msg) : eqB a.tup b.tup = eqB a b := by
  by_cases h : a = b
  · rw [eqB_true h, eqB_true (by rw [h])]
  · rw [eqB_false h, eqB_false (fun e => h (tup_inj e))]
theorem Own.cap_max {H : Heap} {e z n c : Nat} {a : Option Addr} {xs : List Value} {g : Option Nat} (h : Own H e z (.slice a n c) n xs g) : c ≤ maxLen := by
  rcases h.2 with ⟨_, e, _⟩ | ⟨b, cap, cur, _, e, _, _, h5, _⟩
  · simp only [Value.slice.injEq] at e; obtain ⟨_, _, rfl⟩ := e; decide
  · simp only [Value.slice.injEq] at e; obtain ⟨_, _, rfl⟩ := e; exact h5
def DR (t : Ty) (d : den t) (cs : List Value) (H : Heap) : Prop := Rep H [] (datT t d) cs ∧ okT t d

theorem reps_of {H : Heap} {M : List Nat} : ∀ {ds : List Dat} {css : List (List Value)}, css.length = ds.length → (∀ (i : Nat) (h : i < css.length) (h' : i < ds.length), Rep H M ds[i] css[i]) → Reps H M ds css
  | [], [], _, _ => by simp [Reps]
  | d :: ds, c :: css, hl, h => by
    simp only [Reps]
    exact ⟨c, css, rfl, h 0 (by simp) (by simp), reps_of (by simpa using hl) fun i hi hi' => h (i + 1) (by simpa using hi) (by simpa using hi')⟩
  | [], _ :: _, hl, _ => by simp at hl
  | _ :: _, [], hl, _ => by simp at hl
theorem flatten_dropW {m : Nat} : ∀ {css : List (List Value)} (q : Nat), (∀ x ∈ css, x.length = m) → css.flatten.drop (q * m) = (css.drop q).flatten
  | css, 0, _ => by simp
  | [], q + 1, _ => by simp
  | c :: css, q + 1, h => by
    have hc := h c (by simp)
    rw [List.flatten_cons, List.drop_append, show (q + 1) * m = q * m + m from by rw [Nat.add_mul, Nat.one_mul], List.drop_eq_nil_of_le (by omega), List.nil_append, hc, Nat.add_sub_cancel, flatten_dropW q (fun x hx => h x (by simp [hx])), List.drop_succ_cons]
theorem flat_getW {m : Nat} {css : List (List Value)} (h : ∀ x ∈ css, x.length = m) {q r : Nat} (hq : q < css.length) (hr : r < m) : css.flatten[q * m + r]? = css[q][r]? := by
  have h2 : css.flatten[q * m + r]? = (css.flatten.drop (q * m))[r]? := by simp
  rw [h2, flatten_dropW q h, List.drop_eq_getElem_cons hq, List.flatten_cons, List.getElem?_append_left (by rw [h _ (List.getElem_mem hq)]; exact hr)]
theorem DR.list {t : Ty} {m : Nat} (hm : wid t = m) {H : Heap} {l : List (den t)} {cs : List Value} (h : SlR (DR t) m l cs H) : DR (.list t) l cs H := by
  subst hm
  have h0 := wid_pos t
  obtain ⟨a, c, rfl, h1, h2, h3⟩ := h
  have hlen : l.length < 2^63 := by unfold maxLen at h2; omega
  unfold DR
  simp only [datT, Rep]
  rcases h3 with h3 | ⟨b, o, h4, h5⟩
  · subst h3
    exact ⟨⟨a, c, [], rfl, by simp, h2, by simp [Reps], by simp, .inl rfl⟩, by simp [okT]⟩
  · refine ⟨?_, hlen, fun x hx => by
      obtain ⟨i, hi, rfl⟩ := List.getElem_of_mem hx
      obtain ⟨vs, _, _, q⟩ := h5 i hi
      exact q.2⟩
    have hq : ∀ i, i < l.length → ∃ vs : List Value, vs.length = wid t ∧ (∀ k, k < wid t → cellB H b (o + i * wid t + k) = vs[k]?) ∧ ∀ hi : i < l.length, Rep H [] (datT t l[i]) vs := fun i hi => by
      obtain ⟨vs, q1, q2, q3⟩ := h5 i hi
      exact ⟨vs, q1, q2, fun _ => q3.1⟩
    obtain ⟨css, e1, e2⟩ := list_of (β := Unit) hq
    have hm : ∀ x ∈ css, x.length = wid t := fun x hx => by
      obtain ⟨i, hi, rfl⟩ := List.getElem_of_mem hx
      exact (e2 i hi).1
    refine ⟨a, c, css, by simp, by simpa using h1, h2, reps_of (by simpa using e1) fun i hi hi' => ?_, hm, .inr ⟨b, o, h4, by simp, fun j hj => ?_⟩⟩
    · rw [List.getElem_map]
      exact (e2 i hi).2.2 (by omega)
    · have hlen : css.flatten.length = css.length * wid t := flatten_len hm
      have hqj : j / wid t < css.length := by rw [hlen] at hj; exact (Nat.div_lt_iff_lt_mul h0).2 hj
      have hrj : j % wid t < wid t := Nat.mod_lt _ h0
      have e : j = j / wid t * wid t + j % wid t := by rw [Nat.mul_comm, Nat.div_add_mod]
      have h8 := (e2 _ hqj).2.1 _ hrj
      rw [← flat_getW hm hqj hrj, ← e, Nat.add_assoc, ← e] at h8
      rw [h8, List.getElem?_eq_getElem hj]

theorem op_imp {P : Program} {t : TypeId} {α β : Type} {R : α → List Value → Heap → Prop} {S : β → List Value → Heap → Prop} (h : Opens P t R) (hi : ∀ a cs H, R a cs H → ∃ b, S b cs H) : Opens P t S := by
  intro H enc W base sp held fuel cs x hx
  obtain ⟨a, ha⟩ := h hx
  exact hi _ _ _ ha
theorem opens_num {P : Program} {t : TypeId} (ht : P.underlying t = some (.int .i64)) : Opens P t (DR .num) :=
  op_imp (opens_int ht) fun n cs H h => ⟨n, by
    obtain ⟨rfl, h⟩ := h
    refine ⟨by simp [datT, Rep], ?_⟩
    simp only [Lit.wf, IntKind.min, IntKind.max, IntKind.signed, IntKind.bits, Bool.and_eq_true, decide_eq_true_eq] at h
    simp at h
    show (-9223372036854775808 : Int) ≤ n ∧ (n : Int) < 9223372036854775808
    omega⟩
theorem opens_boolT {P : Program} {t : TypeId} (ht : P.underlying t = some .bool) : Opens P t (DR .bool) :=
  op_imp (opens_bool ht) fun b cs H h => ⟨b, by
    cases h
    exact ⟨by simp [datT, Rep], trivial⟩⟩
theorem opens_text {P : Program} {t : TypeId} (ht : P.underlying t = some .string) : Opens P t (DR .text) :=
  op_imp (opens_str ht) fun b cs H h => ⟨b, by
    obtain ⟨rfl, h⟩ := h
    unfold maxLen at h
    refine ⟨by simp [datT, Rep], ?_⟩
    simp only [okT]
    omega⟩
theorem opens_bts {P : Program} {t e : TypeId} (ht : P.underlying t = some (.slice e)) (hc : P.cellsOf e = 1) (he : P.underlying e = some (.int .u8)) : Opens P t (DR .bytes) :=
  op_imp (opens_bytes ht hc he) fun b cs H h => ⟨b, by
    obtain ⟨a, c, rfl, h1, h2, h3⟩ := h
    refine ⟨rep_bytes.2 ⟨a, c, rfl, h1, h2, CsA.of_csR (csR_bsR.2 h3)⟩, ?_⟩
    unfold maxLen at h2
    simp only [okT]
    omega⟩
theorem opens_list {P : Program} {t e m : Nat} {s : Ty} (ht : P.underlying t = some (.slice e)) (hc : P.cellsOf e = m) (hm : wid s = m) (he : Opens P e (DR s)) : Opens P t (DR (.list s)) :=
  op_imp (opens_slice ht hc (by have := wid_pos s; omega) he) fun l cs H h => ⟨l, DR.list hm h⟩
theorem DR.step {a b : Ty} {x : den a} {y : den b} {cs : List Value} {H : Heap} {o w : Nat} (h1 : DR a x ((cs.drop o).take w) H) (h2 : DR b y (cs.drop (o + w)) H) : DR (.pair a b) (x, y) (cs.drop o) H := by
  refine ⟨rep_pair.2 ⟨_, _, ?_, h1.1, h2.1⟩, h1.2, h2.2⟩
  rw [← List.drop_drop, List.take_append_drop]
theorem DR.last {b : Ty} {y : den b} {cs : List Value} {H : Heap} {o w : Nat} (hl : cs.length ≤ o + w) (h : DR b y ((cs.drop o).take w) H) : DR b y (cs.drop o) H := by
  rwa [List.take_of_length_le (by rw [List.length_drop]; omega)] at h
theorem DR.start {b : Ty} {y : den b} {cs : List Value} {H : Heap} (h : DR b y (cs.drop 0) H) : DR b y cs H := by simpa using h

abbrev tClaim : Ty := .pair tRound (.pair (.list tRead) (.pair (.list tCmd) (.pair (.list tCmd) (.pair .num .bytes))))

theorem op_int : Opens Tryz.prog 3 (DR .num) := opens_num Tryz.underlying3
theorem op_text : Opens Tryz.prog 9 (DR .text) := opens_text Tryz.underlying9
theorem op_bool : Opens Tryz.prog 4 (DR .bool) := opens_boolT Tryz.underlying4
theorem op_bytes : Opens Tryz.prog 22 (DR .bytes) := opens_bts Tryz.underlying22 (by kernel_rfl) Tryz.underlying5
theorem op_texts : Opens Tryz.prog 36 (DR (.list .text)) := opens_list Tryz.underlying36 (by kernel_rfl) rfl op_text
theorem op_bytess : Opens Tryz.prog 69 (DR (.list .bytes)) := opens_list Tryz.underlying69 (by kernel_rfl) rfl op_bytes
theorem op_round : Opens Tryz.prog 29 (DR tRound) := by
  intro H enc W base sp held fuel cs x h
  obtain ⟨hl, hf⟩ := struct_fields Tryz.underlying29 h
  have hc : Tryz.prog.cellsOf 29 = 3 := by kernel_rfl
  rw [hc] at hl
  obtain ⟨x0, h0⟩ := hf 0 _ rfl (m := 1) (by kernel_rfl) op_int
  obtain ⟨x1, h1⟩ := hf 1 _ rfl (m := 1) (by kernel_rfl) op_int
  obtain ⟨x2, h2⟩ := hf 2 _ rfl (m := 1) (by kernel_rfl) op_int
  refine ⟨(x0, x1, x2), DR.start ?_⟩
  refine DR.step (o := 0) (w := 1) h0 ?_
  refine DR.step (o := 1) (w := 1) h1 ?_
  exact DR.last (o := 2) (w := 1) (by omega) h2
theorem op_read : Opens Tryz.prog 92 (DR tRead) := by
  intro H enc W base sp held fuel cs x h
  obtain ⟨hl, hf⟩ := struct_fields Tryz.underlying92 h
  have hc : Tryz.prog.cellsOf 92 = 3 := by kernel_rfl
  rw [hc] at hl
  obtain ⟨x0, h0⟩ := hf 0 _ rfl (m := 1) (by kernel_rfl) op_int
  obtain ⟨x1, h1⟩ := hf 1 _ rfl (m := 1) (by kernel_rfl) op_int
  obtain ⟨x2, h2⟩ := hf 2 _ rfl (m := 1) (by kernel_rfl) op_bytes
  refine ⟨(x0, x1, x2), DR.start ?_⟩
  refine DR.step (o := 0) (w := 1) h0 ?_
  refine DR.step (o := 1) (w := 1) h1 ?_
  exact DR.last (o := 2) (w := 1) (by omega) h2
theorem op_reads : Opens Tryz.prog 30 (DR (.list tRead)) := opens_list Tryz.underlying30 (by kernel_rfl) rfl op_read
theorem op_write : Opens Tryz.prog 113 (DR tWrite) := by
  intro H enc W base sp held fuel cs x h
  obtain ⟨hl, hf⟩ := struct_fields Tryz.underlying113 h
  have hc : Tryz.prog.cellsOf 113 = 2 := by kernel_rfl
  rw [hc] at hl
  obtain ⟨x0, h0⟩ := hf 0 _ rfl (m := 1) (by kernel_rfl) op_text
  obtain ⟨x1, h1⟩ := hf 1 _ rfl (m := 1) (by kernel_rfl) op_bytes
  refine ⟨(x0, x1), DR.start ?_⟩
  refine DR.step (o := 0) (w := 1) h0 ?_
  exact DR.last (o := 1) (w := 1) (by omega) h1
theorem op_writes : Opens Tryz.prog 97 (DR (.list tWrite)) := opens_list Tryz.underlying97 (by kernel_rfl) rfl op_write
theorem op_cmd : Opens Tryz.prog 99 (DR tCmd) := by
  intro H enc W base sp held fuel cs x h
  obtain ⟨hl, hf⟩ := struct_fields Tryz.underlying99 h
  have hc : Tryz.prog.cellsOf 99 = 6 := by kernel_rfl
  rw [hc] at hl
  obtain ⟨x0, h0⟩ := hf 0 _ rfl (m := 1) (by kernel_rfl) op_int
  obtain ⟨x1, h1⟩ := hf 1 _ rfl (m := 1) (by kernel_rfl) op_int
  obtain ⟨x2, h2⟩ := hf 2 _ rfl (m := 1) (by kernel_rfl) op_int
  obtain ⟨x3, h3⟩ := hf 3 _ rfl (m := 1) (by kernel_rfl) op_writes
  obtain ⟨x4, h4⟩ := hf 4 _ rfl (m := 1) (by kernel_rfl) op_int
  obtain ⟨x5, h5⟩ := hf 5 _ rfl (m := 1) (by kernel_rfl) op_bytes
  refine ⟨(x0, x1, x2, x3, x4, x5), DR.start ?_⟩
  refine DR.step (o := 0) (w := 1) h0 ?_
  refine DR.step (o := 1) (w := 1) h1 ?_
  refine DR.step (o := 2) (w := 1) h2 ?_
  refine DR.step (o := 3) (w := 1) h3 ?_
  refine DR.step (o := 4) (w := 1) h4 ?_
  exact DR.last (o := 5) (w := 1) (by omega) h5
theorem op_cmds : Opens Tryz.prog 32 (DR (.list tCmd)) := opens_list Tryz.underlying32 (by kernel_rfl) rfl op_cmd
theorem op_ack : Opens Tryz.prog 103 (DR tAck) := by
  intro H enc W base sp held fuel cs x h
  obtain ⟨hl, hf⟩ := struct_fields Tryz.underlying103 h
  have hc : Tryz.prog.cellsOf 103 = 2 := by kernel_rfl
  rw [hc] at hl
  obtain ⟨x0, h0⟩ := hf 0 _ rfl (m := 1) (by kernel_rfl) op_int
  obtain ⟨x1, h1⟩ := hf 1 _ rfl (m := 1) (by kernel_rfl) op_bytes
  refine ⟨(x0, x1), DR.start ?_⟩
  refine DR.step (o := 0) (w := 1) h0 ?_
  exact DR.last (o := 1) (w := 1) (by omega) h1
theorem op_acks : Opens Tryz.prog 33 (DR (.list tAck)) := opens_list Tryz.underlying33 (by kernel_rfl) rfl op_ack
theorem op_claim : Opens Tryz.prog 62 (DR tClaim) := by
  intro H enc W base sp held fuel cs x h
  obtain ⟨hl, hf⟩ := struct_fields Tryz.underlying62 h
  have hc : Tryz.prog.cellsOf 62 = 8 := by kernel_rfl
  rw [hc] at hl
  obtain ⟨x0, h0⟩ := hf 0 _ rfl (m := 3) (by kernel_rfl) op_round
  obtain ⟨x1, h1⟩ := hf 1 _ rfl (m := 1) (by kernel_rfl) op_reads
  obtain ⟨x2, h2⟩ := hf 2 _ rfl (m := 1) (by kernel_rfl) op_cmds
  obtain ⟨x3, h3⟩ := hf 3 _ rfl (m := 1) (by kernel_rfl) op_cmds
  obtain ⟨x4, h4⟩ := hf 4 _ rfl (m := 1) (by kernel_rfl) op_int
  obtain ⟨x5, h5⟩ := hf 5 _ rfl (m := 1) (by kernel_rfl) op_bytes
  refine ⟨(x0, x1, x2, x3, x4, x5), DR.start ?_⟩
  refine DR.step (o := 0) (w := 3) h0 ?_
  refine DR.step (o := 3) (w := 1) h1 ?_
  refine DR.step (o := 4) (w := 1) h2 ?_
  refine DR.step (o := 5) (w := 1) h3 ?_
  refine DR.step (o := 6) (w := 1) h4 ?_
  exact DR.last (o := 7) (w := 1) (by omega) h5
theorem op_cert : Opens Tryz.prog 64 (DR tCert) := by
  intro H enc W base sp held fuel cs x h
  obtain ⟨hl, hf⟩ := struct_fields Tryz.underlying64 h
  have hc : Tryz.prog.cellsOf 64 = 9 := by kernel_rfl
  rw [hc] at hl
  obtain ⟨⟨y0, y1, y2, y3, y4, y5⟩, h0⟩ := hf 0 _ rfl (m := 8) (by kernel_rfl) op_claim
  obtain ⟨x1, h1⟩ := hf 1 _ rfl (m := 1) (by kernel_rfl) op_acks
  refine ⟨(y0, y1, y2, y3, y4, y5, x1), ?_⟩
  have h2 : DR (.pair tClaim (.list tAck)) ((y0, y1, y2, y3, y4, y5), x1) cs W.heap := DR.start (DR.step (o := 0) (w := 8) h0 (DR.last (o := 8) (w := 1) (by omega) h1))
  obtain ⟨g, ⟨k0, k1, k2, k3, k4, k5⟩, k6⟩ := h2
  refine ⟨?_, k0, k1, k2, k3, k4, k5, k6⟩
  obtain ⟨c, r, rfl, g, g'⟩ := rep_pair.1 g
  obtain ⟨c0, r0, rfl, g0, g⟩ := rep_pair.1 g
  obtain ⟨c1, r1, rfl, g1, g⟩ := rep_pair.1 g
  obtain ⟨c2, r2, rfl, g2, g⟩ := rep_pair.1 g
  obtain ⟨c3, r3, rfl, g3, g⟩ := rep_pair.1 g
  obtain ⟨c4, r4, rfl, g4, g5⟩ := rep_pair.1 g
  simp only [List.append_assoc]
  exact rep_pair.2 ⟨_, _, rfl, g0, rep_pair.2 ⟨_, _, rfl, g1, rep_pair.2 ⟨_, _, rfl, g2, rep_pair.2 ⟨_, _, rfl, g3, rep_pair.2 ⟨_, _, rfl, g4, rep_pair.2 ⟨_, _, rfl, g5, g'⟩⟩⟩⟩⟩⟩
theorem op_certs : Opens Tryz.prog 58 (DR (.list tCert)) := opens_list Tryz.underlying58 (by kernel_rfl) rfl op_cert
theorem op_base : Opens Tryz.prog 60 (DR tBase) := by
  intro H enc W base sp held fuel cs x h
  obtain ⟨hl, hf⟩ := struct_fields Tryz.underlying60 h
  have hc : Tryz.prog.cellsOf 60 = 2 := by kernel_rfl
  rw [hc] at hl
  obtain ⟨x0, h0⟩ := hf 0 _ rfl (m := 1) (by kernel_rfl) op_certs
  obtain ⟨x1, h1⟩ := hf 1 _ rfl (m := 1) (by kernel_rfl) op_cmds
  refine ⟨(x0, x1), DR.start ?_⟩
  refine DR.step (o := 0) (w := 1) h0 ?_
  exact DR.last (o := 1) (w := 1) (by omega) h1
theorem op_bases : Opens Tryz.prog 31 (DR (.list tBase)) := opens_list Tryz.underlying31 (by kernel_rfl) rfl op_base
theorem op_proof : Opens Tryz.prog 66 (DR tProof) := by
  intro H enc W base sp held fuel cs x h
  obtain ⟨hl, hf⟩ := struct_fields Tryz.underlying66 h
  have hc : Tryz.prog.cellsOf 66 = 10 := by kernel_rfl
  rw [hc] at hl
  obtain ⟨x0, h0⟩ := hf 0 _ rfl (m := 1) (by kernel_rfl) op_certs
  obtain ⟨x1, h1⟩ := hf 1 _ rfl (m := 9) (by kernel_rfl) op_cert
  refine ⟨(x0, x1), DR.start ?_⟩
  refine DR.step (o := 0) (w := 1) h0 ?_
  exact DR.last (o := 1) (w := 9) (by omega) h1
theorem op_proofs : Opens Tryz.prog 34 (DR (.list tProof)) := opens_list Tryz.underlying34 (by kernel_rfl) rfl op_proof
theorem op_digest : Opens Tryz.prog 68 (DR tDigest) := by
  intro H enc W base sp held fuel cs x h
  obtain ⟨hl, hf⟩ := struct_fields Tryz.underlying68 h
  have hc : Tryz.prog.cellsOf 68 = 3 := by kernel_rfl
  rw [hc] at hl
  obtain ⟨x0, h0⟩ := hf 0 _ rfl (m := 1) (by kernel_rfl) op_bytes
  obtain ⟨x1, h1⟩ := hf 1 _ rfl (m := 1) (by kernel_rfl) op_bytes
  obtain ⟨x2, h2⟩ := hf 2 _ rfl (m := 1) (by kernel_rfl) op_int
  refine ⟨(x0, x1, x2), DR.start ?_⟩
  refine DR.step (o := 0) (w := 1) h0 ?_
  refine DR.step (o := 1) (w := 1) h1 ?_
  exact DR.last (o := 2) (w := 1) (by omega) h2
theorem op_digests : Opens Tryz.prog 35 (DR (.list tDigest)) := opens_list Tryz.underlying35 (by kernel_rfl) rfl op_digest
theorem op_item : Opens Tryz.prog 71 (DR tItem) := by
  intro H enc W base sp held fuel cs x h
  obtain ⟨hl, hf⟩ := struct_fields Tryz.underlying71 h
  have hc : Tryz.prog.cellsOf 71 = 4 := by kernel_rfl
  rw [hc] at hl
  obtain ⟨x0, h0⟩ := hf 0 _ rfl (m := 1) (by kernel_rfl) op_text
  obtain ⟨x1, h1⟩ := hf 1 _ rfl (m := 1) (by kernel_rfl) op_bool
  obtain ⟨x2, h2⟩ := hf 2 _ rfl (m := 1) (by kernel_rfl) op_bytes
  obtain ⟨x3, h3⟩ := hf 3 _ rfl (m := 1) (by kernel_rfl) op_bytess
  refine ⟨(x0, x1, x2, x3), DR.start ?_⟩
  refine DR.step (o := 0) (w := 1) h0 ?_
  refine DR.step (o := 1) (w := 1) h1 ?_
  refine DR.step (o := 2) (w := 1) h2 ?_
  exact DR.last (o := 3) (w := 1) (by omega) h3
theorem op_items : Opens Tryz.prog 37 (DR (.list tItem)) := opens_list Tryz.underlying37 (by kernel_rfl) rfl op_item
theorem op_msg : Opens Tryz.prog 39 (DR tMsg) := by
  intro H enc W base sp held fuel cs x h
  obtain ⟨hl, hf⟩ := struct_fields Tryz.underlying39 h
  have hc : Tryz.prog.cellsOf 39 = 15 := by kernel_rfl
  rw [hc] at hl
  obtain ⟨x0, h0⟩ := hf 0 _ rfl (m := 1) (by kernel_rfl) op_int
  obtain ⟨x1, h1⟩ := hf 1 _ rfl (m := 1) (by kernel_rfl) op_int
  obtain ⟨x2, h2⟩ := hf 2 _ rfl (m := 1) (by kernel_rfl) op_int
  obtain ⟨x3, h3⟩ := hf 3 _ rfl (m := 3) (by kernel_rfl) op_round
  obtain ⟨x4, h4⟩ := hf 4 _ rfl (m := 1) (by kernel_rfl) op_reads
  obtain ⟨x5, h5⟩ := hf 5 _ rfl (m := 1) (by kernel_rfl) op_bases
  obtain ⟨x6, h6⟩ := hf 6 _ rfl (m := 1) (by kernel_rfl) op_cmds
  obtain ⟨x7, h7⟩ := hf 7 _ rfl (m := 1) (by kernel_rfl) op_acks
  obtain ⟨x8, h8⟩ := hf 8 _ rfl (m := 1) (by kernel_rfl) op_proofs
  obtain ⟨x9, h9⟩ := hf 9 _ rfl (m := 1) (by kernel_rfl) op_digests
  obtain ⟨x10, h10⟩ := hf 10 _ rfl (m := 1) (by kernel_rfl) op_texts
  obtain ⟨x11, h11⟩ := hf 11 _ rfl (m := 1) (by kernel_rfl) op_int
  obtain ⟨x12, h12⟩ := hf 12 _ rfl (m := 1) (by kernel_rfl) op_items
  refine ⟨(x0, x1, x2, x3, x4, x5, x6, x7, x8, x9, x10, x11, x12), DR.start ?_⟩
  refine DR.step (o := 0) (w := 1) h0 ?_
  refine DR.step (o := 1) (w := 1) h1 ?_
  refine DR.step (o := 2) (w := 1) h2 ?_
  refine DR.step (o := 3) (w := 3) h3 ?_
  refine DR.step (o := 6) (w := 1) h4 ?_
  refine DR.step (o := 7) (w := 1) h5 ?_
  refine DR.step (o := 8) (w := 1) h6 ?_
  refine DR.step (o := 9) (w := 1) h7 ?_
  refine DR.step (o := 10) (w := 1) h8 ?_
  refine DR.step (o := 11) (w := 1) h9 ?_
  refine DR.step (o := 12) (w := 1) h10 ?_
  refine DR.step (o := 13) (w := 1) h11 ?_
  exact DR.last (o := 14) (w := 1) (by omega) h12
/-- What is known of a message. -/
def MsgR (m : Msg) (cs : List Value) (H : Heap) : Prop := Rep H [] (datT tMsg m.tup) cs ∧ okM m
theorem opens_msg : Opens Tryz.prog 39 MsgR :=
  op_imp (R := DR tMsg) op_msg fun d cs H h => ⟨Msg.of d, h⟩
end Go.Proofs.YtdhlibkdcldioaaGreat
