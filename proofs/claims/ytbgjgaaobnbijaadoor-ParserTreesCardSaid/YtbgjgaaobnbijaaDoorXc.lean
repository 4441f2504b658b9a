/- What is taken of Go's library: contracts on heaps. -/
import Derived.Test.YtbgjgaaobnbijaaDoorXb
import Derived.Test.YtbgjgaaobnbijaaDoorShelf
import Derived.Lib.AppendIntMem
import Derived.Lib.SmallJoins
set_option linter.unusedSimpArgs false
set_option linter.unusedVariables false
set_option maxRecDepth 8000
namespace Go.Proofs.YtbgjgaaobnbijaaDoor
open Gx Go

theorem hcalls_below {P : Program} {f : Nat} {args : Array Value} {H : Heap} {R : Value → Prop} (h : ∀ w : World, w.heap = H → Calls P f args w fun e w' => ∃ v, e = .returned v ∧ R v ∧ RowKit.Below w.heap.size w w') :
    HCalls P f args H fun v H' => R v ∧ Fr [] H H' := by
  intro w hw
  refine (h w hw).mono fun e w' ⟨v, he, hr, hb⟩ => ?_
  subst he
  refine ⟨⟨hr, ?_⟩, hb.os, hb.tape, hb.output⟩
  subst hw
  exact ⟨hb.size, fun k hk _ => hb.block k hk⟩

theorem gErr : Tryd.prog.globalNamed "strconv.ErrRange" = some 3 := by kernel_rfl
theorem gTab : Tryd.prog.globalNamed "internal/strconv.uint64pow10" = some 0 := by kernel_rfl
/-- What the package-level variables hold. -/
structure GlobH (H : Heap) : Prop where
  err : ∃ ev, cellB H 3 0 = some ev ∧ (ev = .nilIface ∨ ∃ t p, ev = .iface t p)
  tab : ∃ t fr, H[0]? = some (.cells (Lib.pow10Tab.map fun z => Value.int .u64 z).toArray t fr)
theorem GlobH.fr {M : List Nat} {H H' : Heap} (h : GlobH H) (hf : Fr M H H') (h2 : 3 ∉ M) (h3 : 0 ∉ M) : GlobH H' := by
  obtain ⟨⟨ev, h1, h4⟩, t, fr, h5⟩ := h
  refine ⟨⟨ev, cellB_fr h1 hf h2, h4⟩, t, fr, ?_⟩
  have hlt : 0 < H.size := by
    rcases Nat.lt_or_ge 0 H.size with q | q
    · exact q
    · rw [Array.getElem?_eq_none q] at h5; cases h5
  rw [hf.same 0 hlt h3]; exact h5
theorem GlobH.ext {H H' : Heap} (h : GlobH H) (hf : Fr [] H H') : GlobH H' := h.fr hf (by simp) (by simp)
theorem GlobH.ne {H : Heap} (h : GlobH H) {b t : Nat} {s : Bs} {l : List Value} (hb : Blk H b t (sv s :: l)) : 3 ≠ b ∧ 0 ≠ b := by
  obtain ⟨⟨ev, h1, h4⟩, t', fr, h5⟩ := h
  constructor
  · rintro rfl
    have := hb.cell 0
    rw [h1] at this
    simp at this
    rcases h4 with h4 | ⟨_, _, h4⟩ <;> rw [h4] at this <;> cases this
  · rintro rfl
    unfold Blk at hb
    rw [h5] at hb
    simp only [Option.some.injEq, Obj.cells.injEq] at hb
    have := congrArg (fun a => a.toList.head?) hb.1
    simp [Lib.pow10Tab, sv] at this

/-! ### numbers -/
theorem parse_go {M N : Nat} (hM : M + 1 = N) (hN : N ≤ 18446744073709551620) (hN' : 18446744073709551616 ≤ N) (w : Bs) : ∀ (acc : Nat), w.all digB = true → (numF acc w < N → Lib.parseUintM M acc w = .ok (numF acc w)) ∧ (acc < N → N ≤ numF acc w → Lib.parseUintM M acc w = .range) := by
  induction w with
  | nil =>
    intro acc _
    have e1 : numF acc [] = acc := rfl
    have e2 : Lib.parseUintM M acc [] = .ok acc := rfl
    rw [e1, e2]
    refine ⟨fun _ => rfl, fun h1 h2 => ?_⟩
    exact absurd h2 (Nat.not_le.2 h1)
  | cons c r ih =>
    intro acc h
    rw [List.all_cons, Bool.and_eq_true] at h
    have hd := h.1
    simp only [digB, Bool.and_eq_true, decide_eq_true_eq] at hd
    have e1 : numF acc (c :: r) = numF (10 * acc + (c.toNat - 48)) r := rfl
    have e2 : Lib.parseUintM M acc (c :: r) = if 48 ≤ c.toNat ∧ c.toNat ≤ 57 then if 1844674407370955162 ≤ acc then .range else if M < acc * 10 + (c.toNat - 48) then .range else Lib.parseUintM M (acc * 10 + (c.toNat - 48)) r else .syntax := by simp only [Lib.parseUintM]
    rw [e1, e2, if_pos (by omega), Nat.mul_comm acc 10]
    have hu := numF_up r (10 * acc + (c.toNat - 48))
    have ih := ih (10 * acc + (c.toNat - 48)) h.2
    generalize numF (10 * acc + (c.toNat - 48)) r = m at *
    refine ⟨fun h1 => ?_, fun h0 h1 => ?_⟩
    · rw [if_neg (by omega), if_neg (by omega)]; exact ih.1 h1
    · by_cases q1 : 1844674407370955162 ≤ acc
      · rw [if_pos q1]
      · rw [if_neg q1]
        by_cases q2 : M < 10 * acc + (c.toNat - 48)
        · rw [if_pos q2]
        · rw [if_neg q2]; exact ih.2 (by omega) h1
theorem parse_dig {w : Bs} (h : w.all digB = true) (h0 : w ≠ []) : Lib.parseIntB 64 w = if 9223372036854775808 ≤ numL w then .range else .ok (numL w : Int) := by
  cases w with
  | nil => exact absurd rfl h0
  | cons c r =>
    have hc := h
    rw [List.all_cons, Bool.and_eq_true] at hc
    have hd := hc.1
    simp only [digB, Bool.and_eq_true, decide_eq_true_eq] at hd
    unfold Lib.parseIntB
    simp only
    rw [if_neg (by omega)]
    unfold Lib.parseUintB
    rw [if_neg (by simp), show (2 ^ 64 - 1 : Nat) = 18446744073709551615 from rfl]
    have hg := parse_go (M := 18446744073709551615) (N := 18446744073709551616) (by decide) (by decide) (by decide) (c :: r) 0 h
    have h45 : ¬ c.toNat = 45 := by omega
    unfold numL
    generalize numF 0 (c :: r) = n at *
    by_cases hn : n < 18446744073709551616
    · rw [hg.1 hn]
      by_cases h2 : 9223372036854775808 ≤ n
      · simp [h45, h2]
      · simp [h45, h2]
    · rw [hg.2 (by decide) (by omega), if_pos (by omega)]

theorem parseInt_ok {w : Bs} (h : w.all digB = true) (h0 : w ≠ []) (hl : w.length ≤ 65536) {H : Heap} (hg : GlobH H) :
    HCalls Tryd.prog 64 #[sv w, .int .i64 10, .int .i64 64] H fun r H' => (if 9223372036854775808 ≤ numL w then ∃ n t p, r = .tuple #[.int .i64 n, .iface t p] else r = .tuple #[.int .i64 (numL w), .nilIface]) ∧ Fr [] H H' := by
  refine hcalls_below (R := fun r => if 9223372036854775808 ≤ numL w then ∃ n t p, r = .tuple #[.int .i64 n, .iface t p] else r = .tuple #[.int .i64 (numL w), .nilIface]) fun W hW => ?_
  have hp := parse_dig h h0
  split at hp
  · obtain ⟨⟨ev, h1, h4⟩, _⟩ := hg
    subst hW
    refine (Tryd.strconv_ParseInt_10_at64_range ⟨⟨w⟩⟩ (show w.length ≤ _ by omega) hp ev W (by rw [cell?_eq]; exact (cellAt_mk W.heap 3 0).trans h1) h4).mono fun e w' ⟨N, he, _, _, hb⟩ => ?_
    exact ⟨_, he, by rw [if_pos (by assumption)]; exact ⟨_, _, _, rfl⟩, hb⟩
  · refine (Tryd.strconv_ParseInt_10_at64_ok ⟨⟨w⟩⟩ (show w.length ≤ _ by omega) _ hp W).mono fun e w' ⟨he, hw⟩ => ?_
    refine ⟨_, he, by rw [if_neg (by assumption)], ?_⟩
    rcases hw with rfl | ⟨t, rfl⟩
    · exact RowKit.Below.refl _ _
    · exact Joins.below_bytesWorld _ _ _ _ (Nat.le_refl _)

theorem formatInt_ok {n : Int} (h0 : -9223372036854775808 ≤ n) (h1 : n ≤ 9223372036854775807) {H : Heap} (hg : GlobH H) :
    HCalls Tryd.prog 51 #[.int .i64 n, .int .i64 10] H fun r H' => r = sv (Lib.itoa n) ∧ Fr [] H H' := by
  refine hcalls_below (R := fun r => r = sv (Lib.itoa n)) fun W hW => ?_
  refine (Tryd.strconv_FormatInt_10 n h0 h1 W ?_).mono fun e w' ⟨he, k, os, hw⟩ => ?_
  · obtain ⟨_, t, fr, h5⟩ := hg
    subst hW
    unfold Lib.TabIs World.var?
    rw [gTab, Option.bind_some, h5]
  · subst hw
    exact ⟨_, he, rfl, Lib.below_grow _ _ (Nat.le_refl _) _ _⟩
end Go.Proofs.YtbgjgaaobnbijaaDoor
