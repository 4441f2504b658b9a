/- The reading of token lists. -/
import Derived.Test.YtighpnijbnllaaaDoorXw
set_option linter.unusedSimpArgs false
set_option linter.unusedVariables false
set_option maxRecDepth 8000
namespace Go.Proofs.YtighpnijbnllaaaDoor
open Gx Go

def TkRd (t : Tk) (cs : List Value) (_ : Heap) : Prop := cs = tkC t ∧ (Lit.int .i64 t.n).wf = true
theorem opens_tok : Opens Tryd.prog 25 TkRd := by
  intro H enc W base sp held fuel cs x h
  obtain ⟨hl, hf⟩ := struct_fields Tryd.underlying25 h
  have hl' : cs.length = 4 := hl.trans (by kernel_rfl)
  obtain ⟨k, hk, _⟩ := hf 0 _ rfl (m := 1) (by kernel_rfl) (opens_int Tryd.underlying3)
  obtain ⟨s, hs, _⟩ := hf 1 _ rfl (m := 1) (by kernel_rfl) (opens_str Tryd.underlying9)
  obtain ⟨n, hn, hw⟩ := hf 2 _ rfl (m := 1) (by kernel_rfl) (opens_int Tryd.underlying2)
  obtain ⟨a, ha, _⟩ := hf 3 _ rfl (m := 1) (by kernel_rfl) (opens_int Tryd.underlying3)
  match cs, hl' with
  | [c0, c1, c2, c3], _ =>
    simp at hk hs hn ha
    refine ⟨⟨k, s, n, a⟩, ?_, hw⟩
    simp only [tkC, sv]
    rw [← hk, ← hs, ← hn, ← ha]
theorem tk_range {H : Heap} {a : Option Addr} {l : List Tk} (h : ElR TkRd 4 H a l) : ∀ t ∈ l, -9223372036854775808 ≤ t.n ∧ t.n ≤ 9223372036854775807 := by
  intro t ht
  obtain ⟨j, hj, rfl⟩ := List.getElem_of_mem ht
  rcases h with h | ⟨b, o, _, h2⟩
  · subst h; simp at hj
  · obtain ⟨vs, _, _, _, hw⟩ := h2 j hj
    simp only [Lit.wf, IntKind.min, IntKind.max, IntKind.signed, IntKind.bits, Bool.and_eq_true, decide_eq_true_eq] at hw
    simp at hw
    omega
end Go.Proofs.YtighpnijbnllaaaDoor
