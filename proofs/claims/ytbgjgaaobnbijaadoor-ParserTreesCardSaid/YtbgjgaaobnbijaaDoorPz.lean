/- From a call on heaps to a row that lists variables. -/
import Derived.Test.YtbgjgaaobnbijaaDoorPo
import Derived.Test.YtbgjgaaobnbijaaDoorRows
import Derived.WalkKit
import Derived.ProofKit
import Derived.OpenShut
import Derived.LaidMore
import Derived.LaidLaws
import Derived.Stop.Joined
set_option linter.unusedSimpArgs false
set_option linter.unusedVariables false
set_option maxRecDepth 8000
namespace Go.Proofs.YtbgjgaaobnbijaaDoor
open Gx Go Go.ChangeShapes Go.WideShapes Go.ChangeAt Go.RowKit

def laidL : List (String × DataW Unit) := Rows.parserTreesRow.laid
theorem own : ownKnob Tryd.prog.godebug = none := by kernel_rfl
theorem laidOut : laidOutB Tryd.prog = true := by kernel_rfl
theorem plainLaid : (laidL.filter fun x => x.2.handleName?.isSome) = [] := by kernel_rfl

theorem heap_of_var {P : Program} {W : World} {name : String} {g : Nat} {cs : Array Value} (hg : P.globalNamed name = some g) (h : W.var? P name = some cs) : ∃ t fr, W.heap[g]? = some (.cells cs t fr) := by
  unfold World.var? at h
  rw [hg, Option.bind_some] at h
  split at h
  · rename_i c t fr he
    simp only [Option.some.injEq] at h
    subst h
    exact ⟨t, fr, he⟩
  · cases h

theorem glob_of_laid {W : World} (h : laidMetH Tryd.prog laidL W) : GlobH W.heap := by
  rw [MakeChecks.laidMetH_plain _ _ _ (by kernel_rfl)] at h
  obtain ⟨ps, ⟨g0, t0, cs0, f0, p0, q0, hg0, ht0, hv0, hd0, ⟨g1, t1, cs1, f1, p1, q1, hg1, ht1, hv1, hd1, ⟨g2, t2, cs2, f2, p2, q2, hg2, ht2, hv2, hd2, ⟨g3, t3, cs3, f3, p3, q3, hg3, ht3, hv3, hd3, _, _⟩, _⟩, _⟩, _⟩, _, _⟩ := h
  obtain rfl := Option.some.inj (gTab.symm.trans hg2)
  obtain rfl := Option.some.inj (gErr.symm.trans hg3)
  have e2 : (Tryd.prog.globals[0]?).map (·.type) = some 119 := by kernel_rfl
  have e3 : (Tryd.prog.globals[3]?).map (·.type) = some 84 := by kernel_rfl
  obtain rfl := Option.some.inj (e2.symm.trans ht2)
  obtain rfl := Option.some.inj (e3.symm.trans ht3)
  obtain ⟨t2', fr2, hh2⟩ := heap_of_var hg2 hv2
  obtain ⟨t3', fr3, hh3⟩ := heap_of_var hg3 hv3
  have hc := Lib.cells_of_tab (k := .u64) (zs := Lib.pow10Tab) Tryd.underlying119 Tryd.underlying103 (by kernel_rfl) (by kernel_rfl) hd2
  obtain ⟨_, u, v, hcs3, _, _⟩ := iface_of_trod Tryd.underlying84 hd3
  refine ⟨⟨.iface u v, ?_, .inr ⟨u, v, rfl⟩⟩, t2', fr2, ?_⟩
  · unfold cellB
    rw [hh3]
    show cs3[0]? = _
    rw [← Array.getElem?_toList, hcs3]; rfl
  · rw [hh2, ← hc]

/-- The door's own heap meets the condition. -/
theorem door_met (os : Os) (args : Array Value) : laidMetH Tryd.prog laidL ((World.doorLaid Tryd.prog 400 os).forCall (fun _ _ => 0) ⟨#[], args, []⟩).memory :=
  laidMetH_of_parts3 (fuel := 8) (laidMet_of_run' 8 (by kernel_rfl) (by kernel_rfl)) (by kernel_rfl) (by kernel_rfl)

theorem law_row_laid {H : Type} {enc : TypeId × Value → H} {os : Os} {f : FuncId} {fn : Func} {s : ChangeSpec} {tb : TypeId} (started : os.Started) (noInit : Tryd.prog.inits.idxOf? f = none) (hf : Tryd.prog.funcs[f]? = some fn)
    (hpar : fn.params.toList.all (fun t => Tryd.prog.readableRec t && decide (t < Tryd.prog.types.size)) = true) (hres : fn.resultTypes = #[tb]) (htb : Tryd.prog.underlying tb = some .bool) (hv : s.vars = [])
    (hfn : ∀ (K : Type) (ds : List (DataW K)), ds.length = fn.params.size → s.fn K ds = { results := [.lit (.bool true)], args := ds })
    (witness : ∃ (w : World) (tape : Tape) (i : Input), w.os = os ∧ (w.forCall tape i).Shaped Tryd.prog ∧ i.vars = [] ∧ Input.okWide Tryd.prog (w.forCall tape i) .any w.heap.size f i ∧
      ((s.pre enc Tryd.prog fn [] false (w.forCall tape i).memory i.args ∧ laidMetH Tryd.prog laidL (w.forCall tape i).memory) ∧ sizedMet enc Tryd.prog fn (OpenSpec.ofChange s) false (w.forCall tape i).memory i.args) ∧
      Assume.holds {} Tryd.prog (lone (Frame.enter Tryd.prog f i.args .normal) [] (w.forCall tape i)))
    (contract : ∀ (W : World) (base : Nat) (args : Array Value) (ds : List (DataW H)) (ps : List MemPlace),
      (∀ (j : Nat) t v, fn.params[j]? = some t → args[j]? = some v → Value.okWide Tryd.prog W .any base t v) →
      DataW.TrodAll enc Tryd.prog W 0 (fun _ => true) true fn.params.toList args.toList ds ps → GlobH W.heap → HCalls Tryd.prog f args W.heap fun v H' => v = .bool true ∧ Fr [] W.heap H') :
    ReturnsInHanded {} Tryd.checked os f .any (fun w args => (s.pre enc Tryd.prog fn [] false w args ∧ laidMetH Tryd.prog laidL w) ∧ sizedMet enc Tryd.prog fn (OpenSpec.ofChange s) false w args) (s.post enc Tryd.prog fn false true false false) := by
  refine returnsInHanded_of_change_and (C := Tryd.checked) (X := fun w _ => laidMetH Tryd.prog laidL w) (fun _ _ _ hh h => h.of_heap hh) own started noInit hf witness ?_
  intro W base args ds gs before hval hW _ _ hL _
  have hW' := hW
  obtain ⟨p, q, hA, hV, rfl, hz, hn⟩ := hW
  have hV' := hV
  rw [hv] at hV'
  obtain ⟨rfl, rfl⟩ := trodVars_none hV'
  refine ((contract W base args ds p hval hA (glob_of_laid hL)).out W rfl).mono fun e W' ⟨v, he, ⟨hvt, hfr⟩, hs⟩ => ?_
  subst hvt
  refine ⟨_, he, law_post laidOut hpar hres htb hv ?_ hW' (below_of hs hfr)⟩
  rw [List.append_nil]
  exact hfn H ds (by have := trodAll_len hA; simpa using this)
end Go.Proofs.YtbgjgaaobnbijaaDoor
