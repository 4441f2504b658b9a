/- The encoding: data and the list of names. -/
import Derived.Test.YtcilkhjadljaaaaLv
import Derived.Test.YtcilkhjadljaaaaWr
set_option linter.unusedSimpArgs false
set_option linter.unusedVariables false
set_option maxRecDepth 8000
namespace Go.Proofs.Ytcilkhjadljaaaa
open Gx Go

def textB (s : Bs) : Bs := enc s.length ++ s
def strsB (l : List Bs) : Bs := enc l.length ++ l.flatMap textB
def ruleB (r : Rl) : Bs := strsB r.ifs ++ textB r.thn
def headB (t : Lt) : Bs := enc t.kind.toNat ++ (if t.kind = 2 ∨ t.kind = 3 then enc (zig t.lo) ++ enc (zig t.hi) else if t.kind = 4 ∨ t.kind = 8 ∨ t.kind = 5 ∨ t.kind = 10 then strsB t.names else if t.kind = 6 then enc t.names.length else [])
def tailB (t : Lt) : Bs := if t.kind = 10 then enc t.rules.length ++ t.rules.flatMap ruleB else []
def nameB (k6 : Bool) (ns : List Bs) : Bs := if k6 then (match ns with | [] => [] | n :: _ => textB n) else []
mutual
def encT : Lt → Bs
  | .mk k lo hi ns ps rs => headB (.mk k lo hi ns ps rs) ++ (encPs (decide (k = 6)) ps ns ++ tailB (.mk k lo hi ns ps rs))
def encPs (k6 : Bool) : List Lt → List Bs → Bs
  | [], _ => []
  | p :: ps, ns => nameB k6 ns ++ (encT p ++ encPs k6 ps ns.tail)
end
theorem encT_open (t : Lt) : encT t = headB t ++ (encPs (decide (t.kind = 6)) t.parts t.names ++ tailB t) := by
  cases t; simp only [encT]; rfl
theorem encPs_drop (k6 : Bool) {ps : List Lt} {ns : List Bs} {i : Nat} (h : i < ps.length) : encPs k6 (ps.drop i) (ns.drop i) = nameB k6 (ns.drop i) ++ (encT ps[i] ++ encPs k6 (ps.drop (i + 1)) (ns.drop (i + 1))) := by
  rw [List.drop_eq_getElem_cons h]; simp [encPs]

mutual
def okT : Lt → Prop
  | .mk k lo hi ns ps rs => (0 ≤ k ∧ k ≤ 10 ∧ -2^63 ≤ lo ∧ lo < 2^63 ∧ -2^63 ≤ hi ∧ hi < 2^63) ∧ okTs ps
def okTs : List Lt → Prop
  | [] => True
  | p :: ps => okT p ∧ okTs ps
end
theorem okTs_get : ∀ {l : List Lt} {i : Nat} (h : i < l.length), okTs l → okT l[i]
  | [], _, h, _ => by simp at h
  | p :: l, 0, _, h => by simp only [okTs] at h; exact h.1
  | p :: l, i + 1, h, k => by
    simp only [okTs] at k
    simpa using okTs_get (l := l) (i := i) (by simpa using h) k.2
theorem okT_open (t : Lt) : okT t ↔ (0 ≤ t.kind ∧ t.kind ≤ 10 ∧ -2^63 ≤ t.lo ∧ t.lo < 2^63 ∧ -2^63 ≤ t.hi ∧ t.hi < 2^63) ∧ okTs t.parts := by
  cases t; simp only [okT]; rfl

theorem WrStep.refl {H : Heap} {b : Nat} {l : Bs} {g : Option Nat} (h : Wr H b l g) : WrStep H b g H l g := ⟨h, Fr.refl _ _, fun k hk => .inl hk⟩
theorem WrStep.pre {H H1 H' : Heap} {b : Nat} {l : List UInt8} {g g' : Option Nat} (hf : Fr [] H H1) (h : WrStep H1 b g H' l g') : WrStep H b g H' l g' :=
  ⟨h.1, (hf.mono (by simp)).trans h.2.1, fun k hk => (h.2.2 k hk).imp id fun q => Nat.le_trans hf.size q⟩
theorem WrStep.post {H H1 H' : Heap} {b : Nat} {l : List UInt8} {g g' : Option Nat} (h : WrStep H b g H1 l g') (hf : Fr [] H1 H') : WrStep H b g H' l g' :=
  ⟨h.1.fr hf (by simp) (by simp), h.2.1.trans (hf.mono (by simp)), h.2.2⟩
/-- Data beside a Writer stay readable. -/
theorem Rep.wr {H H' : Heap} {b : Nat} {g g' : Option Nat} {l : Bs} {d : Dat} {cs : List Value} (h : Rep H (b :: g.toList) d cs) (hs : WrStep H b g H' l g') : Rep H' (b :: g'.toList) d cs := by
  refine Rep.stay h fun x hx hn => ?_
  refine ⟨?_, hs.2.1.same x hx hn⟩
  simp only [List.mem_cons, not_or] at hn ⊢
  refine ⟨hn.1, fun hm => ?_⟩
  rcases hs.2.2 x (by simpa using hm) with q | q
  · exact hn.2 (by simp [q])
  · omega
theorem Blk.wr {H H' : Heap} {b x t : Nat} {g g' : Option Nat} {l : Bs} {cs : List Value} (h : Blk H x t cs) (hs : WrStep H b g H' l g') (hb : x ≠ b) (hg : ∀ k, g = some k → x ≠ k) : Blk H' x t cs := by
  refine h.fr hs.2.1 ?_
  simp only [List.mem_cons, not_or]
  refine ⟨hb, fun hm => ?_⟩
  exact hg x (by simpa using hm) rfl

theorem list_ok {H : Heap} {b : Nat} {l : Bs} {g : Option Nat} {v : Value} {ns : List Bs} (h : Wr H b l g) (hn : StrsA H (b :: g.toList) ns v) (hl : l.length + (strsB ns).length < 2^38) :
    HCalls Try.prog 60 #[.pointer (some ⟨b, 0, none⟩), v] H fun r H' => r = .tuple #[] ∧ ∃ g', WrStep H b g H' (l ++ strsB ns) g' := by
  obtain ⟨a, c, rfl, hlc, hc⟩ := StrsA.slice hn
  refine calls_of_vc (args := [_, _]) Try.func60 c60ok (Nat.le_of_ble_eq_true rfl) ?_
  have hlen : (strsB ns).length = (enc ns.length).length + (ns.flatMap textB).length := by simp [strsB]
  have hcv : IntKind.u64.wrap ((ns.length : Nat) : Int) = ((ns.length : Nat) : Int) := by unfold maxLen at hc; rw [wrap_u64_id _ (by omega) (by omega)]
  simp (implicitDefEqProofs := false) only [go_sem, c60, hcv]
  refine (uint_ok ns.length (by unfold maxLen at hc; omega) h (by omega)).mono ?_
  rintro r H1 ⟨rfl, g1, w1⟩
  simp (implicitDefEqProofs := false) only [go_sem]
  refine vc_loop (fun (i : Nat) H' => i ≤ ns.length ∧ ∃ l' g', WrStep H b g H' l' g' ∧ l' ++ (ns.drop i).flatMap textB = l ++ strsB ns)
    (fun i => [(0, .pointer (some ⟨b, 0, none⟩)), (11, .slice a ns.length c), (12, .int .i64 ns.length), (13, .int .i64 i)]) (fun i => ns.length - i) 0 ?_ ?_ ?_
  · exact ⟨Nat.zero_le _, _, _, w1, by simp [strsB]⟩
  · simp (implicitDefEqProofs := false) only [go_sem]
  · rintro i H' ⟨hi, l', g', ws, hv⟩
    have hv' := congrArg List.length hv
    simp only [List.length_append] at hv'
    rcases Nat.lt_or_ge i ns.length with hlt | hge
    · have hlt' : (i : Int) < (ns.length : Int) := by omega
      have h0 : (0 : Int) ≤ (i : Int) := by omega
      obtain ⟨b1, o1, c1, e1, h1⟩ := StrsA.at (Rep.wr hn ws) i hlt
      cases e1
      have hw := succ_i64 i ns.length hlt (by omega)
      rw [List.drop_eq_getElem_cons hlt, List.flatMap_cons] at hv
      have hv2 := congrArg List.length hv
      simp only [List.length_append, textB] at hv2
      simp (implicitDefEqProofs := false) only [go_sem, hlt', h0, h1]
      refine (text_ok ns[i] ws.1 (by omega)).mono ?_
      rintro r H3 ⟨rfl, g3, w3⟩
      simp (implicitDefEqProofs := false) only [go_sem]
      refine loopK_intro (i + 1) (by show ns.length - (i + 1) < ns.length - i; omega) ?_ ⟨hlt, _, _, ws.trans w3, ?_⟩
      · simp (implicitDefEqProofs := false) only [go_sem, hw]
      · rw [← hv]; simp [textB]
    · have hge' : ¬ (i : Int) < (ns.length : Int) := by omega
      rw [List.drop_eq_nil_of_le hge] at hv
      simp only [List.flatMap_nil, List.append_nil] at hv
      subst hv
      simp (implicitDefEqProofs := false) only [go_sem, hge']
      exact ⟨_, ws⟩

end Go.Proofs.Ytcilkhjadljaaaa
