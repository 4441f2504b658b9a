/- The Writer of messages: what it is to write data of a shape. -/
import Derived.Test.YtdhlibkdcldioaaGreatFb
import Derived.Test.YtdhlibkdcldioaaGreatWr
set_option linter.unusedSimpArgs false
set_option linter.unusedVariables false
set_option maxRecDepth 8000
namespace Go.Proofs.YtdhlibkdcldioaaGreat
open Gx Go

theorem succ_i64 (i n : Nat) (h : i < n) (hn : n < 2^63) : IntKind.i64.wrap ((i : Int) + 1) = ((i + 1 : Nat) : Int) := by
  rw [wrap_i64_id _ (by omega) (by omega)]; omega
theorem flat_split {α : Type} (f : α → Bs) (ls : List α) (i : Nat) (h : i < ls.length) : ls.flatMap f = (ls.take i).flatMap f ++ (f ls[i] ++ (ls.drop (i + 1)).flatMap f) :=
  calc ls.flatMap f = (ls.take i ++ ls[i] :: ls.drop (i + 1)).flatMap f := by rw [← List.drop_eq_getElem_cons h, List.take_append_drop]
    _ = _ := by rw [List.flatMap_append, List.flatMap_cons]
theorem flat_succ {α : Type} (f : α → Bs) (ls : List α) (i : Nat) (h : i < ls.length) : (ls.take (i + 1)).flatMap f = (ls.take i).flatMap f ++ f ls[i] := by
  rw [List.take_succ_eq_append_getElem h, List.flatMap_append, List.flatMap_cons, List.flatMap_nil, List.append_nil]
theorem WrStep.refl {H : Heap} {b : Nat} {l : Bs} {g : Option Nat} (h : Wr H b l g) : WrStep H b g H l g := ⟨h, Fr.refl _ _, fun k hk => .inl hk⟩
theorem WrStep.pre {H H1 H' : Heap} {b : Nat} {l : List UInt8} {g g' : Option Nat} (hf : Fr [] H H1) (h : WrStep H1 b g H' l g') : WrStep H b g H' l g' :=
  ⟨h.1, (hf.mono (by simp)).trans h.2.1, fun k hk => (h.2.2 k hk).imp id fun q => Nat.le_trans hf.size q⟩
theorem WrStep.post {H H1 H' : Heap} {b : Nat} {l : List UInt8} {g g' : Option Nat} (h : WrStep H b g H1 l g') (hf : Fr [] H1 H') : WrStep H b g H' l g' :=
  ⟨h.1.fr hf (by simp) (by simp), h.2.1.trans (hf.mono (by simp)), h.2.2⟩
/-- Data beside a Writer stay readable. -/
theorem Rep.wr {H H' : Heap} {b : Nat} {g g' : Option Nat} {l : Bs} {d : Dat} {cs : List Value} (h : Rep H (b :: g.toList) d cs) (hs : WrStep H b g H' l g') : Rep H' (b :: g'.toList) d cs := by
  refine Rep.stay h fun x hx hn => ?_
  refine ⟨?_, hs.2.1.same x hx hn⟩
  simp only [List.mem_cons, not_or] at hn ⊢
  refine ⟨hn.1, fun hm => ?_⟩
  rcases hs.2.2 x (by simpa using hm) with q | q
  · exact hn.2 (by simp [q])
  · omega
theorem Blk.wr {H H' : Heap} {b x t : Nat} {g g' : Option Nat} {l : Bs} {cs : List Value} (h : Blk H x t cs) (hs : WrStep H b g H' l g') (hb : x ≠ b) (hg : ∀ k, g = some k → x ≠ k) : Blk H' x t cs := by
  refine h.fr hs.2.1 ?_
  simp only [List.mem_cons, not_or]
  refine ⟨hb, fun hm => ?_⟩
  exact hg x (by simpa using hm) rfl
theorem new_fr {H H1 H2 : Heap} (hf1 : Fr [] H H1) (hf2 : Fr [H.size] H1 H2) : Fr [] H H2 := hf1.trans' hf2 (by simp)
theorem Wr.ne {H : Heap} {b : Nat} {l : Bs} {g : Option Nat} (h : Wr H b l g) : H.size ≠ b ∧ ∀ k, g = some k → H.size ≠ k := by
  refine ⟨by have := h.lt; omega, fun k hk => ?_⟩
  obtain ⟨aa, cc, _, ho⟩ := h
  have := ho.lt hk
  omega

theorem rep_one {H : Heap} {M : List Nat} : ∀ {t : Ty} {d : den t} {cs : List Value}, Rep H M (datT t d) cs → ∀ v ∈ cs, v.oneCell' = true
  | .num, d, cs, h => by simp only [datT, Rep] at h; subst h; simp [Value.oneCell']
  | .bool, d, cs, h => by simp only [datT, Rep] at h; subst h; simp [Value.oneCell']
  | .text, d, cs, h => by simp only [datT, Rep] at h; subst h; simp [Value.oneCell']
  | .bytes, d, cs, h => by obtain ⟨a, c, rfl, _⟩ := rep_bytes.1 h; simp [Value.oneCell']
  | .list t, d, cs, h => by simp only [datT, Rep] at h; obtain ⟨a, c, css, rfl, _⟩ := h; simp [Value.oneCell']
  | .pair a b, d, cs, h => by
    obtain ⟨c, e, rfl, h1, h2⟩ := rep_pair.1 h
    intro v hv
    rcases List.mem_append.1 hv with hv | hv
    · exact rep_one h1 v hv
    · exact rep_one h2 v hv
theorem rep_num {H : Heap} {M : List Nat} {n : den .num} {cs : List Value} (h : Rep H M (datT .num n) cs) : cs = [.int .i64 n] := by simpa only [datT, Rep] using h
theorem rep_bool {H : Heap} {M : List Nat} {n : den .bool} {cs : List Value} (h : Rep H M (datT .bool n) cs) : cs = [.bool n] := by simpa only [datT, Rep] using h
theorem rep_text {H : Heap} {M : List Nat} {n : den .text} {cs : List Value} (h : Rep H M (datT .text n) cs) : cs = [.string ⟨⟨n⟩⟩] := by simpa only [datT, Rep] using h
theorem rep_list {H : Heap} {M : List Nat} {t : Ty} {ls : den (.list t)} {cs : List Value} (h : Rep H M (datT (.list t) ls) cs) : ∃ a c, cs = [.slice a ls.length c] ∧ ls.length ≤ c ∧ c ≤ maxLen := by
  simp only [datT, Rep, List.length_map] at h
  obtain ⟨a, c, css, h1, h2, h3, _⟩ := h
  exact ⟨a, c, h1, h2, h3⟩
/-- An element of a list. -/
theorem rep_at {H : Heap} {M : List Nat} {t : Ty} {ls : den (.list t)} {v : Value} (h : Rep H M (datT (.list t) ls) [v]) (i : Nat) (hi : i < ls.length) :
    ∃ b o c x, v = .slice (some ⟨b, o, none⟩) ls.length c ∧ b ∉ M ∧ x.length = wid t ∧ (∀ k, k < wid t → cellB H b (o + i * wid t + k) = x[k]?) ∧ Rep H M (datT t ls[i]) x := by
  obtain ⟨b, o, c, x, h1, h2, h3, h4, h5⟩ := Rep.at (m := wid t) (l := ls.map (datT t)) h i (by simpa using hi) (wid_pos t)
  exact ⟨b, o, c, x, by simpa using h1, h2, h3, h4, by simpa using h5⟩
theorem len1 {x : List Value} (h : x.length = 1) : ∃ x0, x = [x0] := by
  match x, h with
  | [x0], _ => exact ⟨x0, rfl⟩
theorem len2 {x : List Value} (h : x.length = 2) : ∃ x0 x1, x = [x0, x1] := by
  match x, h with
  | [x0, x1], _ => exact ⟨x0, x1, rfl⟩
theorem len3 {x : List Value} (h : x.length = 3) : ∃ x0 x1 x2, x = [x0, x1, x2] := by
  match x, h with
  | [x0, x1, x2], _ => exact ⟨x0, x1, x2, rfl⟩
theorem len4 {x : List Value} (h : x.length = 4) : ∃ x0 x1 x2 x3, x = [x0, x1, x2, x3] := by
  match x, h with
  | [x0, x1, x2, x3], _ => exact ⟨x0, x1, x2, x3, rfl⟩
theorem len6 {x : List Value} (h : x.length = 6) : ∃ x0 x1 x2 x3 x4 x5, x = [x0, x1, x2, x3, x4, x5] := by
  match x, h with
  | [x0, x1, x2, x3, x4, x5], _ => exact ⟨x0, x1, x2, x3, x4, x5, rfl⟩
theorem len9 {x : List Value} (h : x.length = 9) : ∃ x0 x1 x2 x3 x4 x5 x6 x7 x8, x = [x0, x1, x2, x3, x4, x5, x6, x7, x8] := by
  match x, h with
  | [x0, x1, x2, x3, x4, x5, x6, x7, x8], _ => exact ⟨x0, x1, x2, x3, x4, x5, x6, x7, x8, rfl⟩
theorem len10 {x : List Value} (h : x.length = 10) : ∃ x0 x1 x2 x3 x4 x5 x6 x7 x8 x9, x = [x0, x1, x2, x3, x4, x5, x6, x7, x8, x9] := by
  match x, h with
  | [x0, x1, x2, x3, x4, x5, x6, x7, x8, x9], _ => exact ⟨x0, x1, x2, x3, x4, x5, x6, x7, x8, x9, rfl⟩

def argOf : Ty → List Value → Value
  | .pair _ _, cs => .agg cs.toArray
  | _, [v] => v
  | _, _ => undef
@[go_sem] theorem argOf_pair (a b : Ty) (cs : List Value) : argOf (.pair a b) cs = .agg cs.toArray := rfl
/-- This function writes one of this shape. -/
def WOk (f : Nat) (t : Ty) : Prop := hasBody Tryz.prog f = true ∧ ∀ (d : den t), okT t d → ∀ {H : Heap} {b : Nat} {l : Bs} {g : Option Nat} {cs : List Value}, Wr H b l g → Rep H (b :: g.toList) (datT t d) cs → l.length + (encT t d).length < 2^38 →
  HCalls Tryz.prog f #[.pointer (some ⟨b, 0, none⟩), argOf t cs] H fun r H' => r = .tuple #[] ∧ ∃ g', WrStep H b g H' (l ++ encT t d) g'

theorem wnum_ok (n : Int) (hn : -2^63 ≤ n ∧ n < 2^63) {H : Heap} {b : Nat} {l : List UInt8} {g : Option Nat} (h : Wr H b l g) (hl : l.length < 2^40) :
    HCalls Tryz.prog 78 #[.pointer (some ⟨b, 0, none⟩), .int .i64 n] H fun r H' => r = .tuple #[] ∧ ∃ g', WrStep H b g H' (l ++ encT .num n) g' := by
  refine calls_of_vc (args := [_, _]) Tryz.func78 c78ok (Nat.le_of_ble_eq_true rfl) ?_
  have hx : IntKind.i64.wrap n = n := wrap_i64_id n hn.1 hn.2
  simp (implicitDefEqProofs := false) only [go_sem, c78, hx]
  refine (int_ok n hn.1 hn.2 h hl).mono ?_
  rintro r H1 ⟨rfl, g1, w1⟩
  simp (implicitDefEqProofs := false) only [go_sem]
  exact ⟨g1, w1⟩
end Go.Proofs.YtdhlibkdcldioaaGreat
