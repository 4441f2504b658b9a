/- Descriptions of lattices as data, and how they lie in memory. -/
import Derived.Test.YtcilkhjadljaaaaCode
import Derived.Test.YtcilkhjadljaaaaGx17
set_option linter.unusedSimpArgs false
set_option linter.unusedVariables false
set_option maxRecDepth 8000
namespace Go.Proofs.Ytcilkhjadljaaaa
open Gx Go

abbrev Bs := List UInt8
def sv (s : Bs) : Value := .string ⟨⟨s⟩⟩
theorem ba_eq (a b : Bs) : ((⟨⟨a⟩⟩ : ByteArray) = ⟨⟨b⟩⟩) = (a = b) := by
  apply propext
  constructor
  · intro h
    have := congrArg (fun x => x.data.toList) h
    simpa using this
  · rintro rfl; rfl
theorem ba_size (a : Bs) : ByteArray.size ⟨⟨a⟩⟩ = a.length := rfl

structure Rl where
  ifs : List Bs
  thn : Bs
  deriving DecidableEq

inductive Lt where
  | mk (kind lo hi : Int) (names : List Bs) (parts : List Lt) (rules : List Rl)
namespace Lt
def kind : Lt → Int | .mk k _ _ _ _ _ => k
def lo : Lt → Int | .mk _ x _ _ _ _ => x
def hi : Lt → Int | .mk _ _ x _ _ _ => x
def names : Lt → List Bs | .mk _ _ _ x _ _ => x
def parts : Lt → List Lt | .mk _ _ _ _ x _ => x
def rules : Lt → List Rl | .mk _ _ _ _ _ x => x
end Lt

def strC (s : Bs) : List Value := [sv s]
def strD (s : Bs) : Dat := .v (sv s)
def strsD (l : List Bs) : Dat := .list 1 (l.map strD)
def ruleD (r : Rl) : Dat := .agg [strsD r.ifs, strD r.thn]
def rulesD (l : List Rl) : Dat := .list 2 (l.map ruleD)
mutual
def Lt.dat : Lt → Dat
  | .mk k lo hi ns ps rs => .agg [.v (.int .i64 k), .v (.int .i64 lo), .v (.int .i64 hi), strsD ns, .list 6 (Lt.dats ps), rulesD rs]
def Lt.dats : List Lt → List Dat
  | [] => []
  | p :: ps => p.dat :: Lt.dats ps
end
theorem Lt.dats_eq : ∀ l : List Lt, Lt.dats l = l.map Lt.dat
  | [] => by simp [Lt.dats]
  | p :: l => by simp [Lt.dats, Lt.dats_eq l]
def partsD (l : List Lt) : Dat := .list 6 (l.map Lt.dat)

mutual
def Lt.sz : Lt → Nat
  | .mk _ _ _ _ ps _ => 1 + Lt.szs ps
def Lt.szs : List Lt → Nat
  | [] => 0
  | p :: ps => p.sz + Lt.szs ps
end
theorem Lt.sz_get : ∀ (ps : List Lt) (j : Nat) (h : j < ps.length), ps[j].sz ≤ Lt.szs ps
  | p :: ps, 0, _ => by simp [Lt.szs]
  | p :: ps, j + 1, h => by
    have := Lt.sz_get ps j (by simpa using h)
    simp [Lt.szs]; omega
theorem Lt.sz_part (l : Lt) (j : Nat) (h : j < l.parts.length) : l.parts[j].sz < l.sz := by
  obtain ⟨k, lo, hi, ns, ps, rs⟩ := l
  have := Lt.sz_get ps j h
  simp only [Lt.parts, Lt.sz]; omega

section
variable {H H' : Heap} {M : List Nat}
abbrev LtA (H : Heap) (M : List Nat) (l : Lt) (cs : List Value) : Prop := Rep H M l.dat cs
abbrev StrsA (H : Heap) (M : List Nat) (l : List Bs) (v : Value) : Prop := Rep H M (strsD l) [v]
abbrev PartsA (H : Heap) (M : List Nat) (l : List Lt) (v : Value) : Prop := Rep H M (partsD l) [v]
abbrev RulesA (H : Heap) (M : List Nat) (l : List Rl) (v : Value) : Prop := Rep H M (rulesD l) [v]

theorem rep_v {x : Value} {cs : List Value} (h : Rep H M (.v x) cs) : cs = [x] := by simpa [Rep] using h
theorem rep_list1 {m : Nat} {l : List Dat} {cs : List Value} (h : Rep H M (.list m l) cs) : ∃ v, cs = [v] ∧ Rep H M (.list m l) [v] := by
  have h' := h
  simp only [Rep] at h
  obtain ⟨a, c, css, h1, _⟩ := h
  subst h1
  exact ⟨_, rfl, h'⟩
theorem reps_cons {d : Dat} {ds : List Dat} {css : List (List Value)} (h : Reps H M (d :: ds) css) : ∃ x xs, css = x :: xs ∧ Rep H M d x ∧ Reps H M ds xs := by simpa [Reps] using h
theorem reps_nil {css : List (List Value)} (h : Reps H M [] css) : css = [] := by simpa [Reps] using h

theorem rep_v' (x : Value) : Rep H M (.v x) [x] := by simp [Rep]
theorem reps_mk {d : Dat} {ds : List Dat} {x : List Value} {xs : List (List Value)} (h : Rep H M d x) (hs : Reps H M ds xs) : Reps H M (d :: ds) (x :: xs) := by
  simp only [Reps]; exact ⟨x, xs, rfl, h, hs⟩
theorem reps_nil' : Reps H M [] [] := by simp [Reps]
theorem rep_agg {l : List Dat} {css : List (List Value)} {cs : List Value} (h : Reps H M l css) (hc : css.flatten = cs) : Rep H M (.agg l) cs := by
  simp only [Rep]; exact ⟨css, hc.symm, h⟩

theorem LtA.open {l : Lt} {cs : List Value} (h : LtA H M l cs) : ∃ vn vp vr, cs = [.int .i64 l.kind, .int .i64 l.lo, .int .i64 l.hi, vn, vp, vr] ∧ StrsA H M l.names vn ∧ PartsA H M l.parts vp ∧ RulesA H M l.rules vr := by
  obtain ⟨k, lo, hi, ns, ps, rs⟩ := l
  unfold LtA at h
  simp only [Lt.dat, Rep] at h
  obtain ⟨css, rfl, h⟩ := h
  obtain ⟨x0, s0, rfl, h0, h⟩ := reps_cons h
  obtain ⟨x1, s1, rfl, h1, h⟩ := reps_cons h
  obtain ⟨x2, s2, rfl, h2, h⟩ := reps_cons h
  obtain ⟨x3, s3, rfl, h3, h⟩ := reps_cons h
  obtain ⟨x4, s4, rfl, h4, h⟩ := reps_cons h
  obtain ⟨x5, s5, rfl, h5, h⟩ := reps_cons h
  cases reps_nil h
  cases rep_v h0; cases rep_v h1; cases rep_v h2
  obtain ⟨v3, rfl, h3⟩ := rep_list1 h3
  rw [Lt.dats_eq] at h4
  obtain ⟨v4, rfl, h4⟩ := rep_list1 h4
  obtain ⟨v5, rfl, h5⟩ := rep_list1 h5
  exact ⟨v3, v4, v5, rfl, h3, h4, h5⟩
theorem LtA.mk {l : Lt} {vn vp vr : Value} (h3 : StrsA H M l.names vn) (h4 : PartsA H M l.parts vp) (h5 : RulesA H M l.rules vr) : LtA H M l [.int .i64 l.kind, .int .i64 l.lo, .int .i64 l.hi, vn, vp, vr] := by
  obtain ⟨k, lo, hi, ns, ps, rs⟩ := l
  unfold LtA
  simp only [Lt.dat, Lt.dats_eq]
  exact rep_agg (reps_mk (rep_v' _) (reps_mk (rep_v' _) (reps_mk (rep_v' _) (reps_mk h3 (reps_mk h4 (reps_mk h5 reps_nil')))))) rfl
theorem RlA.open {r : Rl} {cs : List Value} (h : Rep H M (ruleD r) cs) : ∃ vi, cs = [vi, sv r.thn] ∧ StrsA H M r.ifs vi := by
  simp only [ruleD, Rep] at h
  obtain ⟨css, rfl, h⟩ := h
  obtain ⟨x0, s0, rfl, h0, h⟩ := reps_cons h
  obtain ⟨x1, s1, rfl, h1, h⟩ := reps_cons h
  cases reps_nil h
  cases rep_v h1
  obtain ⟨v0, rfl, h0⟩ := rep_list1 h0
  exact ⟨v0, rfl, h0⟩
theorem RlA.mk {r : Rl} {vi : Value} (h : StrsA H M r.ifs vi) : Rep H M (ruleD r) [vi, sv r.thn] := by
  exact rep_agg (reps_mk h (reps_mk (rep_v' _) reps_nil')) rfl

theorem strD_row (x : Bs) (cs : List Value) (h : Rep H M (strD x) cs) : cs = strC x := rep_v h
/-- A list of strings as a row. -/
theorem StrsA.row {l : List Bs} {v : Value} (h : StrsA H M l v) : ∃ a c, v = .slice a l.length c ∧ l.length ≤ c ∧ c ≤ maxLen ∧ RowR strC H a l := Rep.row strD_row h
theorem strC_len (x : Bs) : (strC x).length = 1 := rfl

theorem PartsA.slice {l : List Lt} {v : Value} (h : PartsA H M l v) : ∃ a c, v = .slice a l.length c ∧ l.length ≤ c ∧ c ≤ maxLen := by
  obtain ⟨a, c, h1, h2, h3⟩ := Rep.slice h
  simp only [List.length_map] at h1 h2
  exact ⟨a, c, h1, h2, h3⟩
theorem RulesA.slice {l : List Rl} {v : Value} (h : RulesA H M l v) : ∃ a c, v = .slice a l.length c ∧ l.length ≤ c ∧ c ≤ maxLen := by
  obtain ⟨a, c, h1, h2, h3⟩ := Rep.slice h
  simp only [List.length_map] at h1 h2
  exact ⟨a, c, h1, h2, h3⟩
theorem StrsA.slice {l : List Bs} {v : Value} (h : StrsA H M l v) : ∃ a c, v = .slice a l.length c ∧ l.length ≤ c ∧ c ≤ maxLen := by
  obtain ⟨a, c, h1, h2, h3⟩ := Rep.slice h
  simp only [List.length_map] at h1 h2
  exact ⟨a, c, h1, h2, h3⟩

/-- A part, where it lies. -/
theorem PartsA.at {l : List Lt} {v : Value} (h : PartsA H M l v) (j : Nat) (hj : j < l.length) : ∃ b o c vn vp vr, v = .slice (some ⟨b, o, none⟩) l.length c ∧
    cellB H b (o + j * 6) = some (.int .i64 l[j].kind) ∧ cellB H b (o + j * 6 + 1) = some (.int .i64 l[j].lo) ∧ cellB H b (o + j * 6 + 2) = some (.int .i64 l[j].hi) ∧
    cellB H b (o + j * 6 + 3) = some vn ∧ cellB H b (o + j * 6 + 4) = some vp ∧ cellB H b (o + j * 6 + 5) = some vr ∧ LtA H M l[j] [.int .i64 l[j].kind, .int .i64 l[j].lo, .int .i64 l[j].hi, vn, vp, vr] := by
  obtain ⟨b, o, c, x, h1, h2, h3, h4, h5⟩ := Rep.at h j (by simpa using hj) (by decide)
  simp only [List.length_map, List.getElem_map] at h1 h5
  obtain ⟨vn, vp, vr, rfl, _⟩ := LtA.open h5
  exact ⟨b, o, c, vn, vp, vr, h1, h4 0 (by decide), h4 1 (by decide), h4 2 (by decide), h4 3 (by decide), h4 4 (by decide), h4 5 (by decide), h5⟩
theorem RulesA.at {l : List Rl} {v : Value} (h : RulesA H M l v) (j : Nat) (hj : j < l.length) : ∃ b o c vi, v = .slice (some ⟨b, o, none⟩) l.length c ∧
    cellB H b (o + j * 2) = some vi ∧ cellB H b (o + j * 2 + 1) = some (sv l[j].thn) ∧ StrsA H M l[j].ifs vi := by
  obtain ⟨b, o, c, x, h1, h2, h3, h4, h5⟩ := Rep.at h j (by simpa using hj) (by decide)
  simp only [List.length_map, List.getElem_map] at h1 h5
  obtain ⟨vi, rfl, h6⟩ := RlA.open h5
  exact ⟨b, o, c, vi, h1, h4 0 (by decide), h4 1 (by decide), h6⟩
theorem StrsA.at {l : List Bs} {v : Value} (h : StrsA H M l v) (j : Nat) (hj : j < l.length) : ∃ b o c, v = .slice (some ⟨b, o, none⟩) l.length c ∧ cellB H b (o + j) = some (.string ⟨⟨l[j]⟩⟩) := by
  obtain ⟨b, o, c, x, h1, h2, h3, h4, h5⟩ := Rep.at h j (by simpa using hj) (by decide)
  simp only [List.length_map, List.getElem_map] at h1 h5
  have := h4 0 (by decide)
  rw [strD_row _ _ h5] at this
  exact ⟨b, o, c, h1, by simpa [strC, sv] using this⟩
end

theorem Rep.one1 {H : Heap} {M : List Nat} {m : Nat} {l : List Dat} {v : Value} (h : Rep H M (.list m l) [v]) : v.oneCell' = true := by
  obtain ⟨a, c, rfl, _⟩ := Rep.slice h; rfl
theorem one2 {a b : Value} (h1 : a.oneCell' = true) (h2 : b.oneCell' = true) : ∀ v ∈ [a, b], v.oneCell' = true := by simp [h1, h2]
theorem one6 {k lo hi : Int} {a b c : Value} (h1 : a.oneCell' = true) (h2 : b.oneCell' = true) (h3 : c.oneCell' = true) : ∀ v ∈ [Value.int .i64 k, .int .i64 lo, .int .i64 hi, a, b, c], v.oneCell' = true := by
  intro v hv
  simp only [List.mem_cons, List.not_mem_nil, or_false] at hv
  rcases hv with rfl | rfl | rfl | rfl | rfl | rfl
  all_goals first | rfl | assumption
theorem LtA.one6 {H : Heap} {M : List Nat} {l : Lt} {vn vp vr : Value} (h : Rep H M l.dat [.int .i64 l.kind, .int .i64 l.lo, .int .i64 l.hi, vn, vp, vr]) : ∀ v ∈ [Value.int .i64 l.kind, .int .i64 l.lo, .int .i64 l.hi, vn, vp, vr], v.oneCell' = true := by
  obtain ⟨vn', vp', vr', e, h1, h2, h3⟩ := LtA.open h
  simp only [List.cons.injEq, true_and, and_true] at e
  obtain ⟨rfl, rfl, rfl⟩ := e
  exact Go.Proofs.Ytcilkhjadljaaaa.one6 (Rep.one1 h1) (Rep.one1 h2) (Rep.one1 h3)
theorem new_fr {H H1 H2 : Heap} (hf1 : Fr [] H H1) (hf2 : Fr [H.size] H1 H2) : Fr [] H H2 := hf1.trans' hf2 (by simp)

theorem succ_i64 (i n : Nat) (h : i < n) (hn : n ≤ maxLen) : IntKind.i64.wrap ((i : Int) + 1) = ((i + 1 : Nat) : Int) := by
  unfold maxLen at hn
  rw [wrap_i64_id _ (by omega) (by omega)]; omega
theorem z0 : ((0 : Nat) : Int) = 0 := rfl
theorem n1 : ((1 : Nat) : Int) = 1 := rfl
theorem n2 : ((2 : Nat) : Int) = 2 := rfl

/-! ### the same -/
def all2 {α : Type} (E : α → α → Bool) : List α → List α → Bool
  | [], [] => true
  | x :: xs, y :: ys => E x y && all2 E xs ys
  | _, _ => false
theorem all2_len {α : Type} {E : α → α → Bool} : ∀ {a b : List α}, all2 E a b = true → a.length = b.length
  | [], [], _ => rfl
  | x :: xs, y :: ys, h => by
    simp only [all2, Bool.and_eq_true] at h
    simp [all2_len h.2]
  | [], _ :: _, h => by simp [all2] at h
  | _ :: _, [], h => by simp [all2] at h
theorem all2_ne {α : Type} {E : α → α → Bool} {a b : List α} (h : a.length ≠ b.length) : all2 E a b = false := by
  cases h2 : all2 E a b with
  | false => rfl
  | true => exact absurd (all2_len h2) h
theorem all2_drop {α : Type} {E : α → α → Bool} {a b : List α} {i : Nat} (ha : i < a.length) (hb : i < b.length) : all2 E (a.drop i) (b.drop i) = (E a[i] b[i] && all2 E (a.drop (i + 1)) (b.drop (i + 1))) := by
  rw [List.drop_eq_getElem_cons ha, List.drop_eq_getElem_cons hb]; rfl
theorem all2_eq {α : Type} [DecidableEq α] : ∀ (a b : List α), all2 (fun x y => decide (x = y)) a b = decide (a = b)
  | [], [] => rfl
  | x :: xs, y :: ys => by
    simp only [all2, all2_eq xs ys, List.cons.injEq, Bool.decide_and]
  | [], _ :: _ => by simp [all2]
  | _ :: _, [] => by simp [all2]

mutual
def eqT : Lt → Lt → Bool
  | .mk k lo hi ns ps rs, .mk k' lo' hi' ns' ps' rs' => decide (k = k') && (decide (lo = lo') && (decide (hi = hi') && (decide (ns = ns') && (decide (rs = rs') && eqTs ps ps'))))
def eqTs : List Lt → List Lt → Bool
  | [], [] => true
  | x :: xs, y :: ys => eqT x y && eqTs xs ys
  | [], _ :: _ => false
  | _ :: _, [] => false
end
theorem eqTs_all2 : ∀ (a b : List Lt), eqTs a b = all2 eqT a b
  | [], [] => by simp [eqTs, all2]
  | x :: xs, y :: ys => by simp [eqTs, all2, eqTs_all2 xs ys]
  | [], _ :: _ => by simp [eqTs, all2]
  | _ :: _, [] => by simp [eqTs, all2]
theorem eqT_open (a b : Lt) : eqT a b = (decide (a.kind = b.kind) && (decide (a.lo = b.lo) && (decide (a.hi = b.hi) && (decide (a.names = b.names) && (decide (a.rules = b.rules) && all2 eqT a.parts b.parts))))) := by
  obtain ⟨k, lo, hi, ns, ps, rs⟩ := a
  obtain ⟨k', lo', hi', ns', ps', rs'⟩ := b
  simp only [eqT, eqTs_all2]
  rfl
mutual
theorem eqT_iff : ∀ (a b : Lt), eqT a b = true ↔ a = b
  | .mk k lo hi ns ps rs, .mk k' lo' hi' ns' ps' rs' => by
    simp only [eqT, Bool.and_eq_true, decide_eq_true_eq, eqTs_iff ps ps', Lt.mk.injEq]
    constructor
    · rintro ⟨h1, h2, h3, h4, h5, h6⟩; exact ⟨h1, h2, h3, h4, h6, h5⟩
    · rintro ⟨h1, h2, h3, h4, h5, h6⟩; exact ⟨h1, h2, h3, h4, h6, h5⟩
theorem eqTs_iff : ∀ (a b : List Lt), eqTs a b = true ↔ a = b
  | [], [] => by simp [eqTs]
  | x :: xs, y :: ys => by simp only [eqTs, Bool.and_eq_true, eqT_iff x y, eqTs_iff xs ys, List.cons.injEq]
  | [], _ :: _ => by simp [eqTs]
  | _ :: _, [] => by simp [eqTs]
end
theorem eqT_refl (a : Lt) : eqT a a = true := (eqT_iff a a).2 rfl
theorem eqT_comm (a b : Lt) : eqT a b = eqT b a := by
  rw [Bool.eq_iff_iff, eqT_iff, eqT_iff]
  exact ⟨Eq.symm, Eq.symm⟩
end Go.Proofs.Ytcilkhjadljaaaa
