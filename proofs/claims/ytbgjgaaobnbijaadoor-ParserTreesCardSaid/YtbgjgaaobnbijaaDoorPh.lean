/- Expressions at all levels; lattices, declarations and programs: the grammar as functions on tokens. -/
import Derived.Test.YtbgjgaaobnbijaaDoorPg
set_option linter.unusedSimpArgs false
set_option linter.unusedVariables false
set_option maxRecDepth 8000
namespace Go.Proofs.YtbgjgaaobnbijaaDoor
open Gx Go

theorem lev_ok : ∀ k : Nat, POk k 26 [] (exprP (loK k)) NdR ∧ POk k 74 [] (notP (loK k)) NdR := by
  have key : ∀ k : Nat, (∀ j, k = j + 1 → POk j 26 [] (lev j).1 NdR ∧ POk j 74 [] (lev j).2 NdR) → POk k 26 [] (exprP (loK k)) NdR ∧ POk k 74 [] (notP (loK k)) NdR := fun k h => by
    have hl := loK_dn k
    have h1 := primary_ok fun j hj => (h j hj).1
    have h2 := postfix_ok (fun j hj => (h j hj).1) h1
    have h3 := sum_ok hl h2
    have h4 := joined_ok hl h3
    have h5 := comparison_ok hl h4
    have h6 := not_ok (fun j hj => (h j hj).2) h5
    have h7 := and_ok hl h6
    have h8 := or_ok hl h7
    exact ⟨expression_ok (fun j hj => (h j hj).1) h8, h6⟩
  intro k
  induction k with
  | zero => exact key 0 fun j hj => by omega
  | succ k ih =>
    refine key (k + 1) fun j hj => ?_
    obtain rfl : j = k := by omega
    rw [lev_eq]; exact ih

/-! ### lattices -/
def quotesF : Nat → List Nd → PP (List Nd)
  | 0, l => ret l
  | f + 1, l => fun ts => if isB [44] ts then bd quoteP (fun q => quotesF f (l ++ [q])) ts.tail else .ok (l, ts)
def quotesP : PP (List Nd) := bd quoteP fun q r => quotesF r.length [q] r
def allowedP : PP (List Nd) := fun ts => if isB [40] ts then bd quotesP (fun l => bd (expP [41]) fun _ => ret l) ts.tail else .ok ([], ts)
def twoP (p : PP Nd) : PP (List Nd) := bd (expP [40]) fun _ => bd p fun a => bd (expP [44]) fun _ => bd p fun b => bd (expP [41]) fun _ => ret [a, b]
def optQ : PP (List Nd) := fun ts => if (hd ts).kind = 4 then quotesP ts else .ok ([], ts)
def ruleP : PP Nd := fun ts => bd optQ (fun q => bd (expP [61, 62]) fun _ => bd quoteP fun c => ret (.mk 20 [] 0 (hd ts).at_ (q ++ [c]))) ts
def rulesF : Nat → List Nd → PP (List Nd)
  | 0, l => ret l
  | f + 1, l => fun ts => if isB [59] ts then bd ruleP (fun r => rulesF f (l ++ [r])) ts.tail else .ok (l, ts)
def closedP : PP (List Nd) := bd (expP [40]) fun _ => bd optQ fun l ts => bd (rulesF ts.length l) (fun l => bd (expP [41]) fun _ => ret l) ts
def memP (x : PP Nd) : PP Nd := bd (takeP 1) fun t => bd (expP [58]) fun _ => bd x fun y => ret (.mk 22 t.text 0 t.at_ [y])
def memF (x : PP Nd) : Nat → List Nd → PP (List Nd)
  | 0, l => ret l
  | f + 1, l => bd (memP x) fun m ts => if isB [44] ts then memF x f (l ++ [m]) ts.tail else .ok (l ++ [m], ts)
def memsP (x : PP Nd) : PP (List Nd) := fun ts => bd (memF x (ts.length + 1) []) (fun l => bd (expP [125]) fun _ => ret l) ts
abbrev LLo := Option (PP Nd)
def latP (lo : LLo) : PP Nd := fun ts =>
  if (hd ts).kind = 1 then namedP 21 ts
  else if isB [102, 108, 97, 103] ts then .ok (.mk 10 [] 0 (hd ts).at_ [], ts.tail)
  else if isB [114, 101, 103, 105, 115, 116, 101, 114] ts then .ok (.mk 18 [] 0 (hd ts).at_ [], ts.tail)
  else if isB [115, 101, 116] ts then bd allowedP (fun l => ret (.mk 13 [] 0 (hd ts).at_ l)) ts.tail
  else if isB [102, 108, 97, 116] ts then bd allowedP (fun l => ret (.mk 17 [] 0 (hd ts).at_ l)) ts.tail
  else if isB [109, 97, 112] ts then entP lo [109, 97, 112] (fun x => bd allowedP fun l => bd x fun y => ret (.mk 14 [] 0 (hd ts).at_ (l ++ [y]))) ts
  else if isB [109, 97, 120] ts then bd (twoP intP) (fun l => ret (.mk 11 [] 0 (hd ts).at_ l)) ts.tail
  else if isB [109, 105, 110] ts then bd (twoP intP) (fun l => ret (.mk 12 [] 0 (hd ts).at_ l)) ts.tail
  else if isB [108, 101, 120] ts then entP lo [108, 101, 120] (fun x => bd (twoP x) fun l => ret (.mk 16 [] 0 (hd ts).at_ l)) ts
  else if isB [123] ts then entP lo [123] (fun x => bd (memsP x) fun l => ret (.mk 15 [] 0 (hd ts).at_ l)) ts
  else if isB [99, 108, 111, 115, 101, 100] ts then bd closedP (fun l => ret (.mk 19 [] 0 (hd ts).at_ l)) ts.tail
  else .error (2, (hd ts).at_)
def levL : Nat → PP Nd
  | 0 => latP none
  | k + 1 => latP (some (levL k))
def loL : Nat → LLo
  | 0 => none
  | k + 1 => some (levL k)
theorem levL_eq (k : Nat) : levL k = latP (loL k) := by cases k <;> rfl

/-! ### declarations -/
def sortP : PP Int := fun ts =>
  if isB [105, 110, 116] ts then .ok (1, ts.tail)
  else if isB [98, 111, 111, 108] ts then .ok (2, ts.tail)
  else if isB [110, 97, 109, 101] ts then .ok (3, ts.tail)
  else if isB [110, 97, 109, 101, 115] ts then .ok (4, ts.tail)
  else .error (2, (hd ts).at_)
def paramP : PP Nd := bd (takeP 1) fun t => bd (expP [58]) fun _ => bd sortP fun s => ret (.mk 6 t.text s t.at_ [])
/-- What stands behind "update" or "query". -/
def funcP (at_ kind : Int) : PP Nd := bd (takeP 1) fun t => bd (expP [40]) fun _ => bd (listP paramP) fun ps => bd (expP [111, 110]) fun _ => bd (namedP 48) fun o =>
  bd (if kind = 5 then bd (expP [58]) fun _ => sortP else ret 0) fun n => bd (expP [61]) fun _ => bd (exprP (loK 64)) fun e => bd (expP [59]) fun _ => ret (.mk kind t.text n at_ (ps ++ [o] ++ [e]))
def latD (at_ kind : Int) (s : Bs) : PP Nd := bd (takeP 1) fun t => bd (expP s) fun _ => bd (levL 64) fun x => bd (expP [59]) fun _ => ret (.mk kind t.text 0 at_ [x])
def declP : PP Nd := fun ts =>
  if isB [108, 97, 116, 116, 105, 99, 101] ts then latD (hd ts).at_ 2 [61] ts.tail
  else if isB [111, 98, 106, 101, 99, 116] ts then latD (hd ts).at_ 3 [58] ts.tail
  else if isB [117, 112, 100, 97, 116, 101] ts then funcP (hd ts).at_ 4 ts.tail
  else if isB [113, 117, 101, 114, 121] ts then funcP (hd ts).at_ 5 ts.tail
  else .error (2, (hd ts).at_)
def progF : Nat → List Nd → PP (List Nd)
  | 0, l => ret l
  | f + 1, l => fun ts => if (hd ts).kind = 6 then .ok (l, ts) else bd declP (fun d => progF f (l ++ [d])) ts
def progP : PP Nd := fun ts => bd (progF (ts.length + 1) []) (fun l => ret (.mk 1 [] 0 0 l)) ts
/-- The whole of the tokens. -/
def topP (p : PP Nd) (ts : List Tk) : Except Flt Nd := match p ts with
  | .error e => .error e
  | .ok (n, r) => if (hd r).kind = 6 then .ok n else .error (2, (hd r).at_)

/-! ### nothing is read but in front -/
theorem quotesF_dn : ∀ f l, Dn (quotesF f l)
  | 0, l => Dn.ret l
  | f + 1, l => by
    intro ts r b hb
    simp only [quotesF] at hb
    split at hb
    · exact Dn.tl (quoteP_dn.bnd fun m => quotesF_dn f _) hb
    · cases hb; exact Nat.le_refl _
theorem quotesP_dn : Dn quotesP := quoteP_dn.bnd' fun n ts r b hb => (quotesF_dn _ _).of hb
theorem allowedP_dn : Dn allowedP := by
  intro ts r b hb
  unfold allowedP at hb
  split at hb
  · exact Dn.tl (quotesP_dn.bnd fun _ => (expP_dn _).bnd fun _ => Dn.ret _) hb
  · cases hb; exact Nat.le_refl _
theorem twoP_dn {p : PP Nd} (h : Dn p) : Dn (twoP p) := (expP_dn _).bnd fun _ => h.bnd fun _ => (expP_dn _).bnd fun _ => h.bnd fun _ => (expP_dn _).bnd fun _ => Dn.ret _
theorem optQ_dn : Dn optQ := by
  intro ts r b hb
  unfold optQ at hb
  split at hb
  · exact quotesP_dn.of hb
  · cases hb; exact Nat.le_refl _
theorem ruleP_dn : Dn ruleP := by
  intro ts r b hb
  unfold ruleP at hb
  exact Dn.of (optQ_dn.bnd fun _ => (expP_dn _).bnd fun _ => quoteP_dn.bnd fun _ => Dn.ret _) hb
theorem rulesF_dn : ∀ f l, Dn (rulesF f l)
  | 0, l => Dn.ret l
  | f + 1, l => by
    intro ts r b hb
    simp only [rulesF] at hb
    split at hb
    · exact Dn.tl (ruleP_dn.bnd fun m => rulesF_dn f _) hb
    · cases hb; exact Nat.le_refl _
theorem closedP_dn : Dn closedP := (expP_dn _).bnd fun _ => optQ_dn.bnd' fun l ts r b hb => Dn.of ((rulesF_dn _ l).bnd fun _ => (expP_dn _).bnd fun _ => Dn.ret _) hb
theorem memP_dn {x : PP Nd} (h : Dn x) : Dn (memP x) := (takeP_dn 1).bnd fun _ => (expP_dn _).bnd fun _ => h.bnd fun _ => Dn.ret _
theorem memF_dn {x : PP Nd} (h : Dn x) : ∀ f l, Dn (memF x f l)
  | 0, l => Dn.ret l
  | f + 1, l => (memP_dn h).bnd' fun m ts r b hb => by
    split at hb
    · exact Dn.tl (memF_dn h f _) hb
    · cases hb; exact Nat.le_refl _
theorem memsP_dn {x : PP Nd} (h : Dn x) : Dn (memsP x) := by
  intro ts r b hb
  unfold memsP at hb
  exact Dn.of ((memF_dn h _ _).bnd fun _ => (expP_dn _).bnd fun _ => Dn.ret _) hb
theorem ite_le {α : Type} {c : Prop} [Decidable c] {x y : Except Flt (α × List Tk)} {n : Nat} (hx : ∀ b r, x = .ok (b, r) → r.length ≤ n) (hy : ∀ b r, y = .ok (b, r) → r.length ≤ n) : ∀ b r, (if c then x else y) = .ok (b, r) → r.length ≤ n := by
  intro b r h
  by_cases hc : c
  · rw [if_pos hc] at h; exact hx b r h
  · rw [if_neg hc] at h; exact hy b r h
theorem ok_le {α : Type} {n : α} {ts : List Tk} : ∀ b r, (Except.ok (n, ts.tail) : Except Flt (α × List Tk)) = .ok (b, r) → r.length ≤ ts.length := by
  intro b r h; cases h; exact tail_le _
theorem latP_dn {lo : LLo} (hl : ∀ x, lo = some x → Dn x) : Dn (latP lo) := by
  intro ts r b hb
  unfold latP at hb
  revert b r
  suffices h : ∀ b r, latP lo ts = .ok (b, r) → r.length ≤ ts.length from fun r b hb => h b r hb
  unfold latP
  refine ite_le (fun b r h => (namedP_dn _).of h) (ite_le ok_le (ite_le ok_le (ite_le (fun b r h => Dn.tl (allowedP_dn.bnd fun _ => Dn.ret _) h) (ite_le (fun b r h => Dn.tl (allowedP_dn.bnd fun _ => Dn.ret _) h) (ite_le ?_ (ite_le (fun b r h => Dn.tl ((twoP_dn intP_dn).bnd fun _ => Dn.ret _) h) (ite_le (fun b r h => Dn.tl ((twoP_dn intP_dn).bnd fun _ => Dn.ret _) h) (ite_le ?_ (ite_le ?_ (ite_le (fun b r h => Dn.tl (closedP_dn.bnd fun _ => Dn.ret _) h) fun b r h => ?_))))))))))
  · intro b r h; exact Dn.of (entP_dn fun x hx => allowedP_dn.bnd fun _ => (hl x hx).bnd fun _ => Dn.ret _) h
  · intro b r h; exact Dn.of (entP_dn fun x hx => (twoP_dn (hl x hx)).bnd fun _ => Dn.ret _) h
  · intro b r h; exact Dn.of (entP_dn fun x hx => (memsP_dn (hl x hx)).bnd fun _ => Dn.ret _) h
  · cases h
theorem levL_dn : ∀ k, Dn (levL k)
  | 0 => latP_dn fun x hx => by cases hx
  | k + 1 => latP_dn fun x hx => by cases hx; exact levL_dn k
theorem loL_dn (k : Nat) : ∀ x, loL k = some x → Dn x := by
  intro x hx
  cases k with
  | zero => cases hx
  | succ k => cases hx; exact levL_dn k
theorem sortP_dn : Dn sortP := by
  intro ts r b hb
  unfold sortP at hb
  split at hb
  · cases hb; exact tail_le _
  split at hb
  · cases hb; exact tail_le _
  split at hb
  · cases hb; exact tail_le _
  split at hb
  · cases hb; exact tail_le _
  · cases hb
theorem paramP_dn : Dn paramP := (takeP_dn 1).bnd fun _ => (expP_dn _).bnd fun _ => sortP_dn.bnd fun _ => Dn.ret _
theorem funcP_dn (a k : Int) : Dn (funcP a k) := (takeP_dn 1).bnd fun _ => (expP_dn _).bnd fun _ => (listP_dn paramP_dn).bnd fun _ => (expP_dn _).bnd fun _ => (namedP_dn _).bnd fun _ => Dn.bnd (by
  split
  · exact (expP_dn _).bnd fun _ => sortP_dn
  · exact Dn.ret _) fun _ => (expP_dn _).bnd fun _ => (exprP_dn (loK_dn 64)).bnd fun _ => (expP_dn _).bnd fun _ => Dn.ret _
theorem latD_dn (a k : Int) (s : Bs) : Dn (latD a k s) := (takeP_dn 1).bnd fun _ => (expP_dn _).bnd fun _ => (levL_dn 64).bnd fun _ => (expP_dn _).bnd fun _ => Dn.ret _
/-- A declaration reads a token at least. -/
theorem declP_lt {ts r : List Tk} {n : Nd} (h : declP ts = .ok (n, r)) (hn : ts ≠ []) : r.length < ts.length := by
  have hp := List.length_pos_iff.2 hn
  have ht : ts.tail.length = ts.length - 1 := by simp
  unfold declP at h
  split at h
  · have := (latD_dn _ _ _).of h; omega
  split at h
  · have := (latD_dn _ _ _).of h; omega
  split at h
  · have := (funcP_dn _ _).of h; omega
  split at h
  · have := (funcP_dn _ _).of h; omega
  · cases h
end Go.Proofs.YtbgjgaaobnbijaaDoor
