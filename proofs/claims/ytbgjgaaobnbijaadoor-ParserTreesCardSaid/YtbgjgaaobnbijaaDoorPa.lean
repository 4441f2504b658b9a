/- Trees as data; what an expression's tree is: the grammar as a function on tokens. -/
import Derived.Test.YtbgjgaaobnbijaaDoorXh
set_option linter.unusedSimpArgs false
set_option linter.unusedVariables false
set_option maxRecDepth 8000
namespace Go.Proofs.YtbgjgaaobnbijaaDoor
open Gx Go

inductive Nd where
  | mk (kind : Int) (text : Bs) (n at_ : Int) (kids : List Nd)
mutual
def Nd.dat : Nd → Dat
  | .mk k t n a ks => .agg [.v (.int .i64 k), .v (sv t), .v (.int .i64 n), .v (.int .i64 a), .list 5 (Nd.dats ks)]
def Nd.dats : List Nd → List Dat
  | [] => []
  | p :: ps => p.dat :: Nd.dats ps
end
theorem dats_eq : ∀ l : List Nd, Nd.dats l = l.map Nd.dat
  | [] => by simp [Nd.dats]
  | p :: l => by simp [Nd.dats, dats_eq l]
def kidsD (l : List Nd) : Dat := .list 5 (l.map Nd.dat)
theorem nd_rep {H : Heap} {M : List Nat} {k : Int} {t : Bs} {n a : Int} {ks : List Nd} {cs : List Value} : Rep H M (Nd.dat (.mk k t n a ks)) cs ↔ ∃ v, cs = [.int .i64 k, sv t, .int .i64 n, .int .i64 a, v] ∧ Rep H M (kidsD ks) [v] := by
  have e : ∀ {cs : List Value}, Rep H M (kidsD ks) cs → ∃ v, cs = [v] := by
    intro cs h
    unfold kidsD at h
    simp only [Rep] at h
    obtain ⟨a, c, css, h, _⟩ := h
    exact ⟨_, h⟩
  simp only [Nd.dat, Rep, Reps, dats_eq]
  constructor
  · rintro ⟨css, rfl, c0, x0, rfl, rfl, c1, x1, rfl, rfl, c2, x2, rfl, rfl, c3, x3, rfl, rfl, c4, x4, rfl, h4, rfl⟩
    have h4' : Rep H M (kidsD ks) c4 := by unfold kidsD; simp only [Rep]; exact h4
    obtain ⟨v, rfl⟩ := e h4'
    exact ⟨v, by simp, h4'⟩
  · rintro ⟨v, rfl, h⟩
    unfold kidsD at h
    simp only [Rep] at h
    exact ⟨[_, _, _, _, [v]], by simp, _, _, rfl, rfl, _, _, rfl, rfl, _, _, rfl, rfl, _, _, rfl, rfl, _, _, rfl, h, rfl⟩
theorem RepP.nd {H : Heap} {B : Nat → Prop} {k : Int} {t : Bs} {n a : Int} {ks : List Nd} {v : Value} (h : RepP H B (kidsD ks) [v]) : RepP H B (Nd.dat (.mk k t n a ks)) [.int .i64 k, sv t, .int .i64 n, .int .i64 a, v] :=
  fun M hM => nd_rep.2 ⟨v, rfl, h M hM⟩
theorem RepP.nd_open {H : Heap} {B : Nat → Prop} {k : Int} {t : Bs} {n a : Int} {ks : List Nd} {cs : List Value} (h : RepP H B (Nd.dat (.mk k t n a ks)) cs) : ∃ v, cs = [.int .i64 k, sv t, .int .i64 n, .int .i64 a, v] ∧ RepP H B (kidsD ks) [v] := by
  obtain ⟨v, rfl, _⟩ := nd_rep.1 (h [] (by simp))
  refine ⟨v, rfl, fun M hM => ?_⟩
  obtain ⟨v', e, h'⟩ := nd_rep.1 (h M hM)
  simp only [List.cons.injEq, and_true, true_and] at e
  subst e; exact h'

/-! ### readers of tokens -/
abbrev Flt := Int × Int
abbrev PP (α : Type) := List Tk → Except Flt (α × List Tk)
def hd (ts : List Tk) : Tk := ts.headD ⟨6, [], 0, 0⟩
def isB (s : Bs) (ts : List Tk) : Bool := (decide ((hd ts).kind = 2) || decide ((hd ts).kind = 5)) && decide ((hd ts).text = s)
def bd {α β : Type} (p : PP α) (f : α → PP β) : PP β := fun ts => match p ts with
  | .error e => .error e
  | .ok (a, r) => f a r
theorem bd_err {α β : Type} {p : PP α} {f : α → PP β} {ts : List Tk} {e : Flt} (h : p ts = .error e) : bd p f ts = .error e := by simp only [bd, h]
theorem bd_ok {α β : Type} {p : PP α} {f : α → PP β} {ts r : List Tk} {a : α} (h : p ts = .ok (a, r)) : bd p f ts = f a r := by simp only [bd, h]
def ret {α : Type} (a : α) : PP α := fun ts => .ok (a, ts)
def expP (s : Bs) : PP Int := fun ts => if isB s ts then .ok ((hd ts).at_, ts.tail) else .error (2, (hd ts).at_)
def takeP (k : Int) : PP Tk := fun ts => if (hd ts).kind = k then .ok (hd ts, ts.tail) else .error (2, (hd ts).at_)
/-- A construct that opens at the next token: lo is what may lie within. -/
def entP {α β : Type} (lo : Option β) (s : Bs) (body : β → PP α) : PP α := fun ts => if isB s ts then (match lo with
    | none => .error (6, (hd ts).at_)
    | some x => body x ts.tail) else .error (2, (hd ts).at_)

def intP : PP Nd := fun ts => if isB [45] ts then bd (takeP 3) (fun t => ret (.mk 44 [] (IntKind.i64.wrap (0 - t.n)) (hd ts).at_ [])) ts.tail else bd (takeP 3) (fun t => ret (.mk 44 [] t.n (hd ts).at_ [])) ts
def namedP (k : Int) : PP Nd := bd (takeP 1) fun t => ret (.mk k t.text 0 t.at_ [])
def quoteP : PP Nd := bd (takeP 4) fun t => ret (.mk 47 t.text 0 t.at_ [])

abbrev Kd := List (Bs × Int)
def kdOf (l : Kd) (s : Bs) : Int := (l.lookup s).getD 0
def opAt (kd : Kd) (ts : List Tk) : Bool := decide (kdOf kd (hd ts).text ≠ 0) && isB (hd ts).text ts
def chainF (op : PP Nd) (kd : Kd) : Nat → Nd → PP Nd
  | 0, n => ret n
  | f + 1, n => fun ts => if opAt kd ts then bd op (fun m => chainF op kd f (.mk (kdOf kd (hd ts).text) [] 0 (hd ts).at_ [n, m])) ts.tail else .ok (n, ts)
def chainP (op : PP Nd) (kd : Kd) : PP Nd := bd op fun n r => chainF op kd r.length n r

abbrev Lo := Option (PP Nd × PP Nd)
def postF (lo : Lo) : Nat → Nd → PP Nd
  | 0, n => ret n
  | f + 1, n => fun ts => if isB [46] ts then bd (takeP 1) (fun t => postF lo f (.mk 42 t.text 0 (hd ts).at_ [n])) ts.tail
    else if isB [91] ts then entP lo [91] (fun x => bd x.1 fun m => bd (expP [93]) fun _ => postF lo f (.mk 43 [] 0 (hd ts).at_ [n, m])) ts
    else .ok (n, ts)

def fnList : List Bs := [[102, 108, 97, 103], [110, 117, 109], [115, 101, 116], [109, 97, 112], [114, 101, 99], [112, 97, 105, 114], [111, 110, 101], [119, 114, 105, 116, 101], [115, 105, 122, 101], [115, 117, 109], [110, 117, 109, 98, 101, 114], [111, 110], [107, 101, 121, 115], [118, 97, 108, 117, 101, 115], [102, 105, 114, 115, 116], [115, 101, 99, 111, 110, 100], [99, 111, 110, 102, 108, 105, 99, 116]]
def argP (e : PP Nd) (fn : Bs) : PP Nd := fun ts =>
  if fn = [114, 101, 99] then bd (takeP 1) (fun t => bd (expP [58]) fun _ => bd e fun x => ret (.mk 52 t.text 0 (hd ts).at_ [x])) ts
  else if fn = [109, 97, 112] then bd e (fun x => bd (expP [58]) fun _ => bd e fun y => ret (.mk 52 [] 0 (hd ts).at_ [x, y])) ts
  else e ts
/-- "," or the end of a list. -/
def commaP : PP Bool := fun ts => if isB [44] ts then .ok (true, ts.tail) else bd (expP [41]) (fun _ => ret false) ts
def listF (arg : PP Nd) : Nat → List Nd → PP (List Nd)
  | 0, l => ret l
  | f + 1, l => bd arg fun a => bd commaP fun m => if m then listF arg f (l ++ [a]) else ret (l ++ [a])
/-- A list within parentheses, the first of which is read. -/
def listP (arg : PP Nd) : PP (List Nd) := fun ts => if isB [41] ts then .ok ([], ts.tail) else listF arg ts.length [] ts
def wordL : List (Bs × Int) := [([116, 114, 117, 101], 45), ([102, 97, 108, 115, 101], 46), ([115], 49), ([98, 111, 116, 116, 111, 109], 50)]
def primP (lo : Lo) : PP Nd := fun ts =>
  if (hd ts).kind = 3 ∨ isB [45] ts = true then intP ts
  else if (hd ts).kind = 4 then quoteP ts
  else if (hd ts).kind = 1 then namedP 48 ts
  else if isB [116, 114, 117, 101] ts then .ok (.mk 45 [] 0 (hd ts).at_ [], ts.tail)
  else if isB [102, 97, 108, 115, 101] ts then .ok (.mk 46 [] 0 (hd ts).at_ [], ts.tail)
  else if isB [115] ts then .ok (.mk 49 [] 0 (hd ts).at_ [], ts.tail)
  else if isB [98, 111, 116, 116, 111, 109] ts then .ok (.mk 50 [] 0 (hd ts).at_ [], ts.tail)
  else if isB [40] ts then entP lo [40] (fun x => bd x.1 fun n => bd (expP [41]) fun _ => ret n) ts
  else if (hd ts).kind = 2 ∧ (hd ts).text ∈ fnList then entP lo [40] (fun x => bd (listP (argP x.1 (hd ts).text)) fun l => ret (.mk 51 (hd ts).text 0 (hd ts).at_ l)) ts.tail
  else .error (2, (hd ts).at_)
def postP (lo : Lo) : PP Nd := bd (primP lo) fun n r => postF lo r.length n r
def kSum : Kd := [([43], 40), ([45], 41)]
def kJoin : Kd := [([106, 111, 105, 110], 39)]
def kCmp : Kd := [([60, 61], 34), ([60], 35), ([61, 61], 36), ([105, 110], 37), ([108, 101, 113], 38)]
def kAnd : Kd := [([97, 110, 100], 32)]
def kOr : Kd := [([111, 114], 31)]
def sumP (lo : Lo) : PP Nd := chainP (postP lo) kSum
def joinP (lo : Lo) : PP Nd := chainP (sumP lo) kJoin
def cmpP (lo : Lo) : PP Nd := bd (joinP lo) fun n ts => if opAt kCmp ts then bd (joinP lo) (fun m => ret (.mk (kdOf kCmp (hd ts).text) [] 0 (hd ts).at_ [n, m])) ts.tail else .ok (n, ts)
def notP (lo : Lo) : PP Nd := fun ts => if isB [110, 111, 116] ts then entP lo [110, 111, 116] (fun x => bd x.2 fun n => ret (.mk 33 [] 0 (hd ts).at_ [n])) ts else cmpP lo ts
def andP (lo : Lo) : PP Nd := chainP (notP lo) kAnd
def orP (lo : Lo) : PP Nd := chainP (andP lo) kOr
def exprP (lo : Lo) : PP Nd := fun ts => if isB [105, 102] ts then entP lo [105, 102] (fun x => bd x.1 fun a => bd (expP [116, 104, 101, 110]) fun _ => bd x.1 fun b => bd (expP [101, 108, 115, 101]) fun _ => bd x.1 fun c => ret (.mk 30 [] 0 (hd ts).at_ [a, b, c])) ts else orP lo ts
/-- An expression, and what may stand behind "not", within so many levels. -/
def lev : Nat → PP Nd × PP Nd
  | 0 => (exprP none, notP none)
  | k + 1 => (exprP (some (lev k)), notP (some (lev k)))
def loK : Nat → Lo
  | 0 => none
  | k + 1 => some (lev k)
theorem lev_eq (k : Nat) : lev k = (exprP (loK k), notP (loK k)) := by cases k <;> rfl

/-! ### nothing is read but in front -/
/-- What is left is shorter, or as it was. -/
def Dn {α : Type} (p : PP α) : Prop := ∀ (ts r : List Tk) (a : α), p ts = .ok (a, r) → r.length ≤ ts.length
theorem Dn.of {α : Type} {p : PP α} (h : Dn p) {ts r : List Tk} {a : α} (hp : p ts = .ok (a, r)) : r.length ≤ ts.length := h _ _ _ hp
theorem tail_le (ts : List Tk) : ts.tail.length ≤ ts.length := by simp
theorem Dn.bnd {α β : Type} {p : PP α} {f : α → PP β} (h : Dn p) (hf : ∀ a, Dn (f a)) : Dn (bd p f) := by
  intro ts r b hb
  unfold bd at hb
  split at hb
  · cases hb
  · rename_i a q hq
    have := h.of hq; have := (hf a).of hb; omega
theorem Dn.bnd' {α β : Type} {p : PP α} {f : α → PP β} (h : Dn p) (hf : ∀ a ts r b, f a ts = .ok (b, r) → r.length ≤ ts.length) : Dn (bd p f) := h.bnd fun a ts r b hb => hf a ts r b hb
theorem Dn.ret {α : Type} (a : α) : Dn (ret a) := by
  intro ts r b h
  simp only [Go.Proofs.YtbgjgaaobnbijaaDoor.ret, Except.ok.injEq, Prod.mk.injEq] at h
  rw [h.2]
  exact Nat.le_refl _
theorem Dn.tl {α : Type} {p : PP α} (h : Dn p) {ts r : List Tk} {a : α} (hp : p ts.tail = .ok (a, r)) : r.length ≤ ts.length := by
  have := h.of hp; have := tail_le ts; omega
theorem expP_dn (s : Bs) : Dn (expP s) := by
  intro ts r b h
  unfold expP at h
  split at h
  · cases h; exact tail_le _
  · cases h
theorem takeP_dn (k : Int) : Dn (takeP k) := by
  intro ts r b h
  unfold takeP at h
  split at h
  · cases h; exact tail_le _
  · cases h
theorem entP_dn {α β : Type} {lo : Option β} {s : Bs} {body : β → PP α} (h : ∀ x, lo = some x → Dn (body x)) : Dn (entP lo s body) := by
  intro ts r b hb
  unfold entP at hb
  split at hb
  · split at hb
    · cases hb
    · rename_i x
      exact Dn.tl (h x rfl) hb
  · cases hb
theorem intP_dn : Dn intP := by
  intro ts r b h
  unfold intP at h
  split at h
  · exact Dn.tl ((takeP_dn 3).bnd fun _ => Dn.ret _) h
  · exact Dn.of ((takeP_dn 3).bnd fun _ => Dn.ret _) h
theorem namedP_dn (k : Int) : Dn (namedP k) := (takeP_dn 1).bnd fun _ => Dn.ret _
theorem quoteP_dn : Dn quoteP := (takeP_dn 4).bnd fun _ => Dn.ret _
theorem chainF_dn {op : PP Nd} {kd : Kd} (h : Dn op) : ∀ f n, Dn (chainF op kd f n)
  | 0, n => Dn.ret n
  | f + 1, n => by
    intro ts r b hb
    simp only [chainF] at hb
    split at hb
    · exact Dn.tl (h.bnd fun m => chainF_dn h f _) hb
    · cases hb; exact Nat.le_refl _
theorem chainP_dn {op : PP Nd} {kd : Kd} (h : Dn op) : Dn (chainP op kd) := h.bnd' fun n ts r b hb => (chainF_dn h _ n).of hb
def LoDn (lo : Lo) : Prop := ∀ x, lo = some x → Dn x.1 ∧ Dn x.2
section
variable {lo : Lo} (hl : LoDn lo)
include hl
theorem postF_dn : ∀ f n, Dn (postF lo f n)
  | 0, n => Dn.ret n
  | f + 1, n => by
    intro ts r b hb
    simp only [postF] at hb
    split at hb
    · exact Dn.tl ((takeP_dn 1).bnd fun t => postF_dn f _) hb
    · split at hb
      · exact Dn.of (entP_dn fun x hx => ((hl x hx).1).bnd fun m => (expP_dn _).bnd fun _ => postF_dn f _) hb
      · cases hb; exact Nat.le_refl _
end
theorem commaP_dn : Dn commaP := by
  intro ts r b hb
  unfold commaP at hb
  split at hb
  · cases hb; exact tail_le _
  · exact Dn.of ((expP_dn _).bnd fun _ => Dn.ret _) hb
theorem argP_dn {e : PP Nd} (he : Dn e) (fn : Bs) : Dn (argP e fn) := by
  intro ts r b hb
  unfold argP at hb
  split at hb
  · exact Dn.of ((takeP_dn 1).bnd fun t => (expP_dn _).bnd fun _ => he.bnd fun _ => Dn.ret _) hb
  · split at hb
    · exact Dn.of (he.bnd fun t => (expP_dn _).bnd fun _ => he.bnd fun _ => Dn.ret _) hb
    · exact Dn.of (he) hb
theorem listF_dn {arg : PP Nd} (h : Dn arg) : ∀ f l, Dn (listF arg f l)
  | 0, l => Dn.ret l
  | f + 1, l => h.bnd fun a => commaP_dn.bnd fun m => by
    cases m
    · exact Dn.ret _
    · exact listF_dn h f _
theorem listP_dn {arg : PP Nd} (h : Dn arg) : Dn (listP arg) := by
  intro ts r b hb
  unfold listP at hb
  split at hb
  · cases hb; exact tail_le _
  · exact Dn.of (listF_dn h _ _) hb
section
variable {lo : Lo} (hl : LoDn lo)
include hl
theorem primP_dn : Dn (primP lo) := by
  intro ts r b hb
  unfold primP at hb
  split at hb
  · exact Dn.of (intP_dn) hb
  split at hb
  · exact Dn.of (quoteP_dn) hb
  split at hb
  · exact Dn.of (namedP_dn _) hb
  split at hb
  · cases hb; exact tail_le _
  split at hb
  · cases hb; exact tail_le _
  split at hb
  · cases hb; exact tail_le _
  split at hb
  · cases hb; exact tail_le _
  split at hb
  · exact Dn.of (entP_dn fun x hx => (hl x hx).1.bnd fun _ => (expP_dn _).bnd fun _ => Dn.ret _) hb
  split at hb
  · exact Dn.tl (entP_dn fun x hx => (listP_dn (argP_dn (hl x hx).1 _)).bnd fun _ => Dn.ret _) hb
  · cases hb
theorem postP_dn : Dn (postP lo) := (primP_dn hl).bnd' fun n ts r b hb => (postF_dn hl _ n).of hb
theorem sumP_dn : Dn (sumP lo) := chainP_dn (postP_dn hl)
theorem joinP_dn : Dn (joinP lo) := chainP_dn (sumP_dn hl)
theorem cmpP_dn : Dn (cmpP lo) := (joinP_dn hl).bnd' fun n ts r b hb => by
  split at hb
  · exact Dn.tl ((joinP_dn hl).bnd fun _ => Dn.ret _) hb
  · cases hb; exact Nat.le_refl _
theorem notP_dn : Dn (notP lo) := by
  intro ts r b hb
  unfold notP at hb
  split at hb
  · exact Dn.of (entP_dn fun x hx => (hl x hx).2.bnd fun _ => Dn.ret _) hb
  · exact Dn.of (cmpP_dn hl) hb
theorem andP_dn : Dn (andP lo) := chainP_dn (notP_dn hl)
theorem orP_dn : Dn (orP lo) := chainP_dn (andP_dn hl)
theorem exprP_dn : Dn (exprP lo) := by
  intro ts r b hb
  unfold exprP at hb
  split at hb
  · exact Dn.of (entP_dn fun x hx => (hl x hx).1.bnd fun _ => (expP_dn _).bnd fun _ => (hl x hx).1.bnd fun _ => (expP_dn _).bnd fun _ => (hl x hx).1.bnd fun _ => Dn.ret _) hb
  · exact Dn.of (orP_dn hl) hb
end
theorem lev_dn : ∀ k, Dn (lev k).1 ∧ Dn (lev k).2
  | 0 => by
    have h : LoDn none := fun x hx => by cases hx
    exact ⟨exprP_dn h, notP_dn h⟩
  | k + 1 => by
    have h : LoDn (some (lev k)) := fun x hx => by
      cases hx; exact lev_dn k
    exact ⟨exprP_dn h, notP_dn h⟩
theorem loK_dn (k : Nat) : LoDn (loK k) := by
  intro x hx
  cases k with
  | zero => cases hx
  | succ k => cases hx; exact lev_dn k
end Go.Proofs.YtbgjgaaobnbijaaDoor
