/- Tokens as data, and how they lie in memory; what a source's tokens are. -/
import Derived.Test.YtbgjgaaobnbijaaDoorCode
import Derived.Test.YtbgjgaaobnbijaaDoorGx18
set_option linter.unusedSimpArgs false
set_option linter.unusedVariables false
set_option maxRecDepth 8000
namespace Go.Proofs.YtbgjgaaobnbijaaDoor
open Gx Go

abbrev Bs := List UInt8
def sv (s : Bs) : Value := .string ⟨⟨s⟩⟩
theorem ba_eq (a b : Bs) : ((⟨⟨a⟩⟩ : ByteArray) = ⟨⟨b⟩⟩) = (a = b) := by
  apply propext
  constructor
  · intro h
    have := congrArg (fun x => x.data.toList) h
    simpa using this
  · rintro rfl; rfl
theorem ba_size (a : Bs) : ByteArray.size ⟨⟨a⟩⟩ = a.length := rfl
theorem ba_ext (l : Bs) (i j : Nat) : ByteArray.extract ⟨⟨l⟩⟩ i j = ⟨⟨(l.take j).drop i⟩⟩ := by
  apply ByteArray.ext
  simp [ByteArray.data_extract, List.drop_take]
theorem ba_app (a b : Bs) : (⟨⟨a⟩⟩ ++ ⟨⟨b⟩⟩ : ByteArray) = ⟨⟨a ++ b⟩⟩ := by
  apply ByteArray.ext
  simp [ByteArray.data_append]
theorem succ_i64 (i n : Nat) (h : i < n) (hn : n ≤ maxLen) : IntKind.i64.wrap ((i : Int) + 1) = ((i + 1 : Nat) : Int) := by
  unfold maxLen at hn
  rw [wrap_i64_id _ (by omega) (by omega)]; omega
theorem z0 : ((0 : Nat) : Int) = 0 := rfl
theorem n1 : ((1 : Nat) : Int) = 1 := rfl
theorem new_fr {H H1 H2 : Heap} (hf1 : Fr [] H H1) (hf2 : Fr [H.size] H1 H2) : Fr [] H H2 := hf1.trans' hf2 (by simp)

/-! ### bytes and words -/
def letB (c : UInt8) : Bool := decide ((97 : Int) ≤ c.toNat) && decide ((c.toNat : Int) ≤ 122)
def digB (c : UInt8) : Bool := decide ((48 : Int) ≤ c.toNat) && decide ((c.toNat : Int) ≤ 57)
def partB (c : UInt8) : Bool := letB c || (digB c || decide ((c.toNat : Int) = 45))
def blankB (c : UInt8) : Bool := decide ((c.toNat : Int) = 32) || (decide ((c.toNat : Int) = 9) || (decide ((c.toNat : Int) = 10) || decide ((c.toNat : Int) = 13)))
def lineB (c : UInt8) : Bool := !decide ((c.toNat : Int) = 10)
def validN (s : Bs) : Bool := decide (0 < s.length) && (decide (s.length ≤ 16) && (letB (s.getD 0 0) && s.all partB))

def kwList : List Bs := [
  [97, 110, 100], [98, 111, 111, 108], [98, 111, 116, 116, 111, 109], [99, 108, 111, 115, 101, 100], [99, 111, 110, 102, 108, 105, 99, 116], [101, 108, 115, 101], [102, 97, 108, 115, 101], [102, 105, 114, 115, 116], [102, 108, 97, 103], [102, 108, 97, 116], [105, 102], [105, 110], [105, 110, 116], [106, 111, 105, 110], [107, 101, 121, 115],
  [108, 97, 116, 116, 105, 99, 101], [108, 101, 113], [108, 101, 120], [109, 97, 112], [109, 97, 120], [109, 105, 110], [110, 97, 109, 101], [110, 97, 109, 101, 115], [110, 111, 116], [110, 117, 109], [110, 117, 109, 98, 101, 114], [111, 98, 106, 101, 99, 116], [111, 110], [111, 110, 101], [111, 114], [112, 97, 105, 114],
  [113, 117, 101, 114, 121], [114, 101, 99], [114, 101, 103, 105, 115, 116, 101, 114], [115], [115, 101, 99, 111, 110, 100], [115, 101, 116], [115, 105, 122, 101], [115, 117, 109], [116, 104, 101, 110], [116, 114, 117, 101], [117, 112, 100, 97, 116, 101], [118, 97, 108, 117, 101, 115], [119, 114, 105, 116, 101]]
def signList : List Bs := [[61], [58], [59], [44], [40], [41], [123], [125], [91], [93], [46], [43], [45], [60], [60, 61], [61, 61], [61, 62]]
def kwB (s : Bs) : Bool := decide (s ∈ kwList)
def signB (s : Bs) : Bool := decide (s ∈ signList)

/-! ### tokens -/
structure Tk where
  kind : Int
  text : Bs
  n : Int
  at_ : Int
  deriving DecidableEq
def tkC (t : Tk) : List Value := [.int .i64 t.kind, sv t.text, .int .i64 t.n, .int .i64 t.at_]
theorem tkC_len (t : Tk) : (tkC t).length = 4 := rfl

/-- How many bytes are blanks and comments; within a comment or not. -/
def skB : Bool → Bs → Nat
  | _, [] => 0
  | false, c :: r => if blankB c then skB false r + 1 else if (c.toNat : Int) = 35 then skB true r + 1 else 0
  | true, c :: r => if lineB c then skB true r + 1 else skB false r + 1

def numF : Nat → Bs → Nat
  | a, [] => a
  | a, c :: r => numF (10 * a + (c.toNat - 48)) r
def numL (w : Bs) : Nat := numF 0 w
theorem numF_up : ∀ (w : Bs) (a : Nat), a ≤ numF a w
  | [], a => Nat.le_refl _
  | c :: r, a => Nat.le_trans (by omega) (numF_up r (10 * a + (c.toNat - 48)))

inductive TR where
  | ok (kind : Int) (text : Bs) (n : Int) (len : Nat)
  | bad (code : Int)
  deriving DecidableEq

def tokW (w : Bs) : TR := if 16 < w.length then .bad 3 else .ok (if kwB w then 2 else 1) w 0 w.length
def tokD (w : Bs) : TR := if 1 < w.length ∧ w.getD 0 0 = 48 then .bad 2 else if 1000000000000000 < numL w then .bad 5 else .ok 3 [] (numL w) w.length
def tokQ (w s : Bs) : TR := if s = [] ∨ s.getD 0 0 ≠ 39 then .bad 2 else if validN w then .ok 4 w 0 (w.length + 2) else .bad 3
def tokG (s : Bs) : TR := if 2 ≤ s.length ∧ signB (s.take 2) = true then .ok 5 (s.take 2) 0 2 else if signB (s.take 1) = true then .ok 5 (s.take 1) 0 1 else .bad 2
/-- The token at the head of what is left. -/
def tokS : Bs → TR
  | [] => .ok 6 [] 0 0
  | c :: r => if letB c then tokW ((c :: r).takeWhile partB) else if digB c then tokD ((c :: r).takeWhile digB)
    else if (c.toNat : Int) = 39 then tokQ (r.takeWhile partB) (r.dropWhile partB) else tokG (c :: r)

inductive LR where
  | bad (code : Int) (at_ : Nat)
  | ok (l : List Tk)
  deriving DecidableEq
def LR.cons (t : Tk) : LR → LR
  | .bad e k => .bad e k
  | .ok l => .ok (t :: l)

/-- The tokens of what is left from the offset o on. -/
def lexF : Nat → Bs → Nat → LR
  | 0, _, _ => .bad 0 0
  | f + 1, s, o => match tokS (s.drop (skB false s)) with
    | .bad e => .bad e (o + skB false s)
    | .ok k t n m => if k = 6 then .ok [⟨k, t, n, (o + skB false s : Nat)⟩] else
      LR.cons ⟨k, t, n, (o + skB false s : Nat)⟩ (lexF f (s.drop (skB false s + m)) (o + skB false s + m))
def lexA (l : Bs) (o : Nat) : LR := lexF (l.length + 1) (l.drop o) o
def lexT (l : Bs) : LR := if 65536 < l.length then .bad 6 65536 else lexA l 0

/-! ### laws of the parts -/
def twN (p : UInt8 → Bool) (l : Bs) : Nat := (l.takeWhile p).length
theorem twN_le (p : UInt8 → Bool) (l : Bs) : twN p l ≤ l.length := (List.takeWhile_sublist p).length_le
theorem twN_nil (p : UInt8 → Bool) : twN p [] = 0 := rfl
theorem twN_cons (p : UInt8 → Bool) (c : UInt8) (r : Bs) : twN p (c :: r) = if p c then twN p r + 1 else 0 := by
  unfold twN
  rw [List.takeWhile_cons]
  split <;> rfl
theorem take_twN (p : UInt8 → Bool) (l : Bs) : l.take (twN p l) = l.takeWhile p := by
  induction l with
  | nil => rfl
  | cons c r ih =>
    rw [twN_cons, List.takeWhile_cons]
    split
    · rw [List.take_succ_cons, ih]
    · rfl
theorem drop_twN (p : UInt8 → Bool) (l : Bs) : l.drop (twN p l) = l.dropWhile p := by
  induction l with
  | nil => rfl
  | cons c r ih =>
    rw [twN_cons, List.dropWhile_cons]
    split
    · rw [List.drop_succ_cons, ih]
    · rfl
theorem twN_stop (p : UInt8 → Bool) (l : Bs) (c : UInt8) (r : Bs) (h : l.drop (twN p l) = c :: r) : p c = false := by
  induction l with
  | nil => simp at h
  | cons d t ih =>
    rw [twN_cons] at h
    split at h
    · rw [List.drop_succ_cons] at h; exact ih h
    · rename_i hp
      simp at h; rw [← h.1]; simpa using hp
/-- A run from an offset on, step by step. -/
theorem twN_at (p : UInt8 → Bool) (l : Bs) (i : Nat) (h : i < l.length) : twN p (l.drop i) = if p l[i] then twN p (l.drop (i + 1)) + 1 else 0 := by
  rw [List.drop_eq_getElem_cons h, twN_cons]
theorem twN_end (p : UInt8 → Bool) (l : Bs) (i : Nat) (h : l.length ≤ i) : twN p (l.drop i) = 0 := by
  rw [List.drop_eq_nil_of_le h]; rfl

theorem skB_le : ∀ (b : Bool) (l : Bs), skB b l ≤ l.length
  | false, [] => by simp [skB]
  | true, [] => by simp [skB]
  | false, c :: r => by
    have h1 := skB_le false r
    have h2 := skB_le true r
    simp only [skB, List.length_cons]
    split
    · omega
    · split <;> omega
  | true, c :: r => by
    have h1 := skB_le false r
    have h2 := skB_le true r
    simp only [skB, List.length_cons]
    split <;> omega
theorem skB_run : ∀ l : Bs, skB false l = twN blankB l + skB false (l.drop (twN blankB l))
  | [] => by simp [skB, twN_nil]
  | c :: r => by
    rw [twN_cons]
    split
    · rename_i h
      rw [List.drop_succ_cons]
      have := skB_run r
      simp only [skB, h, if_true]
      omega
    · simp
theorem skB_line : ∀ l : Bs, skB true l = twN lineB l + skB false (l.drop (twN lineB l))
  | [] => by simp [skB, twN_nil]
  | c :: r => by
    rw [twN_cons]
    split
    · rename_i h
      rw [List.drop_succ_cons]
      have := skB_line r
      simp only [skB, h, if_true]
      omega
    · rename_i h
      have h' : (c.toNat : Int) = 10 := by simpa [lineB] using h
      have hb : blankB c = true := by simp [blankB, h']
      simp [skB, h, hb]
theorem skB_hash {c : UInt8} (h : (c.toNat : Int) = 35) (r : Bs) : skB false (c :: r) = twN lineB (c :: r) + skB false ((c :: r).drop (twN lineB (c :: r))) := by
  have hb : blankB c = false := by simp [blankB]; omega
  have hl : lineB c = true := by simp [lineB]; omega
  have := skB_line r
  rw [twN_cons, if_pos hl, List.drop_succ_cons]
  simp only [skB, hb, h, if_true]
  simp; omega
theorem skB_other {c : UInt8} (hb : blankB c = false) (h : ¬ (c.toNat : Int) = 35) (r : Bs) : skB false (c :: r) = 0 := by
  simp [skB, hb, h]
/-- Behind blanks and comments there is neither. -/
theorem skB_done : ∀ (b : Bool) (l : Bs) (c : UInt8) (r : Bs), l.drop (skB b l) = c :: r → blankB c = false ∧ ¬ (c.toNat : Int) = 35
  | b, [], c, r, h => by cases b <;> simp [skB] at h
  | false, d :: t, c, r, h => by
    simp only [skB] at h
    split at h
    · rw [List.drop_succ_cons] at h; exact skB_done false t c r h
    · split at h
      · rw [List.drop_succ_cons] at h; exact skB_done true t c r h
      · rename_i h1 h2
        simp at h; rw [← h.1]; exact ⟨by simpa using h1, h2⟩
  | true, d :: t, c, r, h => by
    simp only [skB] at h
    split at h
    · rw [List.drop_succ_cons] at h; exact skB_done true t c r h
    · rw [List.drop_succ_cons] at h; exact skB_done false t c r h

/-- A token other than the end has a byte at least, and lies within what is left. -/
theorem tokS_len {s : Bs} {k n : Int} {t : Bs} {m : Nat} (h : tokS s = .ok k t n m) : m ≤ s.length ∧ (s ≠ [] → 1 ≤ m ∧ k ≠ 6) ∧ (s = [] → k = 6) := by
  cases s with
  | nil => simp [tokS] at h; simp [h]
  | cons c r =>
    refine ⟨?_, fun _ => ?_, fun e => by cases e⟩
    all_goals
      simp only [tokS] at h
      split at h
      · rename_i hc
        have hp : partB c = true := by simp [partB, hc]
        have hle := twN_le partB (c :: r)
        unfold twN at hle
        have h1 : 1 ≤ ((c :: r).takeWhile partB).length := by rw [List.takeWhile_cons, if_pos hp]; simp
        unfold tokW at h
        split at h
        · cases h
        · simp only [TR.ok.injEq] at h
          obtain ⟨h2, _, _, h3⟩ := h
          first
            | omega
            | (refine ⟨by omega, ?_⟩; rw [← h2]; split <;> decide)
      · split at h
        · rename_i _ hc
          have hle := twN_le digB (c :: r)
          unfold twN at hle
          have h1 : 1 ≤ ((c :: r).takeWhile digB).length := by rw [List.takeWhile_cons, if_pos hc]; simp
          unfold tokD at h
          split at h
          · cases h
          · split at h
            · cases h
            · simp only [TR.ok.injEq] at h
              obtain ⟨h2, _, _, h3⟩ := h
              first
                | omega
                | exact ⟨by omega, by omega⟩
        · split at h
          · have hle := twN_le partB r
            have hd := drop_twN partB r
            unfold twN at hle hd
            unfold tokQ at h
            split at h
            · cases h
            · rename_i hne
              have hlt : (r.takeWhile partB).length < r.length := by
                rcases Nat.lt_or_ge (r.takeWhile partB).length r.length with h' | h'
                · exact h'
                · rw [List.drop_eq_nil_of_le h'] at hd
                  exact absurd (.inl hd.symm) hne
              split at h
              · simp only [TR.ok.injEq] at h
                obtain ⟨h2, _, _, h3⟩ := h
                try simp only [List.length_cons]
                first
                  | omega
                  | exact ⟨by omega, by omega⟩
              · cases h
          · unfold tokG at h
            split at h
            · rename_i h2
              simp only [TR.ok.injEq] at h
              obtain ⟨h3, _, _, h4⟩ := h
              first
                | omega
                | exact ⟨by omega, by omega⟩
            · split at h
              · simp only [TR.ok.injEq] at h
                obtain ⟨h3, _, _, h4⟩ := h
                try simp only [List.length_cons]
                first
                  | omega
                  | exact ⟨by omega, by omega⟩
              · cases h

/-- More fuel than bytes: the fuel says nothing. -/
theorem lexF_fuel : ∀ (f g : Nat) (s : Bs) (o : Nat), s.length < f → s.length < g → lexF f s o = lexF g s o
  | 0, _, s, o, h, _ => by omega
  | _ + 1, 0, s, o, _, h => by omega
  | f + 1, g + 1, s, o, hf, hg => by
    simp only [lexF]
    have hk := skB_le false s
    cases e : tokS (s.drop (skB false s)) with
    | bad c => rfl
    | ok k t n m =>
      simp only
      split
      · rfl
      · rename_i h6
        obtain ⟨h1, h2, h3⟩ := tokS_len e
        have hne : s.drop (skB false s) ≠ [] := fun h => h6 (h3 h)
        obtain ⟨h4, _⟩ := h2 hne
        have h5 : 0 < (s.drop (skB false s)).length := List.length_pos_iff.2 hne
        simp only [List.length_drop] at h1 h5
        rw [lexF_fuel f g _ _ (by simp only [List.length_drop]; omega) (by simp only [List.length_drop]; omega)]
theorem lexA_open (l : Bs) (o : Nat) (ho : o ≤ l.length) : lexA l o = match tokS (l.drop (o + skB false (l.drop o))) with
    | .bad e => .bad e (o + skB false (l.drop o))
    | .ok k t n m => if k = 6 then .ok [⟨k, t, n, (o + skB false (l.drop o) : Nat)⟩] else LR.cons ⟨k, t, n, (o + skB false (l.drop o) : Nat)⟩ (lexA l (o + skB false (l.drop o) + m)) := by
  unfold lexA
  rw [lexF]
  rw [List.drop_drop]
  cases e : tokS (l.drop (o + skB false (l.drop o))) with
  | bad c => rfl
  | ok k t n m =>
    simp only
    split
    · rfl
    · rename_i h6
      obtain ⟨h1, h2, h3⟩ := tokS_len e
      have hne : l.drop (o + skB false (l.drop o)) ≠ [] := fun h => h6 (h3 h)
      obtain ⟨h4, _⟩ := h2 hne
      have h5 : 0 < (l.drop (o + skB false (l.drop o))).length := List.length_pos_iff.2 hne
      simp only [List.length_drop] at h1 h5
      rw [List.drop_drop, show o + (skB false (l.drop o) + m) = o + skB false (l.drop o) + m by omega]
      rw [lexF_fuel l.length (l.length + 1) _ _ (by simp only [List.length_drop]; omega) (by simp only [List.length_drop]; omega)]
end Go.Proofs.YtbgjgaaobnbijaaDoor
