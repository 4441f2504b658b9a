/- Places: contracts. -/
import Derived.Test.YtighpnijbnllaaaDoorXk
set_option linter.unusedSimpArgs false
set_option linter.unusedVariables false
set_option maxRecDepth 8000
namespace Go.Proofs.YtighpnijbnllaaaDoor
open Gx Go

theorem hcalls_same {P : Program} {f : Nat} {args : Array Value} {H : Heap} {v : Value} (h : ∀ w : World, w.heap = H → Calls P f args w fun e w' => e = .returned v ∧ w' = w) :
    HCalls P f args H fun r H' => r = v ∧ H' = H := by
  intro w hw
  refine (h w hw).mono fun e w' ⟨he, hw'⟩ => ?_
  subst he; subst hw'
  exact ⟨⟨rfl, hw⟩, Same.refl _⟩
theorem count_ok (s : Bs) (c : UInt8) (H : Heap) : HCalls Tryd.prog 42 #[sv s, .string ⟨⟨[c]⟩⟩] H fun r H' => r = .int .i64 (Lib.countByte s c) ∧ H' = H :=
  hcalls_same fun w hw => Tryd.strings_Count_one ⟨⟨s⟩⟩ c w
theorem lastI_ok (s : Bs) (hs : s.length ≤ 65536) (c : Int) (H : Heap) : HCalls Tryd.prog 43 #[sv s, .int .u8 c] H fun r H' => r = .int .i64 (Lib.lastIndexByte ⟨⟨s⟩⟩ c) ∧ H' = H :=
  hcalls_same fun w hw => Tryd.strings_LastIndexByte ⟨⟨s⟩⟩ c (show s.length < _ by omega) w

def lineN (l : Bs) (k : Nat) : Int := ((l.take k).count 10 : Nat) + 1
def lastN (l : Bs) : Nat → Int
  | 0 => -1
  | k + 1 => if ((l.getD k 0).toNat : Int) = 10 then (k : Int) else lastN l k
theorem lastN_bd (l : Bs) : ∀ k : Nat, -1 ≤ lastN l k ∧ lastN l k < k
  | 0 => by simp [lastN]
  | k + 1 => by
    have := lastN_bd l k
    simp only [lastN]
    split <;> omega
def placeT (l : Bs) (a : Int) : Int × Int := if a < 0 ∨ (l.length : Int) < a then (0, 0) else (lineN l a.toNat, a - lastN l a.toNat)

theorem lastN_lib (l : Bs) (n : Nat) (hn : n ≤ l.length) : ∀ k, k ≤ n → Lib.lastIdx ⟨⟨l.take n⟩⟩ 10 k = lastN l k
  | 0, _ => rfl
  | k + 1, h => by
    have e : (⟨⟨l.take n⟩⟩ : ByteArray).data[k]! = l.getD k 0 := by
      show (l.take n).toArray[k]! = _
      simp [List.getElem?_take, show k < n by omega]
      rfl
    simp only [Lib.lastIdx, lastN]
    rw [e, lastN_lib l n hn k (by omega)]

theorem place_ok (l : Bs) (hl : l.length ≤ 65536) (a : Int) (H : Heap) : HCalls Tryd.prog 27 #[sv l, .int .i64 a] H fun r H' => r = .tuple #[.int .i64 (placeT l a).1, .int .i64 (placeT l a).2] ∧ H' = H := by
  refine calls_of_vc (args := [_, _]) Tryd.func27 c27ok (Nat.le_of_ble_eq_true rfl) ?_
  unfold placeT
  by_cases hr : a < 0 ∨ (l.length : Int) < a
  · rw [if_pos hr]
    have hr' : (decide (a < 0) = true) ∨ (decide (a < 0) = false ∧ (l.length : Int) < a) := by
      by_cases q : a < 0
      · exact .inl (by simpa using q)
      · exact .inr ⟨by simpa using q, by omega⟩
    rcases hr' with q | ⟨q, q2⟩
    · simp (implicitDefEqProofs := false) only [go_sem, c27, sv, ba_size, q]
    · simp (implicitDefEqProofs := false) only [go_sem, c27, sv, ba_size, q, q2]
  rw [if_neg hr]
  obtain ⟨k, rfl⟩ : ∃ k : Nat, a = k := ⟨a.toNat, by omega⟩
  have hk : k ≤ l.length := by omega
  have q1 : decide ((k : Int) < 0) = false := by simp
  have q2 : ¬ (l.length : Int) < (k : Int) := by omega
  have k0 : (0 : Int) ≤ (k : Int) := by omega
  have k1 : (k : Int) ≤ (l.length : Int) := by omega
  rw [Int.toNat_natCast]
  have he : (⟨⟨l⟩⟩ : ByteArray).extract 0 k = ⟨⟨l.take k⟩⟩ := by rw [ba_ext]; rfl
  simp (implicitDefEqProofs := false) only [go_sem, c27, sv, ba_size, q1, q2, k0, k1, he]
  refine (count_ok (l.take k) 10 H).mono ?_
  rintro r H1 ⟨rfl, hEq⟩
  obtain rfl := hEq.symm
  have hcl : (l.take k).count 10 ≤ k := Nat.le_trans List.count_le_length (by rw [List.length_take]; omega)
  have hw1 : IntKind.i64.wrap ((Lib.countByte (l.take k) 10 : Nat) + 1 : Int) = lineN l k := by
    unfold Lib.countByte lineN
    rw [wrap_i64_id _ (by omega) (by omega)]
  simp (implicitDefEqProofs := false) only [go_sem, hw1]
  refine (lastI_ok (l.take k) (by rw [List.length_take]; omega) 10 H).mono ?_
  rintro r H1 ⟨rfl, hEq⟩
  obtain rfl := hEq.symm
  have hli : Lib.lastIndexByte ⟨⟨l.take k⟩⟩ 10 = lastN l k := by
    unfold Lib.lastIndexByte
    have : (⟨⟨l.take k⟩⟩ : ByteArray).size = k := by show (l.take k).length = k; rw [List.length_take]; omega
    rw [this]
    exact lastN_lib l k hk k (Nat.le_refl _)
  have hbd := lastN_bd l k
  rw [hli]
  have hw2 : IntKind.i64.wrap (lastN l k + 1) = lastN l k + 1 := by rw [wrap_i64_id _ (by omega) (by omega)]
  have hw3 : IntKind.i64.wrap ((k : Int) - (lastN l k + 1)) = (k : Int) - (lastN l k + 1) := by rw [wrap_i64_id _ (by omega) (by omega)]
  have hw4 : IntKind.i64.wrap ((k : Int) - (lastN l k + 1) + 1) = (k : Int) - lastN l k := by rw [wrap_i64_id _ (by omega) (by omega)]; omega
  simp (implicitDefEqProofs := false) only [go_sem, hw2, hw3, hw4]

theorem rplace_ok (l : Bs) (hl : l.length ≤ 65536) (a : Int) (H : Heap) : HCalls Tryd.prog 28 #[sv l, .int .i64 a] H fun r H' => r = .tuple #[.int .i64 (placeT l a).1, .int .i64 (placeT l a).2] ∧ H' = H := by
  refine calls_of_vc (args := [_, _]) Tryd.func28 c28ok (Nat.le_of_ble_eq_true rfl) ?_
  unfold placeT
  by_cases hr : a < 0 ∨ (l.length : Int) < a
  · rw [if_pos hr]
    have hr' : (decide (a < 0) = true) ∨ (decide (a < 0) = false ∧ (l.length : Int) < a) := by
      by_cases q : a < 0
      · exact .inl (by simpa using q)
      · exact .inr ⟨by simpa using q, by omega⟩
    rcases hr' with q | ⟨q, q2⟩
    · simp (implicitDefEqProofs := false) only [go_sem, c28, sv, ba_size, q]
    · simp (implicitDefEqProofs := false) only [go_sem, c28, sv, ba_size, q, q2]
  rw [if_neg hr]
  obtain ⟨k, rfl⟩ : ∃ k : Nat, a = k := ⟨a.toNat, by omega⟩
  have hk : k ≤ l.length := by omega
  have q1 : decide ((k : Int) < 0) = false := by simp
  have q2 : ¬ (l.length : Int) < (k : Int) := by omega
  rw [Int.toNat_natCast]
  simp (implicitDefEqProofs := false) only [go_sem, c28, sv, ba_size, q1, q2]
  refine vc_loop (fun (i : Nat) H' => i ≤ k ∧ H' = H)
    (fun i => [(0, sv l), (1, .int .i64 k), (6, .int .i64 (lineN l i)), (7, .int .i64 ((i : Int) - lastN l i)), (8, .int .i64 i)]) (fun i => k - i) 0 ?_ ?_ ?_
  · exact ⟨Nat.zero_le _, rfl⟩
  · simp (implicitDefEqProofs := false) only [go_sem, z0, sv]
    exact ⟨rfl, rfl⟩
  · rintro i H' ⟨hi, rfl⟩
    rcases Nat.lt_or_ge i k with hlt | hge
    · have hlt' : (i : Int) < (k : Int) := by omega
      have hi0 : (0 : Int) ≤ (i : Int) := by omega
      have hil : (i : Int) < (l.length : Int) := by omega
      have hiln : i < l.length := by omega
      have hw := succ_i64 i l.length hiln (by unfold maxLen; omega)
      have hbd := lastN_bd l i
      have hcl : (l.take i).count 10 ≤ i := Nat.le_trans List.count_le_length (by rw [List.length_take]; omega)
      have hw1 : IntKind.i64.wrap ((i : Int) - lastN l i + 1) = (i : Int) - lastN l i + 1 := by rw [wrap_i64_id _ (by omega) (by omega)]
      have hts : l.take (i + 1) = l.take i ++ [l[i]] := List.take_succ_eq_append_getElem hiln
      have hgd := getD_at l i hiln
      by_cases e : (l[i].toNat : Int) = 10
      · have e10 : l[i] = 10 := by
          apply UInt8.toNat_inj.1
          have : (UInt8.toNat 10) = 10 := by decide
          omega
        have hl1 : lineN l (i + 1) = lineN l i + 1 := by
          unfold lineN; rw [hts, List.count_append, e10]; simp
        have hl2 : lastN l (i + 1) = i := by simp only [lastN]; rw [hgd, if_pos e]
        have hw2 : IntKind.i64.wrap (lineN l i + 1) = lineN l (i + 1) := by
          rw [hl1, wrap_i64_id _ (by unfold lineN; omega) (by unfold lineN; omega)]
        simp (implicitDefEqProofs := false) only [go_sem, hlt', hi0, hil, sv, ba_size, hgd, hw1, e, hw2, hw]
        refine loopK_intro (i + 1) (by show k - (i + 1) < k - i; omega) ?_ ⟨hlt, rfl⟩
        have hone : ((i + 1 : Nat) : Int) - lastN l (i + 1) = 1 := by rw [hl2]; omega
        simp (implicitDefEqProofs := false) only [go_sem, hone]
      · have hne : ¬ l[i] = 10 := fun q => e (by rw [q]; decide)
        have hl1 : lineN l (i + 1) = lineN l i := by
          unfold lineN; rw [hts, List.count_append]
          have : List.count 10 [l[i]] = 0 := by simp [List.count_cons, hne]
          rw [this]; simp
        have hl2 : lastN l (i + 1) = lastN l i := by simp only [lastN]; rw [hgd, if_neg e]
        simp (implicitDefEqProofs := false) only [go_sem, hlt', hi0, hil, sv, ba_size, hgd, hw1, e, hw]
        refine loopK_intro (i + 1) (by show k - (i + 1) < k - i; omega) ?_ ⟨hlt, rfl⟩
        have hone : ((i + 1 : Nat) : Int) - lastN l (i + 1) = (i : Int) - lastN l i + 1 := by rw [hl2]; omega
        simp (implicitDefEqProofs := false) only [go_sem, hone, hl1]
    · have hlt' : ¬ (i : Int) < (k : Int) := by omega
      obtain rfl : i = k := by omega
      simp (implicitDefEqProofs := false) only [go_sem, hlt']
end Go.Proofs.YtighpnijbnllaaaDoor
