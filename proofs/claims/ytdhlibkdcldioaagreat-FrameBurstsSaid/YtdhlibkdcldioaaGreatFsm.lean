/- What Small says of a message. -/
import Derived.Test.YtdhlibkdcldioaaGreatFrb
import Derived.Test.YtdhlibkdcldioaaGreatCodeS
set_option linter.unusedSimpArgs false
set_option linter.unusedVariables false
set_option maxRecDepth 8000
namespace Go.Proofs.YtdhlibkdcldioaaGreat
open Gx Go

theorem openRead {H : Heap} {M : List Nat} {d : den tRead} {cs : List Value} (h : Rep H M (datT tRead d) cs) : ∃ a2 q2, cs = [.int .i64 d.1, .int .i64 d.2.1, .slice a2 (List.length d.2.2) q2] := by
  obtain ⟨c0, r0, rfl, h0, h⟩ := rep_pair.1 h
  obtain ⟨c1, r1, rfl, h1, h⟩ := rep_pair.1 h
  have h2 := h
  have e0 := rep_num h0; subst e0
  have e1 := rep_num h1; subst e1
  obtain ⟨a2, q2, rfl, _, _, _⟩ := rep_bytes.1 h2
  exact ⟨a2, q2, rfl⟩
theorem openWrite {H : Heap} {M : List Nat} {d : den tWrite} {cs : List Value} (h : Rep H M (datT tWrite d) cs) : ∃ a1 q1, cs = [.string ⟨⟨d.1⟩⟩, .slice a1 (List.length d.2) q1] := by
  obtain ⟨c0, r0, rfl, h0, h⟩ := rep_pair.1 h
  have h1 := h
  have e0 := rep_text h0; subst e0
  obtain ⟨a1, q1, rfl, _, _, _⟩ := rep_bytes.1 h1
  exact ⟨a1, q1, rfl⟩
theorem openCommand {H : Heap} {M : List Nat} {d : den tCmd} {cs : List Value} (h : Rep H M (datT tCmd d) cs) : ∃ a3 q3 a5 q5, cs = [.int .i64 d.1, .int .i64 d.2.1, .int .i64 d.2.2.1, .slice a3 (List.length d.2.2.2.1) q3, .int .i64 d.2.2.2.2.1, .slice a5 (List.length d.2.2.2.2.2) q5] ∧ Rep H M (datT (.list tWrite) d.2.2.2.1) [.slice a3 (List.length d.2.2.2.1) q3] := by
  obtain ⟨c0, r0, rfl, h0, h⟩ := rep_pair.1 h
  obtain ⟨c1, r1, rfl, h1, h⟩ := rep_pair.1 h
  obtain ⟨c2, r2, rfl, h2, h⟩ := rep_pair.1 h
  obtain ⟨c3, r3, rfl, h3, h⟩ := rep_pair.1 h
  obtain ⟨c4, r4, rfl, h4, h⟩ := rep_pair.1 h
  have h5 := h
  have e0 := rep_num h0; subst e0
  have e1 := rep_num h1; subst e1
  have e2 := rep_num h2; subst e2
  obtain ⟨a3, q3, rfl, _, _⟩ := rep_list h3
  have e4 := rep_num h4; subst e4
  obtain ⟨a5, q5, rfl, _, _, _⟩ := rep_bytes.1 h5
  exact ⟨a3, q3, a5, q5, rfl, h3⟩
theorem openAck {H : Heap} {M : List Nat} {d : den tAck} {cs : List Value} (h : Rep H M (datT tAck d) cs) : ∃ a1 q1, cs = [.int .i64 d.1, .slice a1 (List.length d.2) q1] := by
  obtain ⟨c0, r0, rfl, h0, h⟩ := rep_pair.1 h
  have h1 := h
  have e0 := rep_num h0; subst e0
  obtain ⟨a1, q1, rfl, _, _, _⟩ := rep_bytes.1 h1
  exact ⟨a1, q1, rfl⟩
theorem openCertificate {H : Heap} {M : List Nat} {d : den tCert} {cs : List Value} (h : Rep H M (datT tCert d) cs) : ∃ y0 y1 y2 a1 q1 a2 q2 a3 q3 a5 q5 a6 q6, cs = [y0, y1, y2, .slice a1 (List.length d.2.1) q1, .slice a2 (List.length d.2.2.1) q2, .slice a3 (List.length d.2.2.2.1) q3, .int .i64 d.2.2.2.2.1, .slice a5 (List.length d.2.2.2.2.2.1) q5, .slice a6 (List.length d.2.2.2.2.2.2) q6] ∧ Rep H M (datT tRound d.1) [y0, y1, y2] ∧ Rep H M (datT (.list tRead) d.2.1) [.slice a1 (List.length d.2.1) q1] ∧ Rep H M (datT (.list tCmd) d.2.2.1) [.slice a2 (List.length d.2.2.1) q2] ∧ Rep H M (datT (.list tCmd) d.2.2.2.1) [.slice a3 (List.length d.2.2.2.1) q3] ∧ Rep H M (datT (.list tAck) d.2.2.2.2.2.2) [.slice a6 (List.length d.2.2.2.2.2.2) q6] := by
  obtain ⟨c0, r0, rfl, h0, h⟩ := rep_pair.1 h
  obtain ⟨c1, r1, rfl, h1, h⟩ := rep_pair.1 h
  obtain ⟨c2, r2, rfl, h2, h⟩ := rep_pair.1 h
  obtain ⟨c3, r3, rfl, h3, h⟩ := rep_pair.1 h
  obtain ⟨c4, r4, rfl, h4, h⟩ := rep_pair.1 h
  obtain ⟨c5, r5, rfl, h5, h⟩ := rep_pair.1 h
  have h6 := h
  obtain ⟨y0, y1, y2, rfl⟩ := len3 (rep_wid h0)
  obtain ⟨a1, q1, rfl, _, _⟩ := rep_list h1
  obtain ⟨a2, q2, rfl, _, _⟩ := rep_list h2
  obtain ⟨a3, q3, rfl, _, _⟩ := rep_list h3
  have e4 := rep_num h4; subst e4
  obtain ⟨a5, q5, rfl, _, _, _⟩ := rep_bytes.1 h5
  obtain ⟨a6, q6, rfl, _, _⟩ := rep_list h6
  exact ⟨y0, y1, y2, a1, q1, a2, q2, a3, q3, a5, q5, a6, q6, rfl, h0, h1, h2, h3, h6⟩
theorem openBase {H : Heap} {M : List Nat} {d : den tBase} {cs : List Value} (h : Rep H M (datT tBase d) cs) : ∃ a0 q0 a1 q1, cs = [.slice a0 (List.length d.1) q0, .slice a1 (List.length d.2) q1] ∧ Rep H M (datT (.list tCert) d.1) [.slice a0 (List.length d.1) q0] ∧ Rep H M (datT (.list tCmd) d.2) [.slice a1 (List.length d.2) q1] := by
  obtain ⟨c0, r0, rfl, h0, h⟩ := rep_pair.1 h
  have h1 := h
  obtain ⟨a0, q0, rfl, _, _⟩ := rep_list h0
  obtain ⟨a1, q1, rfl, _, _⟩ := rep_list h1
  exact ⟨a0, q0, a1, q1, rfl, h0, h1⟩
theorem openProof {H : Heap} {M : List Nat} {d : den tProof} {cs : List Value} (h : Rep H M (datT tProof d) cs) : ∃ a0 q0 y0 y1 y2 y3 y4 y5 y6 y7 y8, cs = [.slice a0 (List.length d.1) q0, y0, y1, y2, y3, y4, y5, y6, y7, y8] ∧ Rep H M (datT (.list tCert) d.1) [.slice a0 (List.length d.1) q0] ∧ Rep H M (datT tCert d.2) [y0, y1, y2, y3, y4, y5, y6, y7, y8] := by
  obtain ⟨c0, r0, rfl, h0, h⟩ := rep_pair.1 h
  have h1 := h
  obtain ⟨a0, q0, rfl, _, _⟩ := rep_list h0
  obtain ⟨y0, y1, y2, y3, y4, y5, y6, y7, y8, rfl⟩ := len9 (rep_wid h1)
  exact ⟨a0, q0, y0, y1, y2, y3, y4, y5, y6, y7, y8, rfl, h0, h1⟩
theorem openDigest {H : Heap} {M : List Nat} {d : den tDigest} {cs : List Value} (h : Rep H M (datT tDigest d) cs) : ∃ a0 q0 a1 q1, cs = [.slice a0 (List.length d.1) q0, .slice a1 (List.length d.2.1) q1, .int .i64 d.2.2] := by
  obtain ⟨c0, r0, rfl, h0, h⟩ := rep_pair.1 h
  obtain ⟨c1, r1, rfl, h1, h⟩ := rep_pair.1 h
  have h2 := h
  obtain ⟨a0, q0, rfl, _, _, _⟩ := rep_bytes.1 h0
  obtain ⟨a1, q1, rfl, _, _, _⟩ := rep_bytes.1 h1
  have e2 := rep_num h2; subst e2
  exact ⟨a0, q0, a1, q1, rfl⟩
theorem openItem {H : Heap} {M : List Nat} {d : den tItem} {cs : List Value} (h : Rep H M (datT tItem d) cs) : ∃ a2 q2 a3 q3, cs = [.string ⟨⟨d.1⟩⟩, .bool d.2.1, .slice a2 (List.length d.2.2.1) q2, .slice a3 (List.length d.2.2.2) q3] ∧ Rep H M (datT (.list .bytes) d.2.2.2) [.slice a3 (List.length d.2.2.2) q3] := by
  obtain ⟨c0, r0, rfl, h0, h⟩ := rep_pair.1 h
  obtain ⟨c1, r1, rfl, h1, h⟩ := rep_pair.1 h
  obtain ⟨c2, r2, rfl, h2, h⟩ := rep_pair.1 h
  have h3 := h
  have e0 := rep_text h0; subst e0
  have e1 := rep_bool h1; subst e1
  obtain ⟨a2, q2, rfl, _, _, _⟩ := rep_bytes.1 h2
  obtain ⟨a3, q3, rfl, _, _⟩ := rep_list h3
  exact ⟨a2, q2, a3, q3, rfl, h3⟩

def bR (l : List (den tRead)) : Prop := l.length ≤ 8 ∧ ∀ x ∈ l, List.length x.2.2 ≤ 100
def bA (l : List (den tAck)) : Prop := l.length ≤ 8 ∧ ∀ x ∈ l, List.length x.2 ≤ 100
def bC1 (c : den tCmd) : Prop := List.length c.2.2.2.1 ≤ 8 ∧ List.length c.2.2.2.2.2 ≤ 100 ∧ ∀ w ∈ c.2.2.2.1, List.length w.1 ≤ 50 ∧ List.length w.2 ≤ 100
def bC (l : List (den tCmd)) : Prop := l.length ≤ 8 ∧ ∀ c ∈ l, bC1 c
def bT1 (c : den tCert) : Prop := bR c.2.1 ∧ bC c.2.2.1 ∧ bC c.2.2.2.1 ∧ List.length c.2.2.2.2.2.1 ≤ 100 ∧ bA c.2.2.2.2.2.2
def bT (l : List (den tCert)) : Prop := l.length ≤ 4 ∧ ∀ c ∈ l, bT1 c
def bI1 (x : den tItem) : Prop := List.length x.1 ≤ 100 ∧ List.length x.2.2.1 ≤ 100 ∧ List.length x.2.2.2 ≤ 8 ∧ ∀ p ∈ x.2.2.2, List.length p ≤ 100
def bM (m : Msg) : Prop := (bR m.reads ∧ bC m.state ∧ bA m.acks ∧ m.base.length ≤ 3 ∧ m.proof.length ≤ 3 ∧ m.digests.length ≤ 8 ∧ m.objects.length ≤ 8 ∧ m.items.length ≤ 8) ∧
  (∀ b ∈ m.base, bT b.1 ∧ bC b.2) ∧ (∀ p ∈ m.proof, bT p.1 ∧ bT1 p.2) ∧ (∀ d ∈ m.digests, List.length d.1 ≤ 100 ∧ List.length d.2.1 ≤ 100) ∧ (∀ x ∈ m.objects, List.length x ≤ 100) ∧ ∀ x ∈ m.items, bI1 x
/-- What a bool says. -/
def Says (P : Prop) (H : Heap) (v : Value) (H' : Heap) : Prop := ∃ t, v = .bool t ∧ (t = true → P) ∧ H' = H
def SaysF (P : Prop) (H : Heap) (v : Value) (H' : Heap) : Prop := ∃ t, v = .bool t ∧ (t = true → P) ∧ Fr [] H H'
theorem take_all {α : Type} {P : α → Prop} {l : List α} {i : Nat} (h : i < l.length) (ha : ∀ x ∈ l.take i, P x) (hp : P l[i]) : ∀ x ∈ l.take (i + 1), P x := by
  intro x hx
  rw [List.take_succ_eq_append_getElem h, List.mem_append] at hx
  rcases hx with hx | hx
  · exact ha x hx
  · simp at hx; subst hx; exact hp
theorem flat_le {α : Type} {f : α → Bs} {n : Nat} : ∀ {l : List α}, (∀ x ∈ l, (f x).length ≤ n) → (l.flatMap f).length ≤ l.length * n
  | [], _ => by simp
  | x :: l, h => by
    have h1 := flat_le (l := l) fun y hy => h y (by simp [hy])
    have h2 := h x (by simp)
    simp only [List.flatMap_cons, List.length_append, List.length_cons, Nat.add_mul]; omega
theorem num_le (n : Int) : (encT .num n).length ≤ 10 := length_enc _
theorem bytes_le {l : Bs} {k : Nat} (h : l.length ≤ k) : (encT .bytes l).length ≤ 10 + k := by
  have := length_enc l.length
  simp only [encT, List.length_append]; omega
theorem text_le {l : Bs} {k : Nat} (h : l.length ≤ k) : (encT .text l).length ≤ 10 + k := by
  have := length_enc l.length
  simp only [encT, List.length_append]; omega
theorem list_le {t : Ty} {l : List (den t)} {n k : Nat} (hl : l.length ≤ k) (h : ∀ x ∈ l, (encT t x).length ≤ n) : (encT (.list t) l).length ≤ 10 + k * n := by
  have h1 := length_enc l.length
  have h2 := flat_le h
  have h3 : l.length * n ≤ k * n := Nat.mul_le_mul_right _ hl
  have e : encT (.list t) l = enc l.length ++ l.flatMap (encT t) := rfl
  rw [e, List.length_append]; omega
theorem pair_len {a b : Ty} (d : den a × den b) : (encT (.pair a b) d).length = (encT a d.1).length + (encT b d.2).length := by simp only [encT, List.length_append]
theorem bR_le {l : List (den tRead)} (h : bR l) : (encT (.list tRead) l).length ≤ 1050 :=
  list_le (n := 130) (k := 8) h.1 fun x hx => by
    have := bytes_le (h.2 x hx)
    have := num_le x.1
    have := num_le x.2.1
    simp only [pair_len]; omega
theorem bA_le {l : List (den tAck)} (h : bA l) : (encT (.list tAck) l).length ≤ 970 :=
  list_le (n := 120) (k := 8) h.1 fun x hx => by
    have := bytes_le (h.2 x hx)
    have := num_le x.1
    simp only [pair_len]; omega
theorem bC1_le {c : den tCmd} (h : bC1 c) : (encT tCmd c).length ≤ 1520 := by
  have h1 : (encT (.list tWrite) c.2.2.2.1).length ≤ 10 + 8 * 170 := list_le h.1 fun x hx => by
    have := text_le (h.2.2 x hx).1
    have := bytes_le (h.2.2 x hx).2
    simp only [pair_len]; omega
  have := bytes_le h.2.1
  have := num_le c.1
  have := num_le c.2.1
  have := num_le c.2.2.1
  have := num_le c.2.2.2.2.1
  simp only [pair_len]; omega
theorem bC_le {l : List (den tCmd)} (h : bC l) : (encT (.list tCmd) l).length ≤ 12170 := list_le (n := 1520) (k := 8) h.1 fun x hx => bC1_le (h.2 x hx)
theorem bT1_le {c : den tCert} (h : bT1 c) : (encT tCert c).length ≤ 27000 := by
  obtain ⟨h1, h2, h3, h4, h5⟩ := h
  have := bR_le h1
  have := bC_le h2
  have := bC_le h3
  have := bytes_le h4
  have := bA_le h5
  have := num_le c.1.1
  have := num_le c.1.2.1
  have := num_le c.1.2.2
  have := num_le c.2.2.2.2.1
  simp only [pair_len]; omega
theorem bT_le {l : List (den tCert)} (h : bT l) : (encT (.list tCert) l).length ≤ 108010 := list_le (n := 27000) (k := 4) h.1 fun x hx => bT1_le (h.2 x hx)
theorem bI1_le {x : den tItem} (h : bI1 x) : (encT tItem x).length ≤ 1200 := by
  obtain ⟨h1, h2, h3, h4⟩ := h
  have := text_le h1
  have := bytes_le h2
  have : (encT (.list .bytes) x.2.2.2).length ≤ 10 + 8 * 110 := list_le h3 fun y hy => bytes_le (h4 y hy)
  have : (encT .bool x.2.1).length = 1 := rfl
  simp only [pair_len]; omega
/-- A small message has a short encoding. -/
theorem bM_le {m : Msg} (h : bM m) : (encT tMsg m.tup).length ≤ 2000000 := by
  obtain ⟨⟨h1, h2, h3, h4, h5, h6, h7, h8⟩, k1, k2, k3, k4, k5⟩ := h
  have := bR_le h1
  have := bC_le h2
  have := bA_le h3
  have : (encT (.list tBase) m.base).length ≤ 10 + 3 * 130000 := list_le h4 fun x hx => by
    have := bT_le (k1 x hx).1
    have := bC_le (k1 x hx).2
    simp only [pair_len]; omega
  have : (encT (.list tProof) m.proof).length ≤ 10 + 3 * 140000 := list_le h5 fun x hx => by
    have := bT_le (k2 x hx).1
    have := bT1_le (k2 x hx).2
    rw [pair_len]; omega
  have : (encT (.list tDigest) m.digests).length ≤ 10 + 8 * 230 := list_le h6 fun x hx => by
    have := bytes_le (k3 x hx).1
    have := bytes_le (k3 x hx).2
    have := num_le x.2.2
    simp only [pair_len]; omega
  have : (encT (.list .text) m.objects).length ≤ 10 + 8 * 110 := list_le h7 fun x hx => text_le (k4 x hx)
  have : (encT (.list tItem) m.items).length ≤ 10 + 8 * 1200 := list_le h8 fun x hx => bI1_le (k5 x hx)
  have := num_le m.kind
  have := num_le m.src
  have := num_le m.dst
  have := num_le m.seq
  have := num_le m.round.1
  have := num_le m.round.2.1
  have := num_le m.round.2.2
  simp only [Msg.tup, pair_len]; omega
theorem encM_le {m : Msg} (hf : formB m = true) : (encM m).length ≤ (encT tMsg m.tup).length + 30 := by
  have hh := form_head hf
  obtain ⟨k, hk⟩ : ∃ k : Nat, m.kind = k := ⟨m.kind.toNat, by omega⟩
  have hkn : m.kind.toNat = k := by omega
  have hE : encM m = enc k ++ (encT .num m.src ++ (encT .num m.dst ++ encT (payT k) (payD m k))) := by rw [encM, hkn]; rfl
  have hk' : k = 1 ∨ k = 2 ∨ k = 3 ∨ k = 4 ∨ k = 5 ∨ k = 6 ∨ k = 7 ∨ k = 8 := by omega
  have := length_enc k
  have hT : encT tMsg m.tup = encT .num m.kind ++ (encT .num m.src ++ (encT .num m.dst ++ (encT tRound m.round ++ (encT (.list tRead) m.reads ++ (encT (.list tBase) m.base ++ (encT (.list tCmd) m.state ++ (encT (.list tAck) m.acks ++ (encT (.list tProof) m.proof ++ (encT (.list tDigest) m.digests ++ (encT (.list .text) m.objects ++ (encT .num m.seq ++ (encT (.list tItem) m.items)))))))))))) := rfl
  rw [hE, hT]
  simp only [List.length_append]
  rcases hk' with rfl | rfl | rfl | rfl | rfl | rfl | rfl | rfl
  · have hP : encT (payT 1) (payD m 1) = encT tRound m.round ++ (encT (.list tRead) m.reads ++ (encT (.list tBase) m.base ++ (encT (.list tCmd) m.state))) := rfl
    rw [hP]
    try simp only [List.length_append]
    omega
  · have hP : encT (payT 2) (payD m 2) = encT tRound m.round ++ (encT (.list tCmd) m.state ++ (encT (.list tBase) m.base ++ (encT (.list tAck) m.acks))) := rfl
    rw [hP]
    try simp only [List.length_append]
    omega
  · have hP : encT (payT 3) (payD m 3) = encT (.list tProof) m.proof ++ (encT (.list tCmd) m.state) := rfl
    rw [hP]
    try simp only [List.length_append]
    omega
  · have hP : encT (payT 4) (payD m 4) = encT (.list tDigest) m.digests := rfl
    rw [hP]
    try simp only [List.length_append]
    omega
  · have hP : encT (payT 5) (payD m 5) = encT (.list tCmd) m.state := rfl
    rw [hP]
    try simp only [List.length_append]
    omega
  · have hP : encT (payT 6) (payD m 6) = encT (.list tCmd) m.state := rfl
    rw [hP]
    try simp only [List.length_append]
    omega
  · have hP : encT (payT 7) (payD m 7) = encT (.list tRead) m.reads ++ (encT (.list .text) m.objects) := rfl
    rw [hP]
    try simp only [List.length_append]
    omega
  · have hP : encT (payT 8) (payD m 8) = encT (.list tProof) m.proof ++ (encT (.list tRead) m.reads ++ (encT .num m.seq ++ (encT (.list tItem) m.items))) := rfl
    rw [hP]
    try simp only [List.length_append]
    omega

theorem few_ok (n : Int) (H : Heap) : HCalls Tryz.prog 27 #[.int .i64 n] H fun v H' => v = .bool (decide (n ≤ 8)) ∧ H' = H := by
  refine calls_of_vc (args := [_]) Tryz.func27 c27ok (Nat.le_of_ble_eq_true rfl) ?_
  simp (implicitDefEqProofs := false) only [go_sem, c27]

theorem smr_ok (l : List (den tRead)) {H : Heap} {a : Option Addr} {c : Nat} (h : Rep H [] (datT (.list tRead) l) [.slice a l.length c]) (hl : l.length < 2^63) : HCalls Tryz.prog 24 #[.slice a l.length c] H (Says (bR l) H) := by
  refine calls_of_vc (args := [_]) Tryz.func24 c24ok (Nat.le_of_ble_eq_true rfl) ?_
  simp (implicitDefEqProofs := false) only [go_sem, c24]
  refine vc_loop (fun (i : Nat) H' => i ≤ l.length ∧ (∀ x ∈ l.take i, List.length (x.2.2) ≤ 100) ∧ H' = H) (fun i => [(0, .slice a l.length c), (3, .int .i64 i)]) (fun i => l.length - i) 0 ?_ ?_ ?_
  · exact ⟨Nat.zero_le _, by simp, rfl⟩
  · simp (implicitDefEqProofs := false) only [go_sem]
  · rintro i H' ⟨hi, hall, rfl⟩
    by_cases hq : i < l.length ∧ i < 9
    · obtain ⟨hlt, h9⟩ := hq
      have g1 : (i : Int) < (l.length : Int) := by omega
      have g2 : (i : Int) < 9 := by omega
      have g0 : (0 : Int) ≤ (i : Int) := by omega
      have hw1 := succ_i64 i l.length hlt hl
      obtain ⟨bb, oo, cc, x, e1, _, hxl, hp, hx⟩ := rep_at h i hlt
      cases e1
      obtain ⟨a2, q2, rfl⟩ := openRead hx
      have p := hp 2 (by decide)
      simp only [wid, Nat.add_zero, Nat.reduceAdd, List.getElem?_cons_zero, List.getElem?_cons_succ] at p
      by_cases hb : 100 < List.length (l[i].2.2)
      · have hb' : (100 : Int) < (List.length (l[i].2.2) : Int) := by omega
        simp (implicitDefEqProofs := false) only [go_sem, g1, g2, g0, p, hb']
        exact ⟨false, rfl, by simp, rfl⟩
      · have hb' : ¬ (100 : Int) < (List.length (l[i].2.2) : Int) := by omega
        simp (implicitDefEqProofs := false) only [go_sem, g1, g2, g0, p, hb']
        refine loopK_intro (i + 1) (by show l.length - (i + 1) < l.length - i; omega) ?_ ⟨hlt, take_all hlt hall (by omega), rfl⟩
        simp (implicitDefEqProofs := false) only [go_sem, hw1]
    · have fin : ∀ t : Bool, t = decide ((l.length : Int) ≤ 8) → (t = true → bR l) := by
        intro t ht h1
        rw [ht] at h1
        have h8 := of_decide_eq_true h1
        refine ⟨by omega, ?_⟩
        rw [List.take_of_length_le (by omega)] at hall
        exact hall
      by_cases hlt : i < l.length
      · have g1 : (i : Int) < (l.length : Int) := by omega
        have g2 : ¬ (i : Int) < 9 := by omega
        simp (implicitDefEqProofs := false) only [go_sem, g1, g2]
        refine (few_ok l.length H').mono ?_
        rintro v H1 ⟨rfl, rfl⟩
        simp (implicitDefEqProofs := false) only [go_sem]
        exact ⟨_, rfl, fin _ rfl, rfl⟩
      · have g1 : ¬ (i : Int) < (l.length : Int) := by omega
        simp (implicitDefEqProofs := false) only [go_sem, g1]
        refine (few_ok l.length H').mono ?_
        rintro v H1 ⟨rfl, rfl⟩
        simp (implicitDefEqProofs := false) only [go_sem]
        exact ⟨_, rfl, fin _ rfl, rfl⟩

theorem sma_ok (l : List (den tAck)) {H : Heap} {a : Option Addr} {c : Nat} (h : Rep H [] (datT (.list tAck) l) [.slice a l.length c]) (hl : l.length < 2^63) : HCalls Tryz.prog 26 #[.slice a l.length c] H (Says (bA l) H) := by
  refine calls_of_vc (args := [_]) Tryz.func26 c26ok (Nat.le_of_ble_eq_true rfl) ?_
  simp (implicitDefEqProofs := false) only [go_sem, c26]
  refine vc_loop (fun (i : Nat) H' => i ≤ l.length ∧ (∀ x ∈ l.take i, List.length (x.2) ≤ 100) ∧ H' = H) (fun i => [(0, .slice a l.length c), (3, .int .i64 i)]) (fun i => l.length - i) 0 ?_ ?_ ?_
  · exact ⟨Nat.zero_le _, by simp, rfl⟩
  · simp (implicitDefEqProofs := false) only [go_sem]
  · rintro i H' ⟨hi, hall, rfl⟩
    by_cases hq : i < l.length ∧ i < 9
    · obtain ⟨hlt, h9⟩ := hq
      have g1 : (i : Int) < (l.length : Int) := by omega
      have g2 : (i : Int) < 9 := by omega
      have g0 : (0 : Int) ≤ (i : Int) := by omega
      have hw1 := succ_i64 i l.length hlt hl
      obtain ⟨bb, oo, cc, x, e1, _, hxl, hp, hx⟩ := rep_at h i hlt
      cases e1
      obtain ⟨a1, q1, rfl⟩ := openAck hx
      have p := hp 1 (by decide)
      simp only [wid, Nat.add_zero, Nat.reduceAdd, List.getElem?_cons_zero, List.getElem?_cons_succ] at p
      by_cases hb : 100 < List.length (l[i].2)
      · have hb' : (100 : Int) < (List.length (l[i].2) : Int) := by omega
        simp (implicitDefEqProofs := false) only [go_sem, g1, g2, g0, p, hb']
        exact ⟨false, rfl, by simp, rfl⟩
      · have hb' : ¬ (100 : Int) < (List.length (l[i].2) : Int) := by omega
        simp (implicitDefEqProofs := false) only [go_sem, g1, g2, g0, p, hb']
        refine loopK_intro (i + 1) (by show l.length - (i + 1) < l.length - i; omega) ?_ ⟨hlt, take_all hlt hall (by omega), rfl⟩
        simp (implicitDefEqProofs := false) only [go_sem, hw1]
    · have fin : ∀ t : Bool, t = decide ((l.length : Int) ≤ 8) → (t = true → bA l) := by
        intro t ht h1
        rw [ht] at h1
        have h8 := of_decide_eq_true h1
        refine ⟨by omega, ?_⟩
        rw [List.take_of_length_le (by omega)] at hall
        exact hall
      by_cases hlt : i < l.length
      · have g1 : (i : Int) < (l.length : Int) := by omega
        have g2 : ¬ (i : Int) < 9 := by omega
        simp (implicitDefEqProofs := false) only [go_sem, g1, g2]
        refine (few_ok l.length H').mono ?_
        rintro v H1 ⟨rfl, rfl⟩
        simp (implicitDefEqProofs := false) only [go_sem]
        exact ⟨_, rfl, fin _ rfl, rfl⟩
      · have g1 : ¬ (i : Int) < (l.length : Int) := by omega
        simp (implicitDefEqProofs := false) only [go_sem, g1]
        refine (few_ok l.length H').mono ?_
        rintro v H1 ⟨rfl, rfl⟩
        simp (implicitDefEqProofs := false) only [go_sem]
        exact ⟨_, rfl, fin _ rfl, rfl⟩

set_option maxHeartbeats 2000000 in
theorem smc_ok (l : List (den tCmd)) {H : Heap} {a : Option Addr} {c : Nat} (h : Rep H [] (datT (.list tCmd) l) [.slice a l.length c]) (hl : l.length < 2^63) : HCalls Tryz.prog 25 #[.slice a l.length c] H (Says (bC l) H) := by
  refine calls_of_vc (args := [_]) Tryz.func25 c25ok (Nat.le_of_ble_eq_true rfl) ?_
  simp (implicitDefEqProofs := false) only [go_sem, c25]
  refine (few_ok l.length H).mono ?_
  rintro v H1 ⟨rfl, rfl⟩
  by_cases h8 : l.length ≤ 8
  · have h8' : decide ((l.length : Int) ≤ 8) = true := decide_eq_true (by omega)
    rw [h8']
    simp (implicitDefEqProofs := false) only [go_sem]
    refine vc_loop (fun (i : Nat) H' => i ≤ l.length ∧ (∀ x ∈ l.take i, bC1 x) ∧ H' = H1) (fun i => [(0, .slice a l.length c), (3, .int .i64 i)]) (fun i => l.length - i) 0 ?_ ?_ ?_
    · exact ⟨Nat.zero_le _, by simp, rfl⟩
    · simp (implicitDefEqProofs := false) only [go_sem]
    · rintro i H' ⟨hi, hall, rfl⟩
      rcases Nat.lt_or_ge i l.length with hlt | hge
      · have g1 : (i : Int) < (l.length : Int) := by omega
        have g0 : (0 : Int) ≤ (i : Int) := by omega
        have hw1 := succ_i64 i l.length hlt hl
        obtain ⟨bb, oo, cc, x, e1, _, hxl, hp, hx⟩ := rep_at h i hlt
        cases e1
        obtain ⟨a3, q3, a5, q5, rfl, hws⟩ := openCommand hx
        have p3 := hp 3 (by decide)
        have p5 := hp 5 (by decide)
        simp only [wid, Nat.add_zero, Nat.reduceAdd, List.getElem?_cons_zero, List.getElem?_cons_succ] at p3 p5
        simp (implicitDefEqProofs := false) only [go_sem, g1, g0, p3]
        refine (few_ok _ H').mono ?_
        rintro v H2 ⟨rfl, rfl⟩
        by_cases b1 : List.length l[i].2.2.2.1 ≤ 8
        · have b1' : decide ((List.length l[i].2.2.2.1 : Int) ≤ 8) = true := decide_eq_true (by omega)
          rw [b1']
          by_cases b2 : 100 < List.length l[i].2.2.2.2.2
          · have b2' : (100 : Int) < (List.length l[i].2.2.2.2.2 : Int) := by omega
            simp (implicitDefEqProofs := false) only [go_sem, g1, g0, p5, b2']
            exact ⟨false, rfl, by simp, rfl⟩
          have b2' : ¬ (100 : Int) < (List.length l[i].2.2.2.2.2 : Int) := by omega
          simp (implicitDefEqProofs := false) only [go_sem, g1, g0, p5, b2']
          refine vc_loop (fun (k : Nat) H' => k ≤ List.length l[i].2.2.2.1 ∧ (∀ w ∈ List.take k l[i].2.2.2.1, List.length w.1 ≤ 50 ∧ List.length w.2 ≤ 100) ∧ H' = H2) (fun k => [(0, .slice (some ⟨bb, oo, none⟩) l.length c), (3, .int .i64 i), (4, .int .i64 k)]) (fun k => List.length l[i].2.2.2.1 - k) 0 ?_ ?_ ?_
          · exact ⟨Nat.zero_le _, by simp, rfl⟩
          · simp (implicitDefEqProofs := false) only [go_sem]
          · rintro k H' ⟨hk, hkall, rfl⟩
            rcases Nat.lt_or_ge k (List.length l[i].2.2.2.1) with hklt | hkge
            · have k1 : (k : Int) < (List.length l[i].2.2.2.1 : Int) := by omega
              have k0 : (0 : Int) ≤ (k : Int) := by omega
              have hw2 := succ_i64 k (List.length l[i].2.2.2.1) hklt (by omega)
              obtain ⟨b2x, o2x, c2x, y, e2, _, hyl, hq, hy⟩ := rep_at hws k hklt
              cases e2
              obtain ⟨ay, qy, rfl⟩ := openWrite hy
              have r0 := hq 0 (by decide)
              have r1 := hq 1 (by decide)
              simp only [wid, Nat.add_zero, Nat.reduceAdd, List.getElem?_cons_zero, List.getElem?_cons_succ] at r0 r1
              have hsz : ∀ x : Bs, (ByteArray.size ⟨⟨x⟩⟩ : Nat) = x.length := fun x => rfl
              by_cases w1 : 50 < List.length (l[i].2.2.2.1[k]).1
              · have w1' : (50 : Int) < (List.length (l[i].2.2.2.1[k]).1 : Int) := by omega
                simp (implicitDefEqProofs := false) only [go_sem, g1, g0, k1, k0, p3, r0, r1, hsz, w1']
                exact ⟨false, rfl, by simp, rfl⟩
              have w1' : ¬ (50 : Int) < (List.length (l[i].2.2.2.1[k]).1 : Int) := by omega
              by_cases w2 : 100 < List.length (l[i].2.2.2.1[k]).2
              · have w2' : (100 : Int) < (List.length (l[i].2.2.2.1[k]).2 : Int) := by omega
                simp (implicitDefEqProofs := false) only [go_sem, g1, g0, k1, k0, p3, r0, r1, hsz, w1', w2']
                exact ⟨false, rfl, by simp, rfl⟩
              have w2' : ¬ (100 : Int) < (List.length (l[i].2.2.2.1[k]).2 : Int) := by omega
              simp (implicitDefEqProofs := false) only [go_sem, g1, g0, k1, k0, p3, r0, r1, hsz, w1', w2']
              refine loopK_intro (k + 1) (by show List.length l[i].2.2.2.1 - (k + 1) < List.length l[i].2.2.2.1 - k; omega) ?_ ⟨hklt, take_all hklt hkall ⟨by omega, by omega⟩, rfl⟩
              simp (implicitDefEqProofs := false) only [go_sem, hw2]
            · have k1 : ¬ (k : Int) < (List.length l[i].2.2.2.1 : Int) := by omega
              rw [List.take_of_length_le hkge] at hkall
              simp (implicitDefEqProofs := false) only [go_sem, g1, g0, p3, k1]
              refine loopK_intro (i + 1) (by show l.length - (i + 1) < l.length - i; omega) ?_ ⟨hlt, take_all hlt hall ⟨b1, by omega, hkall⟩, rfl⟩
              simp (implicitDefEqProofs := false) only [go_sem, hw1]
        · have b1' : decide ((List.length l[i].2.2.2.1 : Int) ≤ 8) = false := decide_eq_false (by omega)
          rw [b1']
          simp (implicitDefEqProofs := false) only [go_sem]
          exact ⟨false, rfl, by simp, rfl⟩
      · have g1 : ¬ (i : Int) < (l.length : Int) := by omega
        rw [List.take_of_length_le hge] at hall
        simp (implicitDefEqProofs := false) only [go_sem, g1]
        exact ⟨true, rfl, fun _ => ⟨h8, hall⟩, rfl⟩
  · have h8' : decide ((l.length : Int) ≤ 8) = false := decide_eq_false (by omega)
    rw [h8']
    simp (implicitDefEqProofs := false) only [go_sem]
    exact ⟨false, rfl, by simp, rfl⟩

set_option maxHeartbeats 2000000 in
theorem smt_ok (l : List (den tCert)) {H : Heap} {a : Option Addr} {c : Nat} (h : Rep H [] (datT (.list tCert) l) [.slice a l.length c]) (hl : l.length < 2^63) : HCalls Tryz.prog 28 #[.slice a l.length c] H (SaysF (bT l) H) := by
  refine calls_of_vc (args := [_]) Tryz.func28 c28ok (Nat.le_of_ble_eq_true rfl) ?_
  by_cases h4 : 4 < l.length
  · have h4' : (4 : Int) < (l.length : Int) := by omega
    simp (implicitDefEqProofs := false) only [go_sem, c28, h4']
    exact ⟨false, rfl, by simp, Fr.refl _ _⟩
  have h4' : ¬ (4 : Int) < (l.length : Int) := by omega
  simp (implicitDefEqProofs := false) only [go_sem, c28, h4']
  refine vc_loop (fun (i : Nat) H' => i ≤ l.length ∧ (∀ x ∈ l.take i, bT1 x) ∧ Fr [] H H') (fun i => [(0, .slice a l.length c), (3, .int .i64 i)]) (fun i => l.length - i) 0 ?_ ?_ ?_
  · exact ⟨Nat.zero_le _, by simp, Fr.refl _ _⟩
  · simp (implicitDefEqProofs := false) only [go_sem]
  · rintro i H' ⟨hi, hall, hfr⟩
    rcases Nat.lt_or_ge i l.length with hlt | hge
    · have g1 : (i : Int) < (l.length : Int) := by omega
      have g0 : (0 : Int) ≤ (i : Int) := by omega
      have hw1 := succ_i64 i l.length hlt hl
      obtain ⟨bb, oo, cc, x, e1, _, hxl, hp, hx⟩ := rep_at (Rep.ext h hfr) i hlt
      cases e1
      obtain ⟨y0, y1, y2, a1, q1, a2, q2, a3, q3, a5, q5, a6, q6, rfl, hR, hr1, hr2, hr3, hr6⟩ := openCertificate hx
      have hone := rep_one hR
      have hmx : maxLen < 2^63 := by decide
      obtain ⟨_, _, _, hL1, hM1⟩ := rep_list hr1
      obtain ⟨_, _, _, hL2, hM2⟩ := rep_list hr2
      obtain ⟨_, _, _, hL3, hM3⟩ := rep_list hr3
      obtain ⟨_, _, _, hL6, hM6⟩ := rep_list hr6
      have p0 := hp 0 (by decide)
      have p1 := hp 1 (by decide)
      have p2 := hp 2 (by decide)
      have p3 := hp 3 (by decide)
      have p4 := hp 4 (by decide)
      have p5 := hp 5 (by decide)
      have p6 := hp 6 (by decide)
      have p7 := hp 7 (by decide)
      have p8 := hp 8 (by decide)
      simp only [wid, Nat.add_zero, Nat.reduceAdd, List.getElem?_cons_zero, List.getElem?_cons_succ] at p0 p1 p2 p3 p4 p5 p6 p7 p8
      simp (implicitDefEqProofs := false) only [go_sem, g1, g0, p0, p1, p2, p3, p4, p5, p6, p7, p8]
      refine NewP_intro fun A hA hfA hsA => ?_
      simp (implicitDefEqProofs := false) only [go_sem]
      refine Sto_all hA rfl ?_ fun A2 hA2 hfA2 hsA2 => ?_
      · intro v hv
        simp only [List.mem_cons, List.not_mem_nil, or_false] at hv
        rcases hv with rfl | rfl | rfl | rfl | rfl | rfl | rfl | rfl
        all_goals first | rfl | exact hone _ (by simp)
      have hfn := new_fr hfA hfA2
      have cA := hA2.cell
      have hF := hfr.trans hfn
      have p8' := cellB_fr p8 hfn (by simp)
      simp (implicitDefEqProofs := false) only [go_sem, cA]
      refine (smr_ok _ (Rep.ext hr1 hfn) (Nat.lt_of_le_of_lt (Nat.le_trans hL1 hM1) hmx)).mono ?_
      rintro v K ⟨t1, rfl, ht1, rfl⟩
      cases t1 with
      | false =>
        simp (implicitDefEqProofs := false) only [go_sem, cA]
        exact ⟨false, rfl, by simp, hF⟩
      | true =>
      simp (implicitDefEqProofs := false) only [go_sem, cA]
      refine (smc_ok _ (Rep.ext hr2 hfn) (Nat.lt_of_le_of_lt (Nat.le_trans hL2 hM2) hmx)).mono ?_
      rintro v K ⟨t2, rfl, ht2, rfl⟩
      cases t2 with
      | false =>
        simp (implicitDefEqProofs := false) only [go_sem, cA]
        exact ⟨false, rfl, by simp, hF⟩
      | true =>
      simp (implicitDefEqProofs := false) only [go_sem, cA]
      refine (smc_ok _ (Rep.ext hr3 hfn) (Nat.lt_of_le_of_lt (Nat.le_trans hL3 hM3) hmx)).mono ?_
      rintro v K ⟨t3, rfl, ht3, rfl⟩
      cases t3 with
      | false =>
        simp (implicitDefEqProofs := false) only [go_sem, cA]
        exact ⟨false, rfl, by simp, hF⟩
      | true =>
      by_cases b5 : 100 < List.length l[i].2.2.2.2.2.1
      · have b5' : (100 : Int) < (List.length l[i].2.2.2.2.2.1 : Int) := by omega
        simp (implicitDefEqProofs := false) only [go_sem, cA, b5']
        exact ⟨false, rfl, by simp, hF⟩
      have b5' : ¬ (100 : Int) < (List.length l[i].2.2.2.2.2.1 : Int) := by omega
      simp (implicitDefEqProofs := false) only [go_sem, cA, b5', g1, g0, p8']
      refine (sma_ok _ (Rep.ext hr6 hfn) (Nat.lt_of_le_of_lt (Nat.le_trans hL6 hM6) hmx)).mono ?_
      rintro v K ⟨t6, rfl, ht6, rfl⟩
      cases t6 with
      | false =>
        simp (implicitDefEqProofs := false) only [go_sem, cA]
        exact ⟨false, rfl, by simp, hF⟩
      | true =>
      simp (implicitDefEqProofs := false) only [go_sem]
      refine loopK_intro (i + 1) (by show l.length - (i + 1) < l.length - i; omega) ?_ ⟨hlt, take_all hlt hall ⟨ht1 rfl, ht2 rfl, ht3 rfl, by omega, ht6 rfl⟩, hF⟩
      simp (implicitDefEqProofs := false) only [go_sem, hw1]
    · have g1 : ¬ (i : Int) < (l.length : Int) := by omega
      rw [List.take_of_length_le hge] at hall
      simp (implicitDefEqProofs := false) only [go_sem, g1]
      exact ⟨true, rfl, fun _ => ⟨by omega, hall⟩, hfr⟩
theorem rep_single {H : Heap} {t : Ty} {d : den t} {b ty : Nat} {cs : List Value} (hb : Blk H b ty cs) (h : Rep H [] (datT t d) cs) : Rep H [] (datT (.list t) [d]) [.slice (some ⟨b, 0, none⟩) 1 1] := by
  simp only [datT, Rep, List.map_cons, List.map_nil, List.length_cons, List.length_nil]
  refine ⟨_, 1, [cs], rfl, Nat.le_refl _, by decide, ?_, ?_, ?_⟩
  · simp only [Reps]; exact ⟨cs, [], rfl, h, rfl⟩
  · intro x hx
    simp at hx; subst hx; exact rep_wid h
  · refine .inr ⟨b, 0, rfl, by simp, fun j hj => ?_⟩
    simp only [List.flatten_cons, List.flatten_nil, List.append_nil] at hj ⊢
    rw [Nat.zero_add, hb.cell, List.getElem?_eq_getElem hj]
set_option maxHeartbeats 8000000 in
theorem small_ok {m : Msg} {H : Heap} {cs : List Value} (h : Rep H [] (datT tMsg m.tup) cs) : HCalls Tryz.prog 15 #[.agg cs.toArray] H (SaysF (bM m) H) := by
  obtain ⟨a_reads, c_reads, a_base, c_base, a_state, c_state, a_acks, c_acks, a_proof, c_proof, a_digests, c_digests, a_objects, c_objects, a_items, c_items, rfl, h_reads, h_base, h_state, h_acks, h_proof, h_digests, h_objects, h_items⟩ := msg_open h
  have hmx : maxLen < 2^63 := by decide
  have l_reads : m.reads.length < 2^63 := by obtain ⟨_, _, _, q1, q2⟩ := rep_list h_reads; omega
  have l_base : m.base.length < 2^63 := by obtain ⟨_, _, _, q1, q2⟩ := rep_list h_base; omega
  have l_state : m.state.length < 2^63 := by obtain ⟨_, _, _, q1, q2⟩ := rep_list h_state; omega
  have l_acks : m.acks.length < 2^63 := by obtain ⟨_, _, _, q1, q2⟩ := rep_list h_acks; omega
  have l_proof : m.proof.length < 2^63 := by obtain ⟨_, _, _, q1, q2⟩ := rep_list h_proof; omega
  have l_digests : m.digests.length < 2^63 := by obtain ⟨_, _, _, q1, q2⟩ := rep_list h_digests; omega
  have l_objects : m.objects.length < 2^63 := by obtain ⟨_, _, _, q1, q2⟩ := rep_list h_objects; omega
  have l_items : m.items.length < 2^63 := by obtain ⟨_, _, _, q1, q2⟩ := rep_list h_items; omega
  refine calls_of_vc (args := [_]) Tryz.func15 c15ok (Nat.le_of_ble_eq_true rfl) ?_
  simp (implicitDefEqProofs := false) only [go_sem, c15]
  refine NewP_intro fun H1 hn1 hf1 hs1 => ?_
  have hc := hn1.cell
  simp (implicitDefEqProofs := false) only [go_sem, hc]
  refine (smr_ok _ (Rep.ext h_reads hf1) l_reads).mono ?_
  rintro v K ⟨t1, rfl, ht1, hq⟩
  have hq := hq.symm
  subst hq
  cases t1 with
  | false =>
    simp (implicitDefEqProofs := false) only [go_sem, hc]
    exact ⟨false, rfl, by simp, hf1⟩
  | true =>
  simp (implicitDefEqProofs := false) only [go_sem, hc]
  refine (smc_ok _ (Rep.ext h_state hf1) l_state).mono ?_
  rintro v K ⟨t2, rfl, ht2, hq⟩
  have hq := hq.symm
  subst hq
  cases t2 with
  | false =>
    simp (implicitDefEqProofs := false) only [go_sem, hc]
    exact ⟨false, rfl, by simp, hf1⟩
  | true =>
  simp (implicitDefEqProofs := false) only [go_sem, hc]
  refine (sma_ok _ (Rep.ext h_acks hf1) l_acks).mono ?_
  rintro v K ⟨t3, rfl, ht3, hq⟩
  have hq := hq.symm
  subst hq
  cases t3 with
  | false =>
    simp (implicitDefEqProofs := false) only [go_sem, hc]
    exact ⟨false, rfl, by simp, hf1⟩
  | true =>
  by_cases b1 : 3 < m.base.length
  · have b1' : (3 : Int) < (m.base.length : Int) := by omega
    simp (implicitDefEqProofs := false) only [go_sem, hc, b1']
    exact ⟨false, rfl, by simp, hf1⟩
  have b1' : ¬ (3 : Int) < (m.base.length : Int) := by omega
  by_cases b2 : 3 < m.proof.length
  · have b2' : (3 : Int) < (m.proof.length : Int) := by omega
    simp (implicitDefEqProofs := false) only [go_sem, hc, b1', b2']
    exact ⟨false, rfl, by simp, hf1⟩
  have b2' : ¬ (3 : Int) < (m.proof.length : Int) := by omega
  simp (implicitDefEqProofs := false) only [go_sem, hc, b1', b2']
  refine (few_ok _ _).mono ?_
  rintro v K ⟨rfl, hq⟩
  have hq := hq.symm
  subst hq
  by_cases f_digests : m.digests.length ≤ 8
  rotate_left
  · have f' : decide ((m.digests.length : Int) ≤ 8) = false := decide_eq_false (by omega)
    rw [f']
    simp (implicitDefEqProofs := false) only [go_sem, hc]
    exact ⟨false, rfl, by simp, hf1⟩
  have f_digests' : decide ((m.digests.length : Int) ≤ 8) = true := decide_eq_true (by omega)
  rw [f_digests']
  simp (implicitDefEqProofs := false) only [go_sem, hc]
  refine (few_ok _ _).mono ?_
  rintro v K ⟨rfl, hq⟩
  have hq := hq.symm
  subst hq
  by_cases f_objects : m.objects.length ≤ 8
  rotate_left
  · have f' : decide ((m.objects.length : Int) ≤ 8) = false := decide_eq_false (by omega)
    rw [f']
    simp (implicitDefEqProofs := false) only [go_sem, hc]
    exact ⟨false, rfl, by simp, hf1⟩
  have f_objects' : decide ((m.objects.length : Int) ≤ 8) = true := decide_eq_true (by omega)
  rw [f_objects']
  simp (implicitDefEqProofs := false) only [go_sem, hc]
  refine (few_ok _ _).mono ?_
  rintro v K ⟨rfl, hq⟩
  have hq := hq.symm
  subst hq
  by_cases f_items : m.items.length ≤ 8
  rotate_left
  · have f' : decide ((m.items.length : Int) ≤ 8) = false := decide_eq_false (by omega)
    rw [f']
    simp (implicitDefEqProofs := false) only [go_sem, hc]
    exact ⟨false, rfl, by simp, hf1⟩
  have f_items' : decide ((m.items.length : Int) ≤ 8) = true := decide_eq_true (by omega)
  rw [f_items']
  simp (implicitDefEqProofs := false) only [go_sem, hc]
  have ht1 := ht1 rfl
  have ht2 := ht2 rfl
  have ht3 := ht3 rfl
  refine vc_loop (fun (i : Nat) H' => i ≤ m.base.length ∧ (∀ x ∈ m.base.take i, bT x.1 ∧ bC x.2) ∧ Fr [] H H' ∧ Fr [] H1 H') (fun i => [(1, .pointer (some ⟨H.size, 0, none⟩)), (3, .int .i64 i)]) (fun i => m.base.length - i) 0 ?_ ?_ ?_
  · exact ⟨Nat.zero_le _, by simp, hf1, (Fr.refl _ _)⟩
  · simp (implicitDefEqProofs := false) only [go_sem]
  · rintro i L0 ⟨hi, hall0, hF0, hG0⟩
    have hc0 := (hn1.ext hG0).cell
    rcases Nat.lt_or_ge i m.base.length with hlt | hge
    · have g1 : (i : Int) < (m.base.length : Int) := by omega
      have g0 : (0 : Int) ≤ (i : Int) := by omega
      have hw1 := succ_i64 i m.base.length hlt (by omega)
      obtain ⟨bb, oo, cc, x, e1, _, hxl, hp, hx⟩ := rep_at (Rep.ext h_base hF0) i hlt
      cases e1
      obtain ⟨a0, q0, a1, q1, rfl, hr0, hr1⟩ := openBase hx
      have p0 := hp 0 (by decide)
      have p1 := hp 1 (by decide)
      simp only [wid, Nat.mul_one, Nat.add_zero, Nat.reduceAdd, List.getElem?_cons_zero, List.getElem?_cons_succ] at p0 p1
      have hL0 : List.length m.base[i].1 < 2^63 := by obtain ⟨_, _, _, q1, q2⟩ := rep_list hr0; omega
      have hL1 : List.length m.base[i].2 < 2^63 := by obtain ⟨_, _, _, q1, q2⟩ := rep_list hr1; omega
      simp (implicitDefEqProofs := false) only [go_sem, hc0, g1, g0, p0, p1]
      refine (smt_ok _ hr0 hL0).mono ?_
      rintro v Ka ⟨ta, rfl, hta, hka⟩
      cases ta with
      | false =>
        simp (implicitDefEqProofs := false) only [go_sem]
        exact ⟨false, rfl, by simp, hF0.trans hka⟩
      | true =>
      have hca := (hn1.ext (hG0.trans hka)).cell
      have r1 := cellB_fr p1 hka (by simp)
      simp (implicitDefEqProofs := false) only [go_sem, hca, g1, g0, r1]
      refine (smc_ok _ (Rep.ext hr1 hka) hL1).mono ?_
      rintro v Kb ⟨tb, rfl, htb, rfl⟩
      cases tb with
      | false =>
        simp (implicitDefEqProofs := false) only [go_sem]
        exact ⟨false, rfl, by simp, hF0.trans hka⟩
      | true =>
      simp (implicitDefEqProofs := false) only [go_sem]
      refine loopK_intro (i + 1) (by show m.base.length - (i + 1) < m.base.length - i; omega) ?_ ⟨hlt, take_all hlt hall0 ⟨hta rfl, htb rfl⟩, hF0.trans hka, hG0.trans hka⟩
      simp (implicitDefEqProofs := false) only [go_sem, hw1]
    · have g1 : ¬ (i : Int) < (m.base.length : Int) := by omega
      rw [List.take_of_length_le hge] at hall0
      simp (implicitDefEqProofs := false) only [go_sem, hc0, g1]
      refine vc_loop (fun (i : Nat) H' => i ≤ m.proof.length ∧ (∀ x ∈ m.proof.take i, bT x.1 ∧ bT1 x.2) ∧ Fr [] H H' ∧ Fr [] H1 H') (fun i => [(1, .pointer (some ⟨H.size, 0, none⟩)), (4, .int .i64 i)]) (fun i => m.proof.length - i) 0 ?_ ?_ ?_
      · exact ⟨Nat.zero_le _, by simp, hF0, hG0⟩
      · simp (implicitDefEqProofs := false) only [go_sem]
      · rintro i L1 ⟨hi, hall1, hF1, hG1⟩
        have hc1 := (hn1.ext hG1).cell
        rcases Nat.lt_or_ge i m.proof.length with hlt | hge
        · have g1 : (i : Int) < (m.proof.length : Int) := by omega
          have g0 : (0 : Int) ≤ (i : Int) := by omega
          have hw1 := succ_i64 i m.proof.length hlt (by omega)
          obtain ⟨bb, oo, cc, x, e1, _, hxl, hp, hx⟩ := rep_at (Rep.ext h_proof hF1) i hlt
          cases e1
          obtain ⟨a0, q0, y0, y1, y2, y3, y4, y5, y6, y7, y8, rfl, hr0, hr1⟩ := openProof hx
          have p0 := hp 0 (by decide)
          have p1 := hp 1 (by decide)
          have p2 := hp 2 (by decide)
          have p3 := hp 3 (by decide)
          have p4 := hp 4 (by decide)
          have p5 := hp 5 (by decide)
          have p6 := hp 6 (by decide)
          have p7 := hp 7 (by decide)
          have p8 := hp 8 (by decide)
          have p9 := hp 9 (by decide)
          simp only [wid, Nat.mul_one, Nat.add_zero, Nat.reduceAdd, List.getElem?_cons_zero, List.getElem?_cons_succ] at p0 p1 p2 p3 p4 p5 p6 p7 p8 p9
          have hL0 : List.length m.proof[i].1 < 2^63 := by obtain ⟨_, _, _, q1, q2⟩ := rep_list hr0; omega
          simp (implicitDefEqProofs := false) only [go_sem, hc1, g1, g0, p0]
          refine (smt_ok _ hr0 hL0).mono ?_
          rintro v Ka ⟨ta, rfl, hta, hka⟩
          cases ta with
          | false =>
            simp (implicitDefEqProofs := false) only [go_sem]
            exact ⟨false, rfl, by simp, hF1.trans hka⟩
          | true =>
          have hca := (hn1.ext (hG1.trans hka)).cell
          have r1 := cellB_fr p1 hka (by simp)
          have r2 := cellB_fr p2 hka (by simp)
          have r3 := cellB_fr p3 hka (by simp)
          have r4 := cellB_fr p4 hka (by simp)
          have r5 := cellB_fr p5 hka (by simp)
          have r6 := cellB_fr p6 hka (by simp)
          have r7 := cellB_fr p7 hka (by simp)
          have r8 := cellB_fr p8 hka (by simp)
          have r9 := cellB_fr p9 hka (by simp)
          simp (implicitDefEqProofs := false) only [go_sem, hca, g1, g0, r1, r2, r3, r4, r5, r6, r7, r8, r9]
          refine NewS_intro fun B hB hfB hsB => ?_
          have hone := rep_single hB (Rep.ext hr1 (hka.trans hfB))
          simp (implicitDefEqProofs := false) only [go_sem]
          refine (smt_ok [m.proof[i].2] hone (by simp)).mono ?_
          rintro v Kb ⟨tb, rfl, htb, hkb⟩
          have hkk := hka.trans (hfB.trans hkb)
          cases tb with
          | false =>
            simp (implicitDefEqProofs := false) only [go_sem]
            exact ⟨false, rfl, by simp, hF1.trans hkk⟩
          | true =>
          simp (implicitDefEqProofs := false) only [go_sem]
          refine loopK_intro (i + 1) (by show m.proof.length - (i + 1) < m.proof.length - i; omega) ?_ ⟨hlt, take_all hlt hall1 ⟨hta rfl, (htb rfl).2 _ (by simp)⟩, hF1.trans hkk, hG1.trans hkk⟩
          simp (implicitDefEqProofs := false) only [go_sem, hw1]
        · have g1 : ¬ (i : Int) < (m.proof.length : Int) := by omega
          rw [List.take_of_length_le hge] at hall1
          simp (implicitDefEqProofs := false) only [go_sem, hc1, g1]
          refine vc_loop (fun (i : Nat) H' => i ≤ m.digests.length ∧ (∀ x ∈ m.digests.take i, List.length x.1 ≤ 100 ∧ List.length x.2.1 ≤ 100) ∧ Fr [] H H' ∧ Fr [] H1 H') (fun i => [(1, .pointer (some ⟨H.size, 0, none⟩)), (5, .int .i64 i)]) (fun i => m.digests.length - i) 0 ?_ ?_ ?_
          · exact ⟨Nat.zero_le _, by simp, hF1, hG1⟩
          · simp (implicitDefEqProofs := false) only [go_sem]
          · rintro i L2 ⟨hi, hall2, hF2, hG2⟩
            have hc2 := (hn1.ext hG2).cell
            rcases Nat.lt_or_ge i m.digests.length with hlt | hge
            · have g1 : (i : Int) < (m.digests.length : Int) := by omega
              have g0 : (0 : Int) ≤ (i : Int) := by omega
              have hw1 := succ_i64 i m.digests.length hlt (by omega)
              obtain ⟨bb, oo, cc, x, e1, _, hxl, hp, hx⟩ := rep_at (Rep.ext h_digests hF2) i hlt
              cases e1
              obtain ⟨a0, q0, a1, q1, rfl⟩ := openDigest hx
              have p0 := hp 0 (by decide)
              have p1 := hp 1 (by decide)
              simp only [wid, Nat.mul_one, Nat.add_zero, Nat.reduceAdd, List.getElem?_cons_zero, List.getElem?_cons_succ] at p0 p1
              by_cases w1 : 100 < List.length m.digests[i].1
              · have w1' : (100 : Int) < (List.length m.digests[i].1 : Int) := by omega
                simp (implicitDefEqProofs := false) only [go_sem, hc2, g1, g0, p0, p1, w1']
                exact ⟨false, rfl, by simp, hF2⟩
              have w1' : ¬ (100 : Int) < (List.length m.digests[i].1 : Int) := by omega
              by_cases w2 : 100 < List.length m.digests[i].2.1
              · have w2' : (100 : Int) < (List.length m.digests[i].2.1 : Int) := by omega
                simp (implicitDefEqProofs := false) only [go_sem, hc2, g1, g0, p0, p1, w1', w2']
                exact ⟨false, rfl, by simp, hF2⟩
              have w2' : ¬ (100 : Int) < (List.length m.digests[i].2.1 : Int) := by omega
              simp (implicitDefEqProofs := false) only [go_sem, hc2, g1, g0, p0, p1, w1', w2']
              refine loopK_intro (i + 1) (by show m.digests.length - (i + 1) < m.digests.length - i; omega) ?_ ⟨hlt, take_all hlt hall2 ⟨by omega, by omega⟩, hF2, hG2⟩
              simp (implicitDefEqProofs := false) only [go_sem, hw1]
            · have g1 : ¬ (i : Int) < (m.digests.length : Int) := by omega
              rw [List.take_of_length_le hge] at hall2
              simp (implicitDefEqProofs := false) only [go_sem, hc2, g1]
              refine vc_loop (fun (i : Nat) H' => i ≤ m.objects.length ∧ (∀ x ∈ m.objects.take i, List.length x ≤ 100) ∧ Fr [] H H' ∧ Fr [] H1 H') (fun i => [(1, .pointer (some ⟨H.size, 0, none⟩)), (6, .int .i64 i)]) (fun i => m.objects.length - i) 0 ?_ ?_ ?_
              · exact ⟨Nat.zero_le _, by simp, hF2, hG2⟩
              · simp (implicitDefEqProofs := false) only [go_sem]
              · rintro i L3 ⟨hi, hall3, hF3, hG3⟩
                have hc3 := (hn1.ext hG3).cell
                rcases Nat.lt_or_ge i m.objects.length with hlt | hge
                · have g1 : (i : Int) < (m.objects.length : Int) := by omega
                  have g0 : (0 : Int) ≤ (i : Int) := by omega
                  have hw1 := succ_i64 i m.objects.length hlt (by omega)
                  obtain ⟨bb, oo, cc, x, e1, _, hxl, hp, hx⟩ := rep_at (Rep.ext h_objects hF3) i hlt
                  cases e1
                  obtain rfl := rep_text hx
                  have p0 := hp 0 (by decide)
                  simp only [wid, Nat.mul_one, Nat.add_zero, Nat.reduceAdd, List.getElem?_cons_zero, List.getElem?_cons_succ] at p0
                  have hsz : ∀ x : Bs, (ByteArray.size ⟨⟨x⟩⟩ : Nat) = x.length := fun x => rfl
                  by_cases w1 : 100 < List.length m.objects[i]
                  · have w1' : (100 : Int) < (List.length m.objects[i] : Int) := by omega
                    simp (implicitDefEqProofs := false) only [go_sem, hc3, g1, g0, p0, hsz, w1']
                    exact ⟨false, rfl, by simp, hF3⟩
                  have w1' : ¬ (100 : Int) < (List.length m.objects[i] : Int) := by omega
                  simp (implicitDefEqProofs := false) only [go_sem, hc3, g1, g0, p0, hsz, w1']
                  refine loopK_intro (i + 1) (by show m.objects.length - (i + 1) < m.objects.length - i; omega) ?_ ⟨hlt, take_all hlt hall3 (by omega), hF3, hG3⟩
                  simp (implicitDefEqProofs := false) only [go_sem, hw1]
                · have g1 : ¬ (i : Int) < (m.objects.length : Int) := by omega
                  rw [List.take_of_length_le hge] at hall3
                  simp (implicitDefEqProofs := false) only [go_sem, hc3, g1]
                  refine vc_loop (fun (i : Nat) H' => i ≤ m.items.length ∧ (∀ x ∈ m.items.take i, bI1 x) ∧ Fr [] H H' ∧ Fr [] H1 H') (fun i => [(1, .pointer (some ⟨H.size, 0, none⟩)), (7, .int .i64 i)]) (fun i => m.items.length - i) 0 ?_ ?_ ?_
                  · exact ⟨Nat.zero_le _, by simp, hF3, hG3⟩
                  · simp (implicitDefEqProofs := false) only [go_sem]
                  · rintro i L4 ⟨hi, hall4, hF4, hG4⟩
                    have hc4 := (hn1.ext hG4).cell
                    rcases Nat.lt_or_ge i m.items.length with hlt | hge
                    · have g1 : (i : Int) < (m.items.length : Int) := by omega
                      have g0 : (0 : Int) ≤ (i : Int) := by omega
                      have hw1 := succ_i64 i m.items.length hlt (by omega)
                      obtain ⟨bb, oo, cc, x, e1, _, hxl, hp, hx⟩ := rep_at (Rep.ext h_items hF4) i hlt
                      cases e1
                      obtain ⟨a2, q2, a3, q3, rfl, hr3⟩ := openItem hx
                      have p0 := hp 0 (by decide)
                      have p2 := hp 2 (by decide)
                      have p3 := hp 3 (by decide)
                      simp only [wid, Nat.mul_one, Nat.add_zero, Nat.reduceAdd, List.getElem?_cons_zero, List.getElem?_cons_succ] at p0 p2 p3
                      have hsz : ∀ x : Bs, (ByteArray.size ⟨⟨x⟩⟩ : Nat) = x.length := fun x => rfl
                      by_cases w1 : 100 < List.length m.items[i].1
                      · have w1' : (100 : Int) < (List.length m.items[i].1 : Int) := by omega
                        simp (implicitDefEqProofs := false) only [go_sem, hc4, g1, g0, p0, p2, p3, hsz, w1']
                        exact ⟨false, rfl, by simp, hF4⟩
                      have w1' : ¬ (100 : Int) < (List.length m.items[i].1 : Int) := by omega
                      by_cases w2 : 100 < List.length m.items[i].2.2.1
                      · have w2' : (100 : Int) < (List.length m.items[i].2.2.1 : Int) := by omega
                        simp (implicitDefEqProofs := false) only [go_sem, hc4, g1, g0, p0, p2, p3, hsz, w1', w2']
                        exact ⟨false, rfl, by simp, hF4⟩
                      have w2' : ¬ (100 : Int) < (List.length m.items[i].2.2.1 : Int) := by omega
                      have hL3 : List.length m.items[i].2.2.2 < 2^63 := by obtain ⟨_, _, _, q1, q2⟩ := rep_list hr3; omega
                      simp (implicitDefEqProofs := false) only [go_sem, hc4, g1, g0, p0, p2, p3, hsz, w1', w2']
                      refine (few_ok _ _).mono ?_
                      rintro v K9 ⟨rfl, rfl⟩
                      by_cases w3 : List.length m.items[i].2.2.2 ≤ 8
                      rotate_left
                      · have f' : decide ((List.length m.items[i].2.2.2 : Int) ≤ 8) = false := decide_eq_false (by omega)
                        rw [f']
                        simp (implicitDefEqProofs := false) only [go_sem]
                        exact ⟨false, rfl, by simp, hF4⟩
                      have f' : decide ((List.length m.items[i].2.2.2 : Int) ≤ 8) = true := decide_eq_true (by omega)
                      rw [f']
                      simp (implicitDefEqProofs := false) only [go_sem]
                      refine vc_loop (fun (k : Nat) H' => k ≤ List.length m.items[i].2.2.2 ∧ (∀ x ∈ List.take k m.items[i].2.2.2, List.length x ≤ 100) ∧ H' = K9) (fun k => [(1, .pointer (some ⟨H.size, 0, none⟩)), (7, .int .i64 i), (8, .int .i64 k)]) (fun k => List.length m.items[i].2.2.2 - k) 0 ?_ ?_ ?_
                      · exact ⟨Nat.zero_le _, by simp, rfl⟩
                      · simp (implicitDefEqProofs := false) only [go_sem]
                      · rintro k H' ⟨hk, hkall, rfl⟩
                        rcases Nat.lt_or_ge k (List.length m.items[i].2.2.2) with hklt | hkge
                        · have k1 : (k : Int) < (List.length m.items[i].2.2.2 : Int) := by omega
                          have k0 : (0 : Int) ≤ (k : Int) := by omega
                          have hw2 := succ_i64 k (List.length m.items[i].2.2.2) hklt (by omega)
                          obtain ⟨b2x, o2x, c2x, y, e2, _, hyl, hq, hy⟩ := rep_at hr3 k hklt
                          cases e2
                          obtain ⟨ay, qy, rfl, _, _, _⟩ := rep_bytes.1 hy
                          have r0 := hq 0 (by decide)
                          simp only [wid, Nat.mul_one, Nat.add_zero, Nat.reduceAdd, List.getElem?_cons_zero] at r0
                          by_cases w4 : 100 < List.length (m.items[i].2.2.2[k])
                          · have w4' : (100 : Int) < (List.length (m.items[i].2.2.2[k]) : Int) := by omega
                            simp (implicitDefEqProofs := false) only [go_sem, hc4, g1, g0, k1, k0, p3, r0, w4']
                            exact ⟨false, rfl, by simp, hF4⟩
                          have w4' : ¬ (100 : Int) < (List.length (m.items[i].2.2.2[k]) : Int) := by omega
                          simp (implicitDefEqProofs := false) only [go_sem, hc4, g1, g0, k1, k0, p3, r0, w4']
                          refine loopK_intro (k + 1) (by show List.length m.items[i].2.2.2 - (k + 1) < List.length m.items[i].2.2.2 - k; omega) ?_ ⟨hklt, take_all hklt hkall (by omega), rfl⟩
                          simp (implicitDefEqProofs := false) only [go_sem, hw2]
                        · have k1 : ¬ (k : Int) < (List.length m.items[i].2.2.2 : Int) := by omega
                          rw [List.take_of_length_le hkge] at hkall
                          simp (implicitDefEqProofs := false) only [go_sem, hc4, g1, g0, p3, k1]
                          refine loopK_intro (i + 1) (by show m.items.length - (i + 1) < m.items.length - i; omega) ?_ ⟨hlt, take_all hlt hall4 ⟨by omega, by omega, w3, hkall⟩, hF4, hG4⟩
                          simp (implicitDefEqProofs := false) only [go_sem, hw1]
                    · have g1 : ¬ (i : Int) < (m.items.length : Int) := by omega
                      rw [List.take_of_length_le hge] at hall4
                      simp (implicitDefEqProofs := false) only [go_sem, hc4, g1]
                      exact ⟨true, rfl, fun _ => ⟨⟨ht1, ht2, ht3, by omega, by omega, f_digests, f_objects, f_items⟩, hall0, hall1, hall2, hall3, hall4⟩, hF4⟩

end Go.Proofs.YtdhlibkdcldioaaGreat
