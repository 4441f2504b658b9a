/- A message written: payload, Encode, Check. -/
import Derived.Test.YtdhlibkdcldioaaGreatFu
import Derived.Test.YtdhlibkdcldioaaGreatFe
import Derived.Test.YtdhlibkdcldioaaGreatFs
set_option linter.unusedSimpArgs false
set_option linter.unusedVariables false
set_option maxRecDepth 8000
namespace Go.Proofs.YtdhlibkdcldioaaGreat
open Gx Go

theorem rep_apart {H H' : Heap} {M : List Nat} {d : Dat} {cs : List Value} (h : Rep H [] d cs) (hf : Fr [] H H') (hM : ∀ x ∈ M, H.size ≤ x) : Rep H' M d cs :=
  Rep.stay h fun b hb hn => ⟨fun hm => by have := hM b hm; omega, hf.same b hb hn⟩
theorem msg_round {H : Heap} {M : List Nat} {m : Msg} : Rep H M (datT tRound m.round) [.int .i64 m.round.1, .int .i64 m.round.2.1, .int .i64 m.round.2.2] := by
  have e : [Value.int .i64 m.round.1, .int .i64 m.round.2.1, .int .i64 m.round.2.2] = [Value.int .i64 m.round.1] ++ ([Value.int .i64 m.round.2.1] ++ [Value.int .i64 m.round.2.2]) := rfl
  rw [e]
  exact rep_pair.2 ⟨_, _, rfl, by simp [datT, Rep], rep_pair.2 ⟨_, _, rfl, by simp [datT, Rep], by simp [datT, Rep]⟩⟩
set_option maxHeartbeats 4000000 in
theorem payload_ok {m : Msg} {H : Heap} {cs : List Value} (h : Rep H [] (datT tMsg m.tup) cs) (hok : okM m) (hform : formB m = true) (hl : (encM m).length < 2^37) : HCalls Tryz.prog 32 #[.agg cs.toArray] H (Out H (encM m)) := by
  obtain ⟨a_reads, c_reads, a_base, c_base, a_state, c_state, a_acks, c_acks, a_proof, c_proof, a_digests, c_digests, a_objects, c_objects, a_items, c_items, rfl, h_reads, h_base, h_state, h_acks, h_proof, h_digests, h_objects, h_items⟩ := msg_open h
  obtain ⟨o_kind, o_src, o_dst, o_round, o_reads, o_base, o_state, o_acks, o_proof, o_digests, o_objects, o_seq, o_items⟩ := hok
  have hhead := form_head hform
  refine calls_of_vc (args := [_]) Tryz.func32 c32ok (Nat.le_of_ble_eq_true rfl) ?_
  simp (implicitDefEqProofs := false) only [go_sem, c32]
  refine NewP_intro fun H1 hn1 hf1 hs1 => ?_
  simp (implicitDefEqProofs := false) only [go_sem]
  refine NewP_intro fun H2 hn2 hf2 hs2 => ?_
  have hf12 := hf1.trans hf2
  have hn1' := hn1.ext hf2
  have hcw := hn1'.cell
  have hck : IntKind.u64.wrap m.kind = ((m.kind.toNat : Nat) : Int) := by rw [wrap_u64_id _ (by omega) (by omega)]; omega
  have hwr : Wr H2 H1.size [] none := ⟨none, 0, hn2, Own.nil _ _ _⟩
  have hxb : H.size ≠ H1.size := by omega
  have hM : ∀ x ∈ H1.size :: (none : Option Nat).toList, H.size ≤ x := by simp; omega
  have h_round2 : Rep H2 (H1.size :: (none : Option Nat).toList) (datT tRound m.round) [.int .i64 m.round.1, .int .i64 m.round.2.1, .int .i64 m.round.2.2] := msg_round
  have h_reads2 := rep_apart (M := H1.size :: (none : Option Nat).toList) h_reads hf12 hM
  have h_base2 := rep_apart (M := H1.size :: (none : Option Nat).toList) h_base hf12 hM
  have h_state2 := rep_apart (M := H1.size :: (none : Option Nat).toList) h_state hf12 hM
  have h_acks2 := rep_apart (M := H1.size :: (none : Option Nat).toList) h_acks hf12 hM
  have h_proof2 := rep_apart (M := H1.size :: (none : Option Nat).toList) h_proof hf12 hM
  have h_digests2 := rep_apart (M := H1.size :: (none : Option Nat).toList) h_digests hf12 hM
  have h_objects2 := rep_apart (M := H1.size :: (none : Option Nat).toList) h_objects hf12 hM
  have h_items2 := rep_apart (M := H1.size :: (none : Option Nat).toList) h_items hf12 hM
  simp (implicitDefEqProofs := false) only [go_sem, hcw, hck]
  refine (uint_ok m.kind.toNat (by omega) hwr (by simp)).mono ?_
  rintro r X0 ⟨rfl, g0, v0⟩
  have hc0 := (Blk.wr hn1' v0 hxb (by simp)).cell
  by_cases k1 : m.kind = 1
  · have hE : encM m = enc 1 ++ (encT .num m.src ++ (encT .num m.dst ++ (encT tRound m.round ++ (encT (.list tRead) m.reads ++ (encT (.list tBase) m.base ++ (encT (.list tCmd) m.state)))))) := by
      have : m.kind.toNat = 1 := by omega
      rw [encM, this]; rfl
    rw [hE] at hl ⊢
    simp only [List.length_append] at hl
    have hkt : m.kind.toNat = 1 := by omega
    rw [hkt] at v0
    have hcA := hc0
    simp (implicitDefEqProofs := false) only [go_sem, hc0, k1]
    refine (wnum_ok m.src o_src v0.1 (by (try simp only [List.length_append, List.length_nil]); omega)).mono ?_
    rintro r X1 ⟨rfl, g1, t1⟩
    have v1 := v0.trans t1
    have hc1 := (Blk.wr hn1' v1 hxb (by simp)).cell
    simp (implicitDefEqProofs := false) only [go_sem, hc1, k1]
    refine (wnum_ok m.dst o_dst v1.1 (by (try simp only [List.length_append, List.length_nil]); omega)).mono ?_
    rintro r X2 ⟨rfl, g2, t2⟩
    have v2 := v1.trans t2
    have hc2 := (Blk.wr hn1' v2 hxb (by simp)).cell
    simp (implicitDefEqProofs := false) only [go_sem, hc2, k1]
    refine (wround_ok.2 m.round o_round v2.1 (Rep.wr h_round2 v2) (by (try simp only [List.length_append, List.length_nil]); omega)).mono ?_
    rintro r X3 ⟨rfl, g3, t3⟩
    have v3 := v2.trans t3
    have hc3 := (Blk.wr hn1' v3 hxb (by simp)).cell
    simp (implicitDefEqProofs := false) only [go_sem, hc3, k1]
    refine (listReadID_ok rfl (fun _ => rfl) wread_ok m.reads o_reads v3.1 (Rep.wr h_reads2 v3) (by (try simp only [List.length_append, List.length_nil]); omega)).mono ?_
    rintro r X4 ⟨rfl, g4, t4⟩
    have v4 := v3.trans t4
    have hc4 := (Blk.wr hn1' v4 hxb (by simp)).cell
    simp (implicitDefEqProofs := false) only [go_sem, hc4, k1]
    refine (listBase_ok rfl (fun _ => rfl) wbase_ok m.base o_base v4.1 (Rep.wr h_base2 v4) (by (try simp only [List.length_append, List.length_nil]); omega)).mono ?_
    rintro r X5 ⟨rfl, g5, t5⟩
    have v5 := v4.trans t5
    have hc5 := (Blk.wr hn1' v5 hxb (by simp)).cell
    simp (implicitDefEqProofs := false) only [go_sem, hc5, k1]
    refine (listCommand_ok rfl (fun _ => rfl) wcommand_ok m.state o_state v5.1 (Rep.wr h_state2 v5) (by (try simp only [List.length_append, List.length_nil]); omega)).mono ?_
    rintro r X6 ⟨rfl, g6, t6⟩
    have v6 := v5.trans t6
    have hc6 := (Blk.wr hn1' v6 hxb (by simp)).cell
    simp (implicitDefEqProofs := false) only [go_sem, hc6]
    refine (data_ok v6.1 (by simp only [List.length_append, List.length_nil]; omega)).mono ?_
    rintro v Y ⟨a, c, gd, rfl, ho, hg, hfd⟩
    simp (implicitDefEqProofs := false) only [go_sem]
    simp only [List.nil_append] at ho
    have hv : enc 1 ++ encT .num m.src ++ encT .num m.dst ++ encT tRound m.round ++ encT (.list tRead) m.reads ++ encT (.list tBase) m.base ++ encT (.list tCmd) m.state = enc 1 ++ (encT .num m.src ++ (encT .num m.dst ++ (encT tRound m.round ++ (encT (.list tRead) m.reads ++ (encT (.list tBase) m.base ++ (encT (.list tCmd) m.state)))))) := by simp
    rw [hv] at ho ⊢
    have hw := v6.2.1
    refine Out.of rfl rfl ho (fun k hk => Nat.le_trans (Nat.le_trans hf12.size hw.size) (hg k hk)) ?_
    exact (hf12.trans' hw (by simp; omega)).trans hfd
  by_cases k2 : m.kind = 2
  · have hE : encM m = enc 2 ++ (encT .num m.src ++ (encT .num m.dst ++ (encT tRound m.round ++ (encT (.list tCmd) m.state ++ (encT (.list tBase) m.base ++ (encT (.list tAck) m.acks)))))) := by
      have : m.kind.toNat = 2 := by omega
      rw [encM, this]; rfl
    rw [hE] at hl ⊢
    simp only [List.length_append] at hl
    have hkt : m.kind.toNat = 2 := by omega
    rw [hkt] at v0
    have hcA := hc0
    simp (implicitDefEqProofs := false) only [go_sem, hc0, k2]
    refine (wnum_ok m.src o_src v0.1 (by (try simp only [List.length_append, List.length_nil]); omega)).mono ?_
    rintro r X1 ⟨rfl, g1, t1⟩
    have v1 := v0.trans t1
    have hc1 := (Blk.wr hn1' v1 hxb (by simp)).cell
    simp (implicitDefEqProofs := false) only [go_sem, hc1, k2]
    refine (wnum_ok m.dst o_dst v1.1 (by (try simp only [List.length_append, List.length_nil]); omega)).mono ?_
    rintro r X2 ⟨rfl, g2, t2⟩
    have v2 := v1.trans t2
    have hc2 := (Blk.wr hn1' v2 hxb (by simp)).cell
    simp (implicitDefEqProofs := false) only [go_sem, hc2, k2]
    refine (wround_ok.2 m.round o_round v2.1 (Rep.wr h_round2 v2) (by (try simp only [List.length_append, List.length_nil]); omega)).mono ?_
    rintro r X3 ⟨rfl, g3, t3⟩
    have v3 := v2.trans t3
    have hc3 := (Blk.wr hn1' v3 hxb (by simp)).cell
    simp (implicitDefEqProofs := false) only [go_sem, hc3, k2]
    refine (listCommand_ok rfl (fun _ => rfl) wcommand_ok m.state o_state v3.1 (Rep.wr h_state2 v3) (by (try simp only [List.length_append, List.length_nil]); omega)).mono ?_
    rintro r X4 ⟨rfl, g4, t4⟩
    have v4 := v3.trans t4
    have hc4 := (Blk.wr hn1' v4 hxb (by simp)).cell
    simp (implicitDefEqProofs := false) only [go_sem, hc4, k2]
    refine (listBase_ok rfl (fun _ => rfl) wbase_ok m.base o_base v4.1 (Rep.wr h_base2 v4) (by (try simp only [List.length_append, List.length_nil]); omega)).mono ?_
    rintro r X5 ⟨rfl, g5, t5⟩
    have v5 := v4.trans t5
    have hc5 := (Blk.wr hn1' v5 hxb (by simp)).cell
    simp (implicitDefEqProofs := false) only [go_sem, hc5, k2]
    refine (listAck_ok rfl (fun _ => rfl) wack_ok m.acks o_acks v5.1 (Rep.wr h_acks2 v5) (by (try simp only [List.length_append, List.length_nil]); omega)).mono ?_
    rintro r X6 ⟨rfl, g6, t6⟩
    have v6 := v5.trans t6
    have hc6 := (Blk.wr hn1' v6 hxb (by simp)).cell
    simp (implicitDefEqProofs := false) only [go_sem, hc6]
    refine (data_ok v6.1 (by simp only [List.length_append, List.length_nil]; omega)).mono ?_
    rintro v Y ⟨a, c, gd, rfl, ho, hg, hfd⟩
    simp (implicitDefEqProofs := false) only [go_sem]
    simp only [List.nil_append] at ho
    have hv : enc 2 ++ encT .num m.src ++ encT .num m.dst ++ encT tRound m.round ++ encT (.list tCmd) m.state ++ encT (.list tBase) m.base ++ encT (.list tAck) m.acks = enc 2 ++ (encT .num m.src ++ (encT .num m.dst ++ (encT tRound m.round ++ (encT (.list tCmd) m.state ++ (encT (.list tBase) m.base ++ (encT (.list tAck) m.acks)))))) := by simp
    rw [hv] at ho ⊢
    have hw := v6.2.1
    refine Out.of rfl rfl ho (fun k hk => Nat.le_trans (Nat.le_trans hf12.size hw.size) (hg k hk)) ?_
    exact (hf12.trans' hw (by simp; omega)).trans hfd
  by_cases k3 : m.kind = 3
  · have hE : encM m = enc 3 ++ (encT .num m.src ++ (encT .num m.dst ++ (encT (.list tProof) m.proof ++ (encT (.list tCmd) m.state)))) := by
      have : m.kind.toNat = 3 := by omega
      rw [encM, this]; rfl
    rw [hE] at hl ⊢
    simp only [List.length_append] at hl
    have hkt : m.kind.toNat = 3 := by omega
    rw [hkt] at v0
    have hcA := hc0
    simp (implicitDefEqProofs := false) only [go_sem, hc0, k3]
    refine (wnum_ok m.src o_src v0.1 (by (try simp only [List.length_append, List.length_nil]); omega)).mono ?_
    rintro r X1 ⟨rfl, g1, t1⟩
    have v1 := v0.trans t1
    have hc1 := (Blk.wr hn1' v1 hxb (by simp)).cell
    simp (implicitDefEqProofs := false) only [go_sem, hc1, k3]
    refine (wnum_ok m.dst o_dst v1.1 (by (try simp only [List.length_append, List.length_nil]); omega)).mono ?_
    rintro r X2 ⟨rfl, g2, t2⟩
    have v2 := v1.trans t2
    have hc2 := (Blk.wr hn1' v2 hxb (by simp)).cell
    simp (implicitDefEqProofs := false) only [go_sem, hc2, k3]
    refine (listProof_ok rfl (fun _ => rfl) wproof_ok m.proof o_proof v2.1 (Rep.wr h_proof2 v2) (by (try simp only [List.length_append, List.length_nil]); omega)).mono ?_
    rintro r X3 ⟨rfl, g3, t3⟩
    have v3 := v2.trans t3
    have hc3 := (Blk.wr hn1' v3 hxb (by simp)).cell
    simp (implicitDefEqProofs := false) only [go_sem, hc3, k3]
    refine (listCommand_ok rfl (fun _ => rfl) wcommand_ok m.state o_state v3.1 (Rep.wr h_state2 v3) (by (try simp only [List.length_append, List.length_nil]); omega)).mono ?_
    rintro r X4 ⟨rfl, g4, t4⟩
    have v4 := v3.trans t4
    have hc4 := (Blk.wr hn1' v4 hxb (by simp)).cell
    simp (implicitDefEqProofs := false) only [go_sem, hc4]
    refine (data_ok v4.1 (by simp only [List.length_append, List.length_nil]; omega)).mono ?_
    rintro v Y ⟨a, c, gd, rfl, ho, hg, hfd⟩
    simp (implicitDefEqProofs := false) only [go_sem]
    simp only [List.nil_append] at ho
    have hv : enc 3 ++ encT .num m.src ++ encT .num m.dst ++ encT (.list tProof) m.proof ++ encT (.list tCmd) m.state = enc 3 ++ (encT .num m.src ++ (encT .num m.dst ++ (encT (.list tProof) m.proof ++ (encT (.list tCmd) m.state)))) := by simp
    rw [hv] at ho ⊢
    have hw := v4.2.1
    refine Out.of rfl rfl ho (fun k hk => Nat.le_trans (Nat.le_trans hf12.size hw.size) (hg k hk)) ?_
    exact (hf12.trans' hw (by simp; omega)).trans hfd
  by_cases k4 : m.kind = 4
  · have hE : encM m = enc 4 ++ (encT .num m.src ++ (encT .num m.dst ++ encT (.list tDigest) m.digests)) := by
      have : m.kind.toNat = 4 := by omega
      rw [encM, this]; rfl
    rw [hE] at hl ⊢
    simp only [List.length_append] at hl
    have hkt : m.kind.toNat = 4 := by omega
    rw [hkt] at v0
    have hcA := hc0
    simp (implicitDefEqProofs := false) only [go_sem, hc0, k4]
    refine (wnum_ok m.src o_src v0.1 (by (try simp only [List.length_append, List.length_nil]); omega)).mono ?_
    rintro r X1 ⟨rfl, g1, t1⟩
    have v1 := v0.trans t1
    have hc1 := (Blk.wr hn1' v1 hxb (by simp)).cell
    simp (implicitDefEqProofs := false) only [go_sem, hc1, k4]
    refine (wnum_ok m.dst o_dst v1.1 (by (try simp only [List.length_append, List.length_nil]); omega)).mono ?_
    rintro r X2 ⟨rfl, g2, t2⟩
    have v2 := v1.trans t2
    have hc2 := (Blk.wr hn1' v2 hxb (by simp)).cell
    simp (implicitDefEqProofs := false) only [go_sem, hc2, k4]
    refine (listDigest_ok rfl (fun _ => rfl) wdigest_ok m.digests o_digests v2.1 (Rep.wr h_digests2 v2) (by (try simp only [List.length_append, List.length_nil]); omega)).mono ?_
    rintro r X3 ⟨rfl, g3, t3⟩
    have v3 := v2.trans t3
    have hc3 := (Blk.wr hn1' v3 hxb (by simp)).cell
    simp (implicitDefEqProofs := false) only [go_sem, hc3]
    refine (data_ok v3.1 (by simp only [List.length_append, List.length_nil]; omega)).mono ?_
    rintro v Y ⟨a, c, gd, rfl, ho, hg, hfd⟩
    simp (implicitDefEqProofs := false) only [go_sem]
    simp only [List.nil_append] at ho
    have hv : enc 4 ++ encT .num m.src ++ encT .num m.dst ++ encT (.list tDigest) m.digests = enc 4 ++ (encT .num m.src ++ (encT .num m.dst ++ encT (.list tDigest) m.digests)) := by simp
    rw [hv] at ho ⊢
    have hw := v3.2.1
    refine Out.of rfl rfl ho (fun k hk => Nat.le_trans (Nat.le_trans hf12.size hw.size) (hg k hk)) ?_
    exact (hf12.trans' hw (by simp; omega)).trans hfd
  by_cases k5 : m.kind = 5
  · have hE : encM m = enc 5 ++ (encT .num m.src ++ (encT .num m.dst ++ encT (.list tCmd) m.state)) := by
      have : m.kind.toNat = 5 := by omega
      rw [encM, this]; rfl
    rw [hE] at hl ⊢
    simp only [List.length_append] at hl
    have hkt : m.kind.toNat = 5 := by omega
    rw [hkt] at v0
    have hcA := hc0
    simp (implicitDefEqProofs := false) only [go_sem, hc0, k5]
    refine (wnum_ok m.src o_src v0.1 (by (try simp only [List.length_append, List.length_nil]); omega)).mono ?_
    rintro r X1 ⟨rfl, g1, t1⟩
    have v1 := v0.trans t1
    have hc1 := (Blk.wr hn1' v1 hxb (by simp)).cell
    simp (implicitDefEqProofs := false) only [go_sem, hc1, k5]
    refine (wnum_ok m.dst o_dst v1.1 (by (try simp only [List.length_append, List.length_nil]); omega)).mono ?_
    rintro r X2 ⟨rfl, g2, t2⟩
    have v2 := v1.trans t2
    have hc2 := (Blk.wr hn1' v2 hxb (by simp)).cell
    simp (implicitDefEqProofs := false) only [go_sem, hc2, k5]
    refine (listCommand_ok rfl (fun _ => rfl) wcommand_ok m.state o_state v2.1 (Rep.wr h_state2 v2) (by (try simp only [List.length_append, List.length_nil]); omega)).mono ?_
    rintro r X3 ⟨rfl, g3, t3⟩
    have v3 := v2.trans t3
    have hc3 := (Blk.wr hn1' v3 hxb (by simp)).cell
    simp (implicitDefEqProofs := false) only [go_sem, hc3]
    refine (data_ok v3.1 (by simp only [List.length_append, List.length_nil]; omega)).mono ?_
    rintro v Y ⟨a, c, gd, rfl, ho, hg, hfd⟩
    simp (implicitDefEqProofs := false) only [go_sem]
    simp only [List.nil_append] at ho
    have hv : enc 5 ++ encT .num m.src ++ encT .num m.dst ++ encT (.list tCmd) m.state = enc 5 ++ (encT .num m.src ++ (encT .num m.dst ++ encT (.list tCmd) m.state)) := by simp
    rw [hv] at ho ⊢
    have hw := v3.2.1
    refine Out.of rfl rfl ho (fun k hk => Nat.le_trans (Nat.le_trans hf12.size hw.size) (hg k hk)) ?_
    exact (hf12.trans' hw (by simp; omega)).trans hfd
  by_cases k6 : m.kind = 6
  · have hE : encM m = enc 6 ++ (encT .num m.src ++ (encT .num m.dst ++ encT (.list tCmd) m.state)) := by
      have : m.kind.toNat = 6 := by omega
      rw [encM, this]; rfl
    rw [hE] at hl ⊢
    simp only [List.length_append] at hl
    have hkt : m.kind.toNat = 6 := by omega
    rw [hkt] at v0
    have hcA := hc0
    simp (implicitDefEqProofs := false) only [go_sem, hc0, k6]
    refine (wnum_ok m.src o_src v0.1 (by (try simp only [List.length_append, List.length_nil]); omega)).mono ?_
    rintro r X1 ⟨rfl, g1, t1⟩
    have v1 := v0.trans t1
    have hc1 := (Blk.wr hn1' v1 hxb (by simp)).cell
    simp (implicitDefEqProofs := false) only [go_sem, hc1, k6]
    refine (wnum_ok m.dst o_dst v1.1 (by (try simp only [List.length_append, List.length_nil]); omega)).mono ?_
    rintro r X2 ⟨rfl, g2, t2⟩
    have v2 := v1.trans t2
    have hc2 := (Blk.wr hn1' v2 hxb (by simp)).cell
    simp (implicitDefEqProofs := false) only [go_sem, hc2, k6]
    refine (listCommand_ok rfl (fun _ => rfl) wcommand_ok m.state o_state v2.1 (Rep.wr h_state2 v2) (by (try simp only [List.length_append, List.length_nil]); omega)).mono ?_
    rintro r X3 ⟨rfl, g3, t3⟩
    have v3 := v2.trans t3
    have hc3 := (Blk.wr hn1' v3 hxb (by simp)).cell
    simp (implicitDefEqProofs := false) only [go_sem, hc3]
    refine (data_ok v3.1 (by simp only [List.length_append, List.length_nil]; omega)).mono ?_
    rintro v Y ⟨a, c, gd, rfl, ho, hg, hfd⟩
    simp (implicitDefEqProofs := false) only [go_sem]
    simp only [List.nil_append] at ho
    have hv : enc 6 ++ encT .num m.src ++ encT .num m.dst ++ encT (.list tCmd) m.state = enc 6 ++ (encT .num m.src ++ (encT .num m.dst ++ encT (.list tCmd) m.state)) := by simp
    rw [hv] at ho ⊢
    have hw := v3.2.1
    refine Out.of rfl rfl ho (fun k hk => Nat.le_trans (Nat.le_trans hf12.size hw.size) (hg k hk)) ?_
    exact (hf12.trans' hw (by simp; omega)).trans hfd
  by_cases k7 : m.kind = 7
  · have hE : encM m = enc 7 ++ (encT .num m.src ++ (encT .num m.dst ++ (encT (.list tRead) m.reads ++ (encT (.list .text) m.objects)))) := by
      have : m.kind.toNat = 7 := by omega
      rw [encM, this]; rfl
    rw [hE] at hl ⊢
    simp only [List.length_append] at hl
    have hkt : m.kind.toNat = 7 := by omega
    rw [hkt] at v0
    have hcA := hc0
    simp (implicitDefEqProofs := false) only [go_sem, hc0, k7]
    refine (wnum_ok m.src o_src v0.1 (by (try simp only [List.length_append, List.length_nil]); omega)).mono ?_
    rintro r X1 ⟨rfl, g1, t1⟩
    have v1 := v0.trans t1
    have hc1 := (Blk.wr hn1' v1 hxb (by simp)).cell
    simp (implicitDefEqProofs := false) only [go_sem, hc1, k7]
    refine (wnum_ok m.dst o_dst v1.1 (by (try simp only [List.length_append, List.length_nil]); omega)).mono ?_
    rintro r X2 ⟨rfl, g2, t2⟩
    have v2 := v1.trans t2
    have hc2 := (Blk.wr hn1' v2 hxb (by simp)).cell
    simp (implicitDefEqProofs := false) only [go_sem, hc2, k7]
    refine (listReadID_ok rfl (fun _ => rfl) wread_ok m.reads o_reads v2.1 (Rep.wr h_reads2 v2) (by (try simp only [List.length_append, List.length_nil]); omega)).mono ?_
    rintro r X3 ⟨rfl, g3, t3⟩
    have v3 := v2.trans t3
    have hc3 := (Blk.wr hn1' v3 hxb (by simp)).cell
    simp (implicitDefEqProofs := false) only [go_sem, hc3, k7]
    refine (listStr_ok rfl (fun _ => rfl) wtext_ok m.objects o_objects v3.1 (Rep.wr h_objects2 v3) (by (try simp only [List.length_append, List.length_nil]); omega)).mono ?_
    rintro r X4 ⟨rfl, g4, t4⟩
    have v4 := v3.trans t4
    have hc4 := (Blk.wr hn1' v4 hxb (by simp)).cell
    simp (implicitDefEqProofs := false) only [go_sem, hc4]
    refine (data_ok v4.1 (by simp only [List.length_append, List.length_nil]; omega)).mono ?_
    rintro v Y ⟨a, c, gd, rfl, ho, hg, hfd⟩
    simp (implicitDefEqProofs := false) only [go_sem]
    simp only [List.nil_append] at ho
    have hv : enc 7 ++ encT .num m.src ++ encT .num m.dst ++ encT (.list tRead) m.reads ++ encT (.list .text) m.objects = enc 7 ++ (encT .num m.src ++ (encT .num m.dst ++ (encT (.list tRead) m.reads ++ (encT (.list .text) m.objects)))) := by simp
    rw [hv] at ho ⊢
    have hw := v4.2.1
    refine Out.of rfl rfl ho (fun k hk => Nat.le_trans (Nat.le_trans hf12.size hw.size) (hg k hk)) ?_
    exact (hf12.trans' hw (by simp; omega)).trans hfd
  by_cases k8 : m.kind = 8
  · have hE : encM m = enc 8 ++ (encT .num m.src ++ (encT .num m.dst ++ (encT (.list tProof) m.proof ++ (encT (.list tRead) m.reads ++ (encT .num m.seq ++ (encT (.list tItem) m.items)))))) := by
      have : m.kind.toNat = 8 := by omega
      rw [encM, this]; rfl
    rw [hE] at hl ⊢
    simp only [List.length_append] at hl
    have hkt : m.kind.toNat = 8 := by omega
    rw [hkt] at v0
    have hcA := hc0
    simp (implicitDefEqProofs := false) only [go_sem, hc0, k8]
    refine (wnum_ok m.src o_src v0.1 (by (try simp only [List.length_append, List.length_nil]); omega)).mono ?_
    rintro r X1 ⟨rfl, g1, t1⟩
    have v1 := v0.trans t1
    have hc1 := (Blk.wr hn1' v1 hxb (by simp)).cell
    simp (implicitDefEqProofs := false) only [go_sem, hc1, k8]
    refine (wnum_ok m.dst o_dst v1.1 (by (try simp only [List.length_append, List.length_nil]); omega)).mono ?_
    rintro r X2 ⟨rfl, g2, t2⟩
    have v2 := v1.trans t2
    have hc2 := (Blk.wr hn1' v2 hxb (by simp)).cell
    simp (implicitDefEqProofs := false) only [go_sem, hc2, k8]
    refine (listProof_ok rfl (fun _ => rfl) wproof_ok m.proof o_proof v2.1 (Rep.wr h_proof2 v2) (by (try simp only [List.length_append, List.length_nil]); omega)).mono ?_
    rintro r X3 ⟨rfl, g3, t3⟩
    have v3 := v2.trans t3
    have hc3 := (Blk.wr hn1' v3 hxb (by simp)).cell
    simp (implicitDefEqProofs := false) only [go_sem, hc3, k8]
    refine (listReadID_ok rfl (fun _ => rfl) wread_ok m.reads o_reads v3.1 (Rep.wr h_reads2 v3) (by (try simp only [List.length_append, List.length_nil]); omega)).mono ?_
    rintro r X4 ⟨rfl, g4, t4⟩
    have v4 := v3.trans t4
    have hc4 := (Blk.wr hn1' v4 hxb (by simp)).cell
    simp (implicitDefEqProofs := false) only [go_sem, hc4, k8]
    refine (wnum_ok m.seq o_seq v4.1 (by (try simp only [List.length_append, List.length_nil]); omega)).mono ?_
    rintro r X5 ⟨rfl, g5, t5⟩
    have v5 := v4.trans t5
    have hc5 := (Blk.wr hn1' v5 hxb (by simp)).cell
    simp (implicitDefEqProofs := false) only [go_sem, hc5, k8]
    refine (listItem_ok rfl (fun _ => rfl) witem_ok m.items o_items v5.1 (Rep.wr h_items2 v5) (by (try simp only [List.length_append, List.length_nil]); omega)).mono ?_
    rintro r X6 ⟨rfl, g6, t6⟩
    have v6 := v5.trans t6
    have hc6 := (Blk.wr hn1' v6 hxb (by simp)).cell
    simp (implicitDefEqProofs := false) only [go_sem, hc6]
    refine (data_ok v6.1 (by simp only [List.length_append, List.length_nil]; omega)).mono ?_
    rintro v Y ⟨a, c, gd, rfl, ho, hg, hfd⟩
    simp (implicitDefEqProofs := false) only [go_sem]
    simp only [List.nil_append] at ho
    have hv : enc 8 ++ encT .num m.src ++ encT .num m.dst ++ encT (.list tProof) m.proof ++ encT (.list tRead) m.reads ++ encT .num m.seq ++ encT (.list tItem) m.items = enc 8 ++ (encT .num m.src ++ (encT .num m.dst ++ (encT (.list tProof) m.proof ++ (encT (.list tRead) m.reads ++ (encT .num m.seq ++ (encT (.list tItem) m.items)))))) := by simp
    rw [hv] at ho ⊢
    have hw := v6.2.1
    refine Out.of rfl rfl ho (fun k hk => Nat.le_trans (Nat.le_trans hf12.size hw.size) (hg k hk)) ?_
    exact (hf12.trans' hw (by simp; omega)).trans hfd
  · omega

/-- What Encode returns. -/
def encO (m : Msg) : Bs × Int := if formB m then (sealB (encM m), 0) else ([], 1)
theorem u8s (x : W32) : [Value.int .u8 (IntKind.u8.wrap (x.toNat : Int)), Value.int .u8 (IntKind.u8.wrap (shrI .u32 (x.toNat : Int) 8)), Value.int .u8 (IntKind.u8.wrap (shrI .u32 (x.toNat : Int) 16)), Value.int .u8 (IntKind.u8.wrap (shrI .u32 (x.toNat : Int) 24))] = (le4 x).map bv := le4_vals x
theorem encode_ok {m : Msg} {H : Heap} {cs : List Value} (h : Rep H [] (datT tMsg m.tup) cs) (hok : okM m) (hl : formB m = true → (encM m).length ≤ 2^24 - 4) : HCalls Tryz.prog 18 #[.agg cs.toArray] H fun v H' =>
    ∃ a c g, v = .tuple #[.slice a (encO m).1.length c, .int .i64 (encO m).2] ∧ Own H' 5 1 (.slice a (encO m).1.length c) (encO m).1.length ((encO m).1.map bv) g ∧ (∀ k, g = some k → H.size ≤ k) ∧ Fr [] H H' := by
  have h' := h
  obtain ⟨a_reads, c_reads, a_base, c_base, a_state, c_state, a_acks, c_acks, a_proof, c_proof, a_digests, c_digests, a_objects, c_objects, a_items, c_items, hcs, h_reads, h_base, h_state, h_acks, h_proof, h_digests, h_objects, h_items⟩ := msg_open h
  refine calls_of_vc (args := [_]) Tryz.func18 c18ok (Nat.le_of_ble_eq_true rfl) ?_
  simp (implicitDefEqProofs := false) only [go_sem, c18, hcs]
  refine NewP_intro fun H1 hn1 hf1 hs1 => ?_
  have hc := hn1.cell
  simp (implicitDefEqProofs := false) only [go_sem, hc]
  rw [← hcs]
  refine (formed_ok (Rep.ext h' hf1)).mono ?_
  rintro v H2 ⟨rfl, hf2⟩
  have hf12 := hf1.trans hf2
  have hc2 := (hn1.ext hf2).cell
  unfold encO
  cases hform : formB m with
  | false =>
    simp (implicitDefEqProofs := false) only [go_sem]
    exact ⟨none, 0, none, rfl, Own.nil _ _ _, by simp, hf12⟩
  | true =>
    have hl1 := hl hform
    simp (implicitDefEqProofs := false) only [go_sem, hc2]
    rw [← hcs]
    refine (payload_ok (Rep.ext h' hf12) hok hform (by omega)).mono ?_
    rintro v H3 ⟨a3, c3, g3, rfl, ho3, hg3, hf3⟩
    have hlen : IntKind.i64.wrap (((encM m).length : Int) + 4) = (((encM m).length + 4 : Nat) : Int) := by rw [wrap_i64_id _ (by omega) (by omega)]; omega
    have hle : ¬ (16777216 : Int) < (((encM m).length + 4 : Nat) : Int) := by omega
    simp (implicitDefEqProofs := false) only [go_sem, hlen, hle]
    refine (sum_ok ho3.bsR (by omega)).mono ?_
    rintro v H4 ⟨rfl, rfl⟩
    simp (implicitDefEqProofs := false) only [go_sem, wv]
    refine NewS_intro fun H5 hn5 hf5 hs5 => ?_
    rw [le4_vals] at hn5
    simp (implicitDefEqProofs := false) only [go_sem]
    refine App_own EB (ho3.fr hf5 (by simp)) (SrcH.blk Tryz.underlying22 hn5 (by simp [le4_len]) (by intro u hu; simp only [List.mem_map] at hu; obtain ⟨b, _, rfl⟩ := hu; rfl)) (by unfold maxLen; omega) (by omega) fun a6 c6 H6 g6 ho6 hf6 hg6 => ?_
    obtain ⟨hfr6, hgr6⟩ := app_fr (hf12.trans hf3) (fun k hk => Nat.le_trans hf12.size (hg3 k hk)) hf5 hf6 hg6
    simp (implicitDefEqProofs := false) only [go_sem]
    have e1 : (sealB (encM m)).length = (encM m).length + 4 := sealB_len _
    have e2 : (sealB (encM m)).map bv = (encM m).map bv ++ (le4 (crc (encM m))).map bv := by simp [sealB]
    rw [e1, e2]
    exact ⟨a6, c6, g6, rfl, ho6, hgr6, hfr6⟩
theorem check'_ok {m : Msg} {H : Heap} {cs : List Value} (h : Rep H [] (datT tMsg m.tup) cs) (hok : okM m) (hl : formB m = true → (encM m).length ≤ 2^24 - 4) : HCalls Tryz.prog 16 #[.agg cs.toArray] H fun v H' =>
    v = .int .i64 (encO m).2 ∧ Fr [] H H' := by
  have h' := h
  obtain ⟨a_reads, c_reads, a_base, c_base, a_state, c_state, a_acks, c_acks, a_proof, c_proof, a_digests, c_digests, a_objects, c_objects, a_items, c_items, hcs, h_reads, h_base, h_state, h_acks, h_proof, h_digests, h_objects, h_items⟩ := msg_open h
  refine calls_of_vc (args := [_]) Tryz.func16 c16ok (Nat.le_of_ble_eq_true rfl) ?_
  simp (implicitDefEqProofs := false) only [go_sem, c16, hcs]
  refine NewP_intro fun H1 hn1 hf1 hs1 => ?_
  have hc := hn1.cell
  simp (implicitDefEqProofs := false) only [go_sem, hc]
  rw [← hcs]
  refine (encode_ok (Rep.ext h' hf1) hok hl).mono ?_
  rintro v H2 ⟨a, c, g, rfl, _, _, hf2⟩
  simp (implicitDefEqProofs := false) only [go_sem]
  exact hf1.trans hf2
end Go.Proofs.YtdhlibkdcldioaaGreat
