/- Lists written. -/
import Derived.Test.YtdhlibkdcldioaaGreatFw
set_option linter.unusedSimpArgs false
set_option linter.unusedVariables false
set_option maxRecDepth 8000
namespace Go.Proofs.YtdhlibkdcldioaaGreat
open Gx Go

theorem listReadID_ok {f : Nat} {t : Ty} (hw : wid t = 3) (hp : ∀ cs, argOf t cs = .agg cs.toArray) (hf : WOk f t) (ls : List (den t)) (hok : okT (.list t) ls) {H : Heap} {b : Nat} {l : Bs} {g : Option Nat} {a : Option Addr} {c : Nat} (hwr : Wr H b l g)
    (ha : Rep H (b :: g.toList) (datT (.list t) ls) [.slice a ls.length c]) (hsz : l.length + (encT (.list t) ls).length < 2^38) :
    HCalls Tryz.prog 80 #[.pointer (some ⟨b, 0, none⟩), .slice a ls.length c, .func (.func f) #[.pointer (some ⟨b, 0, none⟩)] #[]] H fun r H' => r = .tuple #[] ∧ ∃ g', WrStep H b g H' (l ++ encT (.list t) ls) g' := by
  have hlen : ls.length < 2^63 := hok.1
  have hE : encT (.list t) ls = enc ls.length ++ ls.flatMap (encT t) := rfl
  rw [hE] at hsz ⊢
  have hfl := flat_len (encT_pos t) ls
  simp only [List.length_append] at hsz
  refine calls_of_vc (args := [_, _, _]) Tryz.func80 c80ok (Nat.le_of_ble_eq_true rfl) ?_
  have hx : IntKind.u64.wrap (ls.length : Int) = ((ls.length : Nat) : Int) := wrap_u64_id _ (by omega) (by omega)
  simp (implicitDefEqProofs := false) only [go_sem, c80, hx]
  refine (uint_ok ls.length (by omega) hwr (by omega)).mono ?_
  rintro r H0 ⟨rfl, g0, w0⟩
  simp (implicitDefEqProofs := false) only [go_sem]
  refine vc_loop (fun (i : Nat) H' => i ≤ ls.length ∧ ∃ g', WrStep H b g H' (l ++ (enc ls.length ++ (ls.take i).flatMap (encT t))) g')
    (fun i => [(0, .pointer (some ⟨b, 0, none⟩)), (2, .func (.func f) #[.pointer (some ⟨b, 0, none⟩)] #[]), (15, .slice a ls.length c), (16, .int .i64 ls.length), (17, .int .i64 i)]) (fun i => ls.length - i) 0 ?_ ?_ ?_
  · refine ⟨Nat.zero_le _, g0, ?_⟩
    simpa using w0
  · simp (implicitDefEqProofs := false) only [go_sem]
  · rintro i H' ⟨hi, g', ws'⟩
    rcases Nat.lt_or_ge i ls.length with hlt | hge
    · have hlt' : (i : Int) < (ls.length : Int) := by omega
      have h0 : (0 : Int) ≤ (i : Int) := by omega
      obtain ⟨bb, o, cc, x, e1, _, hxl, hp4, hp5⟩ := rep_at (Rep.wr ha ws') i hlt
      cases e1
      rw [hw] at hxl hp4
      obtain ⟨x0, x1, x2, rfl⟩ := len3 hxl
      have p0 := hp4 0 (by omega)
      have p1 := hp4 1 (by omega)
      have p2 := hp4 2 (by omega)
      simp only [Nat.add_zero, List.getElem?_cons_zero, List.getElem?_cons_succ] at p0 p1 p2
      have hw1 := succ_i64 i ls.length hlt (by omega)
      have hsz2 : l.length + ((enc ls.length).length + (((ls.take i).flatMap (encT t)).length + (encT t ls[i]).length)) < 2^38 := by
        have e := flat_split (encT t) ls i hlt
        rw [e] at hsz
        simp only [List.length_append] at hsz
        omega
      simp (implicitDefEqProofs := false) only [go_sem, hlt', h0, p0, p1, p2]
      refine NewP_intro fun H2 hn2 hf2 hs2 => ?_
      simp (implicitDefEqProofs := false) only [go_sem]
      refine Sto_all hn2 rfl (rep_one hp5) fun H3 hn3 hf3 hs3 => ?_
      have hfn := new_fr hf2 hf3
      have hc3 := hn3.cell
      have ws3 := ws'.post hfn
      simp (implicitDefEqProofs := false) only [go_sem, hc3]
      have hcall := hf.2 _ (hok.2 _ (List.getElem_mem hlt)) ws3.1 (Rep.ext hp5 hfn) (by (try simp only [List.length_append]); omega)
      rw [hp] at hcall
      refine ⟨hf.1, hcall.mono ?_⟩
      rintro r H5 ⟨rfl, g5, w5⟩
      have w6 := ws3.trans w5
      simp (implicitDefEqProofs := false) only [go_sem]
      refine loopK_intro (i + 1) (by show ls.length - (i + 1) < ls.length - i; omega) ?_ ⟨hlt, g5, ?_⟩
      · simp (implicitDefEqProofs := false) only [go_sem, hw1]
      · have e : l ++ (enc ls.length ++ (ls.take (i + 1)).flatMap (encT t)) = l ++ (enc ls.length ++ (ls.take i).flatMap (encT t)) ++ encT t ls[i] := by
          rw [flat_succ (encT t) ls i hlt]; simp
        rw [e]; exact w6
    · have hge' : ¬ (i : Int) < (ls.length : Int) := by omega
      simp (implicitDefEqProofs := false) only [go_sem, hge']
      rw [List.take_of_length_le hge] at ws'
      exact ⟨g', ws'⟩

theorem listBase_ok {f : Nat} {t : Ty} (hw : wid t = 2) (hp : ∀ cs, argOf t cs = .agg cs.toArray) (hf : WOk f t) (ls : List (den t)) (hok : okT (.list t) ls) {H : Heap} {b : Nat} {l : Bs} {g : Option Nat} {a : Option Addr} {c : Nat} (hwr : Wr H b l g)
    (ha : Rep H (b :: g.toList) (datT (.list t) ls) [.slice a ls.length c]) (hsz : l.length + (encT (.list t) ls).length < 2^38) :
    HCalls Tryz.prog 82 #[.pointer (some ⟨b, 0, none⟩), .slice a ls.length c, .func (.func f) #[.pointer (some ⟨b, 0, none⟩)] #[]] H fun r H' => r = .tuple #[] ∧ ∃ g', WrStep H b g H' (l ++ encT (.list t) ls) g' := by
  have hlen : ls.length < 2^63 := hok.1
  have hE : encT (.list t) ls = enc ls.length ++ ls.flatMap (encT t) := rfl
  rw [hE] at hsz ⊢
  have hfl := flat_len (encT_pos t) ls
  simp only [List.length_append] at hsz
  refine calls_of_vc (args := [_, _, _]) Tryz.func82 c82ok (Nat.le_of_ble_eq_true rfl) ?_
  have hx : IntKind.u64.wrap (ls.length : Int) = ((ls.length : Nat) : Int) := wrap_u64_id _ (by omega) (by omega)
  simp (implicitDefEqProofs := false) only [go_sem, c82, hx]
  refine (uint_ok ls.length (by omega) hwr (by omega)).mono ?_
  rintro r H0 ⟨rfl, g0, w0⟩
  simp (implicitDefEqProofs := false) only [go_sem]
  refine vc_loop (fun (i : Nat) H' => i ≤ ls.length ∧ ∃ g', WrStep H b g H' (l ++ (enc ls.length ++ (ls.take i).flatMap (encT t))) g')
    (fun i => [(0, .pointer (some ⟨b, 0, none⟩)), (2, .func (.func f) #[.pointer (some ⟨b, 0, none⟩)] #[]), (15, .slice a ls.length c), (16, .int .i64 ls.length), (17, .int .i64 i)]) (fun i => ls.length - i) 0 ?_ ?_ ?_
  · refine ⟨Nat.zero_le _, g0, ?_⟩
    simpa using w0
  · simp (implicitDefEqProofs := false) only [go_sem]
  · rintro i H' ⟨hi, g', ws'⟩
    rcases Nat.lt_or_ge i ls.length with hlt | hge
    · have hlt' : (i : Int) < (ls.length : Int) := by omega
      have h0 : (0 : Int) ≤ (i : Int) := by omega
      obtain ⟨bb, o, cc, x, e1, _, hxl, hp4, hp5⟩ := rep_at (Rep.wr ha ws') i hlt
      cases e1
      rw [hw] at hxl hp4
      obtain ⟨x0, x1, rfl⟩ := len2 hxl
      have p0 := hp4 0 (by omega)
      have p1 := hp4 1 (by omega)
      simp only [Nat.add_zero, List.getElem?_cons_zero, List.getElem?_cons_succ] at p0 p1
      have hw1 := succ_i64 i ls.length hlt (by omega)
      have hsz2 : l.length + ((enc ls.length).length + (((ls.take i).flatMap (encT t)).length + (encT t ls[i]).length)) < 2^38 := by
        have e := flat_split (encT t) ls i hlt
        rw [e] at hsz
        simp only [List.length_append] at hsz
        omega
      simp (implicitDefEqProofs := false) only [go_sem, hlt', h0, p0, p1]
      refine NewP_intro fun H2 hn2 hf2 hs2 => ?_
      simp (implicitDefEqProofs := false) only [go_sem]
      refine Sto_all hn2 rfl (rep_one hp5) fun H3 hn3 hf3 hs3 => ?_
      have hfn := new_fr hf2 hf3
      have hc3 := hn3.cell
      have ws3 := ws'.post hfn
      simp (implicitDefEqProofs := false) only [go_sem, hc3]
      have hcall := hf.2 _ (hok.2 _ (List.getElem_mem hlt)) ws3.1 (Rep.ext hp5 hfn) (by (try simp only [List.length_append]); omega)
      rw [hp] at hcall
      refine ⟨hf.1, hcall.mono ?_⟩
      rintro r H5 ⟨rfl, g5, w5⟩
      have w6 := ws3.trans w5
      simp (implicitDefEqProofs := false) only [go_sem]
      refine loopK_intro (i + 1) (by show ls.length - (i + 1) < ls.length - i; omega) ?_ ⟨hlt, g5, ?_⟩
      · simp (implicitDefEqProofs := false) only [go_sem, hw1]
      · have e : l ++ (enc ls.length ++ (ls.take (i + 1)).flatMap (encT t)) = l ++ (enc ls.length ++ (ls.take i).flatMap (encT t)) ++ encT t ls[i] := by
          rw [flat_succ (encT t) ls i hlt]; simp
        rw [e]; exact w6
    · have hge' : ¬ (i : Int) < (ls.length : Int) := by omega
      simp (implicitDefEqProofs := false) only [go_sem, hge']
      rw [List.take_of_length_le hge] at ws'
      exact ⟨g', ws'⟩

theorem listCommand_ok {f : Nat} {t : Ty} (hw : wid t = 6) (hp : ∀ cs, argOf t cs = .agg cs.toArray) (hf : WOk f t) (ls : List (den t)) (hok : okT (.list t) ls) {H : Heap} {b : Nat} {l : Bs} {g : Option Nat} {a : Option Addr} {c : Nat} (hwr : Wr H b l g)
    (ha : Rep H (b :: g.toList) (datT (.list t) ls) [.slice a ls.length c]) (hsz : l.length + (encT (.list t) ls).length < 2^38) :
    HCalls Tryz.prog 84 #[.pointer (some ⟨b, 0, none⟩), .slice a ls.length c, .func (.func f) #[.pointer (some ⟨b, 0, none⟩)] #[]] H fun r H' => r = .tuple #[] ∧ ∃ g', WrStep H b g H' (l ++ encT (.list t) ls) g' := by
  have hlen : ls.length < 2^63 := hok.1
  have hE : encT (.list t) ls = enc ls.length ++ ls.flatMap (encT t) := rfl
  rw [hE] at hsz ⊢
  have hfl := flat_len (encT_pos t) ls
  simp only [List.length_append] at hsz
  refine calls_of_vc (args := [_, _, _]) Tryz.func84 c84ok (Nat.le_of_ble_eq_true rfl) ?_
  have hx : IntKind.u64.wrap (ls.length : Int) = ((ls.length : Nat) : Int) := wrap_u64_id _ (by omega) (by omega)
  simp (implicitDefEqProofs := false) only [go_sem, c84, hx]
  refine (uint_ok ls.length (by omega) hwr (by omega)).mono ?_
  rintro r H0 ⟨rfl, g0, w0⟩
  simp (implicitDefEqProofs := false) only [go_sem]
  refine vc_loop (fun (i : Nat) H' => i ≤ ls.length ∧ ∃ g', WrStep H b g H' (l ++ (enc ls.length ++ (ls.take i).flatMap (encT t))) g')
    (fun i => [(0, .pointer (some ⟨b, 0, none⟩)), (2, .func (.func f) #[.pointer (some ⟨b, 0, none⟩)] #[]), (15, .slice a ls.length c), (16, .int .i64 ls.length), (17, .int .i64 i)]) (fun i => ls.length - i) 0 ?_ ?_ ?_
  · refine ⟨Nat.zero_le _, g0, ?_⟩
    simpa using w0
  · simp (implicitDefEqProofs := false) only [go_sem]
  · rintro i H' ⟨hi, g', ws'⟩
    rcases Nat.lt_or_ge i ls.length with hlt | hge
    · have hlt' : (i : Int) < (ls.length : Int) := by omega
      have h0 : (0 : Int) ≤ (i : Int) := by omega
      obtain ⟨bb, o, cc, x, e1, _, hxl, hp4, hp5⟩ := rep_at (Rep.wr ha ws') i hlt
      cases e1
      rw [hw] at hxl hp4
      obtain ⟨x0, x1, x2, x3, x4, x5, rfl⟩ := len6 hxl
      have p0 := hp4 0 (by omega)
      have p1 := hp4 1 (by omega)
      have p2 := hp4 2 (by omega)
      have p3 := hp4 3 (by omega)
      have p4 := hp4 4 (by omega)
      have p5 := hp4 5 (by omega)
      simp only [Nat.add_zero, List.getElem?_cons_zero, List.getElem?_cons_succ] at p0 p1 p2 p3 p4 p5
      have hw1 := succ_i64 i ls.length hlt (by omega)
      have hsz2 : l.length + ((enc ls.length).length + (((ls.take i).flatMap (encT t)).length + (encT t ls[i]).length)) < 2^38 := by
        have e := flat_split (encT t) ls i hlt
        rw [e] at hsz
        simp only [List.length_append] at hsz
        omega
      simp (implicitDefEqProofs := false) only [go_sem, hlt', h0, p0, p1, p2, p3, p4, p5]
      refine NewP_intro fun H2 hn2 hf2 hs2 => ?_
      simp (implicitDefEqProofs := false) only [go_sem]
      refine Sto_all hn2 rfl (rep_one hp5) fun H3 hn3 hf3 hs3 => ?_
      have hfn := new_fr hf2 hf3
      have hc3 := hn3.cell
      have ws3 := ws'.post hfn
      simp (implicitDefEqProofs := false) only [go_sem, hc3]
      have hcall := hf.2 _ (hok.2 _ (List.getElem_mem hlt)) ws3.1 (Rep.ext hp5 hfn) (by (try simp only [List.length_append]); omega)
      rw [hp] at hcall
      refine ⟨hf.1, hcall.mono ?_⟩
      rintro r H5 ⟨rfl, g5, w5⟩
      have w6 := ws3.trans w5
      simp (implicitDefEqProofs := false) only [go_sem]
      refine loopK_intro (i + 1) (by show ls.length - (i + 1) < ls.length - i; omega) ?_ ⟨hlt, g5, ?_⟩
      · simp (implicitDefEqProofs := false) only [go_sem, hw1]
      · have e : l ++ (enc ls.length ++ (ls.take (i + 1)).flatMap (encT t)) = l ++ (enc ls.length ++ (ls.take i).flatMap (encT t)) ++ encT t ls[i] := by
          rw [flat_succ (encT t) ls i hlt]; simp
        rw [e]; exact w6
    · have hge' : ¬ (i : Int) < (ls.length : Int) := by omega
      simp (implicitDefEqProofs := false) only [go_sem, hge']
      rw [List.take_of_length_le hge] at ws'
      exact ⟨g', ws'⟩

theorem listAck_ok {f : Nat} {t : Ty} (hw : wid t = 2) (hp : ∀ cs, argOf t cs = .agg cs.toArray) (hf : WOk f t) (ls : List (den t)) (hok : okT (.list t) ls) {H : Heap} {b : Nat} {l : Bs} {g : Option Nat} {a : Option Addr} {c : Nat} (hwr : Wr H b l g)
    (ha : Rep H (b :: g.toList) (datT (.list t) ls) [.slice a ls.length c]) (hsz : l.length + (encT (.list t) ls).length < 2^38) :
    HCalls Tryz.prog 86 #[.pointer (some ⟨b, 0, none⟩), .slice a ls.length c, .func (.func f) #[.pointer (some ⟨b, 0, none⟩)] #[]] H fun r H' => r = .tuple #[] ∧ ∃ g', WrStep H b g H' (l ++ encT (.list t) ls) g' := by
  have hlen : ls.length < 2^63 := hok.1
  have hE : encT (.list t) ls = enc ls.length ++ ls.flatMap (encT t) := rfl
  rw [hE] at hsz ⊢
  have hfl := flat_len (encT_pos t) ls
  simp only [List.length_append] at hsz
  refine calls_of_vc (args := [_, _, _]) Tryz.func86 c86ok (Nat.le_of_ble_eq_true rfl) ?_
  have hx : IntKind.u64.wrap (ls.length : Int) = ((ls.length : Nat) : Int) := wrap_u64_id _ (by omega) (by omega)
  simp (implicitDefEqProofs := false) only [go_sem, c86, hx]
  refine (uint_ok ls.length (by omega) hwr (by omega)).mono ?_
  rintro r H0 ⟨rfl, g0, w0⟩
  simp (implicitDefEqProofs := false) only [go_sem]
  refine vc_loop (fun (i : Nat) H' => i ≤ ls.length ∧ ∃ g', WrStep H b g H' (l ++ (enc ls.length ++ (ls.take i).flatMap (encT t))) g')
    (fun i => [(0, .pointer (some ⟨b, 0, none⟩)), (2, .func (.func f) #[.pointer (some ⟨b, 0, none⟩)] #[]), (15, .slice a ls.length c), (16, .int .i64 ls.length), (17, .int .i64 i)]) (fun i => ls.length - i) 0 ?_ ?_ ?_
  · refine ⟨Nat.zero_le _, g0, ?_⟩
    simpa using w0
  · simp (implicitDefEqProofs := false) only [go_sem]
  · rintro i H' ⟨hi, g', ws'⟩
    rcases Nat.lt_or_ge i ls.length with hlt | hge
    · have hlt' : (i : Int) < (ls.length : Int) := by omega
      have h0 : (0 : Int) ≤ (i : Int) := by omega
      obtain ⟨bb, o, cc, x, e1, _, hxl, hp4, hp5⟩ := rep_at (Rep.wr ha ws') i hlt
      cases e1
      rw [hw] at hxl hp4
      obtain ⟨x0, x1, rfl⟩ := len2 hxl
      have p0 := hp4 0 (by omega)
      have p1 := hp4 1 (by omega)
      simp only [Nat.add_zero, List.getElem?_cons_zero, List.getElem?_cons_succ] at p0 p1
      have hw1 := succ_i64 i ls.length hlt (by omega)
      have hsz2 : l.length + ((enc ls.length).length + (((ls.take i).flatMap (encT t)).length + (encT t ls[i]).length)) < 2^38 := by
        have e := flat_split (encT t) ls i hlt
        rw [e] at hsz
        simp only [List.length_append] at hsz
        omega
      simp (implicitDefEqProofs := false) only [go_sem, hlt', h0, p0, p1]
      refine NewP_intro fun H2 hn2 hf2 hs2 => ?_
      simp (implicitDefEqProofs := false) only [go_sem]
      refine Sto_all hn2 rfl (rep_one hp5) fun H3 hn3 hf3 hs3 => ?_
      have hfn := new_fr hf2 hf3
      have hc3 := hn3.cell
      have ws3 := ws'.post hfn
      simp (implicitDefEqProofs := false) only [go_sem, hc3]
      have hcall := hf.2 _ (hok.2 _ (List.getElem_mem hlt)) ws3.1 (Rep.ext hp5 hfn) (by (try simp only [List.length_append]); omega)
      rw [hp] at hcall
      refine ⟨hf.1, hcall.mono ?_⟩
      rintro r H5 ⟨rfl, g5, w5⟩
      have w6 := ws3.trans w5
      simp (implicitDefEqProofs := false) only [go_sem]
      refine loopK_intro (i + 1) (by show ls.length - (i + 1) < ls.length - i; omega) ?_ ⟨hlt, g5, ?_⟩
      · simp (implicitDefEqProofs := false) only [go_sem, hw1]
      · have e : l ++ (enc ls.length ++ (ls.take (i + 1)).flatMap (encT t)) = l ++ (enc ls.length ++ (ls.take i).flatMap (encT t)) ++ encT t ls[i] := by
          rw [flat_succ (encT t) ls i hlt]; simp
        rw [e]; exact w6
    · have hge' : ¬ (i : Int) < (ls.length : Int) := by omega
      simp (implicitDefEqProofs := false) only [go_sem, hge']
      rw [List.take_of_length_le hge] at ws'
      exact ⟨g', ws'⟩

theorem listProof_ok {f : Nat} {t : Ty} (hw : wid t = 10) (hp : ∀ cs, argOf t cs = .agg cs.toArray) (hf : WOk f t) (ls : List (den t)) (hok : okT (.list t) ls) {H : Heap} {b : Nat} {l : Bs} {g : Option Nat} {a : Option Addr} {c : Nat} (hwr : Wr H b l g)
    (ha : Rep H (b :: g.toList) (datT (.list t) ls) [.slice a ls.length c]) (hsz : l.length + (encT (.list t) ls).length < 2^38) :
    HCalls Tryz.prog 88 #[.pointer (some ⟨b, 0, none⟩), .slice a ls.length c, .func (.func f) #[.pointer (some ⟨b, 0, none⟩)] #[]] H fun r H' => r = .tuple #[] ∧ ∃ g', WrStep H b g H' (l ++ encT (.list t) ls) g' := by
  have hlen : ls.length < 2^63 := hok.1
  have hE : encT (.list t) ls = enc ls.length ++ ls.flatMap (encT t) := rfl
  rw [hE] at hsz ⊢
  have hfl := flat_len (encT_pos t) ls
  simp only [List.length_append] at hsz
  refine calls_of_vc (args := [_, _, _]) Tryz.func88 c88ok (Nat.le_of_ble_eq_true rfl) ?_
  have hx : IntKind.u64.wrap (ls.length : Int) = ((ls.length : Nat) : Int) := wrap_u64_id _ (by omega) (by omega)
  simp (implicitDefEqProofs := false) only [go_sem, c88, hx]
  refine (uint_ok ls.length (by omega) hwr (by omega)).mono ?_
  rintro r H0 ⟨rfl, g0, w0⟩
  simp (implicitDefEqProofs := false) only [go_sem]
  refine vc_loop (fun (i : Nat) H' => i ≤ ls.length ∧ ∃ g', WrStep H b g H' (l ++ (enc ls.length ++ (ls.take i).flatMap (encT t))) g')
    (fun i => [(0, .pointer (some ⟨b, 0, none⟩)), (2, .func (.func f) #[.pointer (some ⟨b, 0, none⟩)] #[]), (15, .slice a ls.length c), (16, .int .i64 ls.length), (17, .int .i64 i)]) (fun i => ls.length - i) 0 ?_ ?_ ?_
  · refine ⟨Nat.zero_le _, g0, ?_⟩
    simpa using w0
  · simp (implicitDefEqProofs := false) only [go_sem]
  · rintro i H' ⟨hi, g', ws'⟩
    rcases Nat.lt_or_ge i ls.length with hlt | hge
    · have hlt' : (i : Int) < (ls.length : Int) := by omega
      have h0 : (0 : Int) ≤ (i : Int) := by omega
      obtain ⟨bb, o, cc, x, e1, _, hxl, hp4, hp5⟩ := rep_at (Rep.wr ha ws') i hlt
      cases e1
      rw [hw] at hxl hp4
      obtain ⟨x0, x1, x2, x3, x4, x5, x6, x7, x8, x9, rfl⟩ := len10 hxl
      have p0 := hp4 0 (by omega)
      have p1 := hp4 1 (by omega)
      have p2 := hp4 2 (by omega)
      have p3 := hp4 3 (by omega)
      have p4 := hp4 4 (by omega)
      have p5 := hp4 5 (by omega)
      have p6 := hp4 6 (by omega)
      have p7 := hp4 7 (by omega)
      have p8 := hp4 8 (by omega)
      have p9 := hp4 9 (by omega)
      simp only [Nat.add_zero, List.getElem?_cons_zero, List.getElem?_cons_succ] at p0 p1 p2 p3 p4 p5 p6 p7 p8 p9
      have hw1 := succ_i64 i ls.length hlt (by omega)
      have hsz2 : l.length + ((enc ls.length).length + (((ls.take i).flatMap (encT t)).length + (encT t ls[i]).length)) < 2^38 := by
        have e := flat_split (encT t) ls i hlt
        rw [e] at hsz
        simp only [List.length_append] at hsz
        omega
      simp (implicitDefEqProofs := false) only [go_sem, hlt', h0, p0, p1, p2, p3, p4, p5, p6, p7, p8, p9]
      refine NewP_intro fun H2 hn2 hf2 hs2 => ?_
      simp (implicitDefEqProofs := false) only [go_sem]
      refine Sto_all hn2 rfl (rep_one hp5) fun H3 hn3 hf3 hs3 => ?_
      have hfn := new_fr hf2 hf3
      have hc3 := hn3.cell
      have ws3 := ws'.post hfn
      simp (implicitDefEqProofs := false) only [go_sem, hc3]
      have hcall := hf.2 _ (hok.2 _ (List.getElem_mem hlt)) ws3.1 (Rep.ext hp5 hfn) (by (try simp only [List.length_append]); omega)
      rw [hp] at hcall
      refine ⟨hf.1, hcall.mono ?_⟩
      rintro r H5 ⟨rfl, g5, w5⟩
      have w6 := ws3.trans w5
      simp (implicitDefEqProofs := false) only [go_sem]
      refine loopK_intro (i + 1) (by show ls.length - (i + 1) < ls.length - i; omega) ?_ ⟨hlt, g5, ?_⟩
      · simp (implicitDefEqProofs := false) only [go_sem, hw1]
      · have e : l ++ (enc ls.length ++ (ls.take (i + 1)).flatMap (encT t)) = l ++ (enc ls.length ++ (ls.take i).flatMap (encT t)) ++ encT t ls[i] := by
          rw [flat_succ (encT t) ls i hlt]; simp
        rw [e]; exact w6
    · have hge' : ¬ (i : Int) < (ls.length : Int) := by omega
      simp (implicitDefEqProofs := false) only [go_sem, hge']
      rw [List.take_of_length_le hge] at ws'
      exact ⟨g', ws'⟩

theorem listDigest_ok {f : Nat} {t : Ty} (hw : wid t = 3) (hp : ∀ cs, argOf t cs = .agg cs.toArray) (hf : WOk f t) (ls : List (den t)) (hok : okT (.list t) ls) {H : Heap} {b : Nat} {l : Bs} {g : Option Nat} {a : Option Addr} {c : Nat} (hwr : Wr H b l g)
    (ha : Rep H (b :: g.toList) (datT (.list t) ls) [.slice a ls.length c]) (hsz : l.length + (encT (.list t) ls).length < 2^38) :
    HCalls Tryz.prog 90 #[.pointer (some ⟨b, 0, none⟩), .slice a ls.length c, .func (.func f) #[.pointer (some ⟨b, 0, none⟩)] #[]] H fun r H' => r = .tuple #[] ∧ ∃ g', WrStep H b g H' (l ++ encT (.list t) ls) g' := by
  have hlen : ls.length < 2^63 := hok.1
  have hE : encT (.list t) ls = enc ls.length ++ ls.flatMap (encT t) := rfl
  rw [hE] at hsz ⊢
  have hfl := flat_len (encT_pos t) ls
  simp only [List.length_append] at hsz
  refine calls_of_vc (args := [_, _, _]) Tryz.func90 c90ok (Nat.le_of_ble_eq_true rfl) ?_
  have hx : IntKind.u64.wrap (ls.length : Int) = ((ls.length : Nat) : Int) := wrap_u64_id _ (by omega) (by omega)
  simp (implicitDefEqProofs := false) only [go_sem, c90, hx]
  refine (uint_ok ls.length (by omega) hwr (by omega)).mono ?_
  rintro r H0 ⟨rfl, g0, w0⟩
  simp (implicitDefEqProofs := false) only [go_sem]
  refine vc_loop (fun (i : Nat) H' => i ≤ ls.length ∧ ∃ g', WrStep H b g H' (l ++ (enc ls.length ++ (ls.take i).flatMap (encT t))) g')
    (fun i => [(0, .pointer (some ⟨b, 0, none⟩)), (2, .func (.func f) #[.pointer (some ⟨b, 0, none⟩)] #[]), (15, .slice a ls.length c), (16, .int .i64 ls.length), (17, .int .i64 i)]) (fun i => ls.length - i) 0 ?_ ?_ ?_
  · refine ⟨Nat.zero_le _, g0, ?_⟩
    simpa using w0
  · simp (implicitDefEqProofs := false) only [go_sem]
  · rintro i H' ⟨hi, g', ws'⟩
    rcases Nat.lt_or_ge i ls.length with hlt | hge
    · have hlt' : (i : Int) < (ls.length : Int) := by omega
      have h0 : (0 : Int) ≤ (i : Int) := by omega
      obtain ⟨bb, o, cc, x, e1, _, hxl, hp4, hp5⟩ := rep_at (Rep.wr ha ws') i hlt
      cases e1
      rw [hw] at hxl hp4
      obtain ⟨x0, x1, x2, rfl⟩ := len3 hxl
      have p0 := hp4 0 (by omega)
      have p1 := hp4 1 (by omega)
      have p2 := hp4 2 (by omega)
      simp only [Nat.add_zero, List.getElem?_cons_zero, List.getElem?_cons_succ] at p0 p1 p2
      have hw1 := succ_i64 i ls.length hlt (by omega)
      have hsz2 : l.length + ((enc ls.length).length + (((ls.take i).flatMap (encT t)).length + (encT t ls[i]).length)) < 2^38 := by
        have e := flat_split (encT t) ls i hlt
        rw [e] at hsz
        simp only [List.length_append] at hsz
        omega
      simp (implicitDefEqProofs := false) only [go_sem, hlt', h0, p0, p1, p2]
      refine NewP_intro fun H2 hn2 hf2 hs2 => ?_
      simp (implicitDefEqProofs := false) only [go_sem]
      refine Sto_all hn2 rfl (rep_one hp5) fun H3 hn3 hf3 hs3 => ?_
      have hfn := new_fr hf2 hf3
      have hc3 := hn3.cell
      have ws3 := ws'.post hfn
      simp (implicitDefEqProofs := false) only [go_sem, hc3]
      have hcall := hf.2 _ (hok.2 _ (List.getElem_mem hlt)) ws3.1 (Rep.ext hp5 hfn) (by (try simp only [List.length_append]); omega)
      rw [hp] at hcall
      refine ⟨hf.1, hcall.mono ?_⟩
      rintro r H5 ⟨rfl, g5, w5⟩
      have w6 := ws3.trans w5
      simp (implicitDefEqProofs := false) only [go_sem]
      refine loopK_intro (i + 1) (by show ls.length - (i + 1) < ls.length - i; omega) ?_ ⟨hlt, g5, ?_⟩
      · simp (implicitDefEqProofs := false) only [go_sem, hw1]
      · have e : l ++ (enc ls.length ++ (ls.take (i + 1)).flatMap (encT t)) = l ++ (enc ls.length ++ (ls.take i).flatMap (encT t)) ++ encT t ls[i] := by
          rw [flat_succ (encT t) ls i hlt]; simp
        rw [e]; exact w6
    · have hge' : ¬ (i : Int) < (ls.length : Int) := by omega
      simp (implicitDefEqProofs := false) only [go_sem, hge']
      rw [List.take_of_length_le hge] at ws'
      exact ⟨g', ws'⟩

theorem listStr_ok {f : Nat} {t : Ty} (hw : wid t = 1) (hp : ∀ v, argOf t [v] = v) (hf : WOk f t) (ls : List (den t)) (hok : okT (.list t) ls) {H : Heap} {b : Nat} {l : Bs} {g : Option Nat} {a : Option Addr} {c : Nat} (hwr : Wr H b l g)
    (ha : Rep H (b :: g.toList) (datT (.list t) ls) [.slice a ls.length c]) (hsz : l.length + (encT (.list t) ls).length < 2^38) :
    HCalls Tryz.prog 92 #[.pointer (some ⟨b, 0, none⟩), .slice a ls.length c, .func (.func f) #[.pointer (some ⟨b, 0, none⟩)] #[]] H fun r H' => r = .tuple #[] ∧ ∃ g', WrStep H b g H' (l ++ encT (.list t) ls) g' := by
  have hlen : ls.length < 2^63 := hok.1
  have hE : encT (.list t) ls = enc ls.length ++ ls.flatMap (encT t) := rfl
  rw [hE] at hsz ⊢
  have hfl := flat_len (encT_pos t) ls
  simp only [List.length_append] at hsz
  refine calls_of_vc (args := [_, _, _]) Tryz.func92 c92ok (Nat.le_of_ble_eq_true rfl) ?_
  have hx : IntKind.u64.wrap (ls.length : Int) = ((ls.length : Nat) : Int) := wrap_u64_id _ (by omega) (by omega)
  simp (implicitDefEqProofs := false) only [go_sem, c92, hx]
  refine (uint_ok ls.length (by omega) hwr (by omega)).mono ?_
  rintro r H0 ⟨rfl, g0, w0⟩
  simp (implicitDefEqProofs := false) only [go_sem]
  refine vc_loop (fun (i : Nat) H' => i ≤ ls.length ∧ ∃ g', WrStep H b g H' (l ++ (enc ls.length ++ (ls.take i).flatMap (encT t))) g')
    (fun i => [(0, .pointer (some ⟨b, 0, none⟩)), (2, .func (.func f) #[.pointer (some ⟨b, 0, none⟩)] #[]), (15, .slice a ls.length c), (16, .int .i64 ls.length), (17, .int .i64 i)]) (fun i => ls.length - i) 0 ?_ ?_ ?_
  · refine ⟨Nat.zero_le _, g0, ?_⟩
    simpa using w0
  · simp (implicitDefEqProofs := false) only [go_sem]
  · rintro i H' ⟨hi, g', ws'⟩
    rcases Nat.lt_or_ge i ls.length with hlt | hge
    · have hlt' : (i : Int) < (ls.length : Int) := by omega
      have h0 : (0 : Int) ≤ (i : Int) := by omega
      obtain ⟨bb, o, cc, x, e1, _, hxl, hp4, hp5⟩ := rep_at (Rep.wr ha ws') i hlt
      cases e1
      rw [hw] at hxl hp4
      obtain ⟨x0, rfl⟩ := len1 hxl
      have p0 := hp4 0 (by omega)
      simp only [Nat.add_zero, List.getElem?_cons_zero, List.getElem?_cons_succ, Nat.mul_one] at p0
      have hw1 := succ_i64 i ls.length hlt (by omega)
      have hsz2 : l.length + ((enc ls.length).length + (((ls.take i).flatMap (encT t)).length + (encT t ls[i]).length)) < 2^38 := by
        have e := flat_split (encT t) ls i hlt
        rw [e] at hsz
        simp only [List.length_append] at hsz
        omega
      simp (implicitDefEqProofs := false) only [go_sem, hlt', h0, p0]
      have hcall := hf.2 _ (hok.2 _ (List.getElem_mem hlt)) ws'.1 hp5 (by (try simp only [List.length_append]); omega)
      rw [hp] at hcall
      refine ⟨hf.1, hcall.mono ?_⟩
      rintro r H5 ⟨rfl, g5, w5⟩
      have w6 := ws'.trans w5
      simp (implicitDefEqProofs := false) only [go_sem]
      refine loopK_intro (i + 1) (by show ls.length - (i + 1) < ls.length - i; omega) ?_ ⟨hlt, g5, ?_⟩
      · simp (implicitDefEqProofs := false) only [go_sem, hw1]
      · have e : l ++ (enc ls.length ++ (ls.take (i + 1)).flatMap (encT t)) = l ++ (enc ls.length ++ (ls.take i).flatMap (encT t)) ++ encT t ls[i] := by
          rw [flat_succ (encT t) ls i hlt]; simp
        rw [e]; exact w6
    · have hge' : ¬ (i : Int) < (ls.length : Int) := by omega
      simp (implicitDefEqProofs := false) only [go_sem, hge']
      rw [List.take_of_length_le hge] at ws'
      exact ⟨g', ws'⟩

theorem listItem_ok {f : Nat} {t : Ty} (hw : wid t = 4) (hp : ∀ cs, argOf t cs = .agg cs.toArray) (hf : WOk f t) (ls : List (den t)) (hok : okT (.list t) ls) {H : Heap} {b : Nat} {l : Bs} {g : Option Nat} {a : Option Addr} {c : Nat} (hwr : Wr H b l g)
    (ha : Rep H (b :: g.toList) (datT (.list t) ls) [.slice a ls.length c]) (hsz : l.length + (encT (.list t) ls).length < 2^38) :
    HCalls Tryz.prog 94 #[.pointer (some ⟨b, 0, none⟩), .slice a ls.length c, .func (.func f) #[.pointer (some ⟨b, 0, none⟩)] #[]] H fun r H' => r = .tuple #[] ∧ ∃ g', WrStep H b g H' (l ++ encT (.list t) ls) g' := by
  have hlen : ls.length < 2^63 := hok.1
  have hE : encT (.list t) ls = enc ls.length ++ ls.flatMap (encT t) := rfl
  rw [hE] at hsz ⊢
  have hfl := flat_len (encT_pos t) ls
  simp only [List.length_append] at hsz
  refine calls_of_vc (args := [_, _, _]) Tryz.func94 c94ok (Nat.le_of_ble_eq_true rfl) ?_
  have hx : IntKind.u64.wrap (ls.length : Int) = ((ls.length : Nat) : Int) := wrap_u64_id _ (by omega) (by omega)
  simp (implicitDefEqProofs := false) only [go_sem, c94, hx]
  refine (uint_ok ls.length (by omega) hwr (by omega)).mono ?_
  rintro r H0 ⟨rfl, g0, w0⟩
  simp (implicitDefEqProofs := false) only [go_sem]
  refine vc_loop (fun (i : Nat) H' => i ≤ ls.length ∧ ∃ g', WrStep H b g H' (l ++ (enc ls.length ++ (ls.take i).flatMap (encT t))) g')
    (fun i => [(0, .pointer (some ⟨b, 0, none⟩)), (2, .func (.func f) #[.pointer (some ⟨b, 0, none⟩)] #[]), (15, .slice a ls.length c), (16, .int .i64 ls.length), (17, .int .i64 i)]) (fun i => ls.length - i) 0 ?_ ?_ ?_
  · refine ⟨Nat.zero_le _, g0, ?_⟩
    simpa using w0
  · simp (implicitDefEqProofs := false) only [go_sem]
  · rintro i H' ⟨hi, g', ws'⟩
    rcases Nat.lt_or_ge i ls.length with hlt | hge
    · have hlt' : (i : Int) < (ls.length : Int) := by omega
      have h0 : (0 : Int) ≤ (i : Int) := by omega
      obtain ⟨bb, o, cc, x, e1, _, hxl, hp4, hp5⟩ := rep_at (Rep.wr ha ws') i hlt
      cases e1
      rw [hw] at hxl hp4
      obtain ⟨x0, x1, x2, x3, rfl⟩ := len4 hxl
      have p0 := hp4 0 (by omega)
      have p1 := hp4 1 (by omega)
      have p2 := hp4 2 (by omega)
      have p3 := hp4 3 (by omega)
      simp only [Nat.add_zero, List.getElem?_cons_zero, List.getElem?_cons_succ] at p0 p1 p2 p3
      have hw1 := succ_i64 i ls.length hlt (by omega)
      have hsz2 : l.length + ((enc ls.length).length + (((ls.take i).flatMap (encT t)).length + (encT t ls[i]).length)) < 2^38 := by
        have e := flat_split (encT t) ls i hlt
        rw [e] at hsz
        simp only [List.length_append] at hsz
        omega
      simp (implicitDefEqProofs := false) only [go_sem, hlt', h0, p0, p1, p2, p3]
      refine NewP_intro fun H2 hn2 hf2 hs2 => ?_
      simp (implicitDefEqProofs := false) only [go_sem]
      refine Sto_all hn2 rfl (rep_one hp5) fun H3 hn3 hf3 hs3 => ?_
      have hfn := new_fr hf2 hf3
      have hc3 := hn3.cell
      have ws3 := ws'.post hfn
      simp (implicitDefEqProofs := false) only [go_sem, hc3]
      have hcall := hf.2 _ (hok.2 _ (List.getElem_mem hlt)) ws3.1 (Rep.ext hp5 hfn) (by (try simp only [List.length_append]); omega)
      rw [hp] at hcall
      refine ⟨hf.1, hcall.mono ?_⟩
      rintro r H5 ⟨rfl, g5, w5⟩
      have w6 := ws3.trans w5
      simp (implicitDefEqProofs := false) only [go_sem]
      refine loopK_intro (i + 1) (by show ls.length - (i + 1) < ls.length - i; omega) ?_ ⟨hlt, g5, ?_⟩
      · simp (implicitDefEqProofs := false) only [go_sem, hw1]
      · have e : l ++ (enc ls.length ++ (ls.take (i + 1)).flatMap (encT t)) = l ++ (enc ls.length ++ (ls.take i).flatMap (encT t)) ++ encT t ls[i] := by
          rw [flat_succ (encT t) ls i hlt]; simp
        rw [e]; exact w6
    · have hge' : ¬ (i : Int) < (ls.length : Int) := by omega
      simp (implicitDefEqProofs := false) only [go_sem, hge']
      rw [List.take_of_length_le hge] at ws'
      exact ⟨g', ws'⟩

theorem listCertificate_ok {f : Nat} {t : Ty} (hw : wid t = 9) (hp : ∀ cs, argOf t cs = .agg cs.toArray) (hf : WOk f t) (ls : List (den t)) (hok : okT (.list t) ls) {H : Heap} {b : Nat} {l : Bs} {g : Option Nat} {a : Option Addr} {c : Nat} (hwr : Wr H b l g)
    (ha : Rep H (b :: g.toList) (datT (.list t) ls) [.slice a ls.length c]) (hsz : l.length + (encT (.list t) ls).length < 2^38) :
    HCalls Tryz.prog 125 #[.pointer (some ⟨b, 0, none⟩), .slice a ls.length c, .func (.func f) #[.pointer (some ⟨b, 0, none⟩)] #[]] H fun r H' => r = .tuple #[] ∧ ∃ g', WrStep H b g H' (l ++ encT (.list t) ls) g' := by
  have hlen : ls.length < 2^63 := hok.1
  have hE : encT (.list t) ls = enc ls.length ++ ls.flatMap (encT t) := rfl
  rw [hE] at hsz ⊢
  have hfl := flat_len (encT_pos t) ls
  simp only [List.length_append] at hsz
  refine calls_of_vc (args := [_, _, _]) Tryz.func125 c125ok (Nat.le_of_ble_eq_true rfl) ?_
  have hx : IntKind.u64.wrap (ls.length : Int) = ((ls.length : Nat) : Int) := wrap_u64_id _ (by omega) (by omega)
  simp (implicitDefEqProofs := false) only [go_sem, c125, hx]
  refine (uint_ok ls.length (by omega) hwr (by omega)).mono ?_
  rintro r H0 ⟨rfl, g0, w0⟩
  simp (implicitDefEqProofs := false) only [go_sem]
  refine vc_loop (fun (i : Nat) H' => i ≤ ls.length ∧ ∃ g', WrStep H b g H' (l ++ (enc ls.length ++ (ls.take i).flatMap (encT t))) g')
    (fun i => [(0, .pointer (some ⟨b, 0, none⟩)), (2, .func (.func f) #[.pointer (some ⟨b, 0, none⟩)] #[]), (15, .slice a ls.length c), (16, .int .i64 ls.length), (17, .int .i64 i)]) (fun i => ls.length - i) 0 ?_ ?_ ?_
  · refine ⟨Nat.zero_le _, g0, ?_⟩
    simpa using w0
  · simp (implicitDefEqProofs := false) only [go_sem]
  · rintro i H' ⟨hi, g', ws'⟩
    rcases Nat.lt_or_ge i ls.length with hlt | hge
    · have hlt' : (i : Int) < (ls.length : Int) := by omega
      have h0 : (0 : Int) ≤ (i : Int) := by omega
      obtain ⟨bb, o, cc, x, e1, _, hxl, hp4, hp5⟩ := rep_at (Rep.wr ha ws') i hlt
      cases e1
      rw [hw] at hxl hp4
      obtain ⟨x0, x1, x2, x3, x4, x5, x6, x7, x8, rfl⟩ := len9 hxl
      have p0 := hp4 0 (by omega)
      have p1 := hp4 1 (by omega)
      have p2 := hp4 2 (by omega)
      have p3 := hp4 3 (by omega)
      have p4 := hp4 4 (by omega)
      have p5 := hp4 5 (by omega)
      have p6 := hp4 6 (by omega)
      have p7 := hp4 7 (by omega)
      have p8 := hp4 8 (by omega)
      simp only [Nat.add_zero, List.getElem?_cons_zero, List.getElem?_cons_succ] at p0 p1 p2 p3 p4 p5 p6 p7 p8
      have hw1 := succ_i64 i ls.length hlt (by omega)
      have hsz2 : l.length + ((enc ls.length).length + (((ls.take i).flatMap (encT t)).length + (encT t ls[i]).length)) < 2^38 := by
        have e := flat_split (encT t) ls i hlt
        rw [e] at hsz
        simp only [List.length_append] at hsz
        omega
      simp (implicitDefEqProofs := false) only [go_sem, hlt', h0, p0, p1, p2, p3, p4, p5, p6, p7, p8]
      refine NewP_intro fun H2 hn2 hf2 hs2 => ?_
      simp (implicitDefEqProofs := false) only [go_sem]
      refine Sto_all hn2 rfl (rep_one hp5) fun H3 hn3 hf3 hs3 => ?_
      have hfn := new_fr hf2 hf3
      have hc3 := hn3.cell
      have ws3 := ws'.post hfn
      simp (implicitDefEqProofs := false) only [go_sem, hc3]
      have hcall := hf.2 _ (hok.2 _ (List.getElem_mem hlt)) ws3.1 (Rep.ext hp5 hfn) (by (try simp only [List.length_append]); omega)
      rw [hp] at hcall
      refine ⟨hf.1, hcall.mono ?_⟩
      rintro r H5 ⟨rfl, g5, w5⟩
      have w6 := ws3.trans w5
      simp (implicitDefEqProofs := false) only [go_sem]
      refine loopK_intro (i + 1) (by show ls.length - (i + 1) < ls.length - i; omega) ?_ ⟨hlt, g5, ?_⟩
      · simp (implicitDefEqProofs := false) only [go_sem, hw1]
      · have e : l ++ (enc ls.length ++ (ls.take (i + 1)).flatMap (encT t)) = l ++ (enc ls.length ++ (ls.take i).flatMap (encT t)) ++ encT t ls[i] := by
          rw [flat_succ (encT t) ls i hlt]; simp
        rw [e]; exact w6
    · have hge' : ¬ (i : Int) < (ls.length : Int) := by omega
      simp (implicitDefEqProofs := false) only [go_sem, hge']
      rw [List.take_of_length_le hge] at ws'
      exact ⟨g', ws'⟩

theorem listWrite_ok {f : Nat} {t : Ty} (hw : wid t = 2) (hp : ∀ cs, argOf t cs = .agg cs.toArray) (hf : WOk f t) (ls : List (den t)) (hok : okT (.list t) ls) {H : Heap} {b : Nat} {l : Bs} {g : Option Nat} {a : Option Addr} {c : Nat} (hwr : Wr H b l g)
    (ha : Rep H (b :: g.toList) (datT (.list t) ls) [.slice a ls.length c]) (hsz : l.length + (encT (.list t) ls).length < 2^38) :
    HCalls Tryz.prog 127 #[.pointer (some ⟨b, 0, none⟩), .slice a ls.length c, .func (.func f) #[.pointer (some ⟨b, 0, none⟩)] #[]] H fun r H' => r = .tuple #[] ∧ ∃ g', WrStep H b g H' (l ++ encT (.list t) ls) g' := by
  have hlen : ls.length < 2^63 := hok.1
  have hE : encT (.list t) ls = enc ls.length ++ ls.flatMap (encT t) := rfl
  rw [hE] at hsz ⊢
  have hfl := flat_len (encT_pos t) ls
  simp only [List.length_append] at hsz
  refine calls_of_vc (args := [_, _, _]) Tryz.func127 c127ok (Nat.le_of_ble_eq_true rfl) ?_
  have hx : IntKind.u64.wrap (ls.length : Int) = ((ls.length : Nat) : Int) := wrap_u64_id _ (by omega) (by omega)
  simp (implicitDefEqProofs := false) only [go_sem, c127, hx]
  refine (uint_ok ls.length (by omega) hwr (by omega)).mono ?_
  rintro r H0 ⟨rfl, g0, w0⟩
  simp (implicitDefEqProofs := false) only [go_sem]
  refine vc_loop (fun (i : Nat) H' => i ≤ ls.length ∧ ∃ g', WrStep H b g H' (l ++ (enc ls.length ++ (ls.take i).flatMap (encT t))) g')
    (fun i => [(0, .pointer (some ⟨b, 0, none⟩)), (2, .func (.func f) #[.pointer (some ⟨b, 0, none⟩)] #[]), (15, .slice a ls.length c), (16, .int .i64 ls.length), (17, .int .i64 i)]) (fun i => ls.length - i) 0 ?_ ?_ ?_
  · refine ⟨Nat.zero_le _, g0, ?_⟩
    simpa using w0
  · simp (implicitDefEqProofs := false) only [go_sem]
  · rintro i H' ⟨hi, g', ws'⟩
    rcases Nat.lt_or_ge i ls.length with hlt | hge
    · have hlt' : (i : Int) < (ls.length : Int) := by omega
      have h0 : (0 : Int) ≤ (i : Int) := by omega
      obtain ⟨bb, o, cc, x, e1, _, hxl, hp4, hp5⟩ := rep_at (Rep.wr ha ws') i hlt
      cases e1
      rw [hw] at hxl hp4
      obtain ⟨x0, x1, rfl⟩ := len2 hxl
      have p0 := hp4 0 (by omega)
      have p1 := hp4 1 (by omega)
      simp only [Nat.add_zero, List.getElem?_cons_zero, List.getElem?_cons_succ] at p0 p1
      have hw1 := succ_i64 i ls.length hlt (by omega)
      have hsz2 : l.length + ((enc ls.length).length + (((ls.take i).flatMap (encT t)).length + (encT t ls[i]).length)) < 2^38 := by
        have e := flat_split (encT t) ls i hlt
        rw [e] at hsz
        simp only [List.length_append] at hsz
        omega
      simp (implicitDefEqProofs := false) only [go_sem, hlt', h0, p0, p1]
      refine NewP_intro fun H2 hn2 hf2 hs2 => ?_
      simp (implicitDefEqProofs := false) only [go_sem]
      refine Sto_all hn2 rfl (rep_one hp5) fun H3 hn3 hf3 hs3 => ?_
      have hfn := new_fr hf2 hf3
      have hc3 := hn3.cell
      have ws3 := ws'.post hfn
      simp (implicitDefEqProofs := false) only [go_sem, hc3]
      have hcall := hf.2 _ (hok.2 _ (List.getElem_mem hlt)) ws3.1 (Rep.ext hp5 hfn) (by (try simp only [List.length_append]); omega)
      rw [hp] at hcall
      refine ⟨hf.1, hcall.mono ?_⟩
      rintro r H5 ⟨rfl, g5, w5⟩
      have w6 := ws3.trans w5
      simp (implicitDefEqProofs := false) only [go_sem]
      refine loopK_intro (i + 1) (by show ls.length - (i + 1) < ls.length - i; omega) ?_ ⟨hlt, g5, ?_⟩
      · simp (implicitDefEqProofs := false) only [go_sem, hw1]
      · have e : l ++ (enc ls.length ++ (ls.take (i + 1)).flatMap (encT t)) = l ++ (enc ls.length ++ (ls.take i).flatMap (encT t)) ++ encT t ls[i] := by
          rw [flat_succ (encT t) ls i hlt]; simp
        rw [e]; exact w6
    · have hge' : ¬ (i : Int) < (ls.length : Int) := by omega
      simp (implicitDefEqProofs := false) only [go_sem, hge']
      rw [List.take_of_length_le hge] at ws'
      exact ⟨g', ws'⟩

theorem listBts_ok {f : Nat} {t : Ty} (hw : wid t = 1) (hp : ∀ v, argOf t [v] = v) (hf : WOk f t) (ls : List (den t)) (hok : okT (.list t) ls) {H : Heap} {b : Nat} {l : Bs} {g : Option Nat} {a : Option Addr} {c : Nat} (hwr : Wr H b l g)
    (ha : Rep H (b :: g.toList) (datT (.list t) ls) [.slice a ls.length c]) (hsz : l.length + (encT (.list t) ls).length < 2^38) :
    HCalls Tryz.prog 130 #[.pointer (some ⟨b, 0, none⟩), .slice a ls.length c, .func (.func f) #[.pointer (some ⟨b, 0, none⟩)] #[]] H fun r H' => r = .tuple #[] ∧ ∃ g', WrStep H b g H' (l ++ encT (.list t) ls) g' := by
  have hlen : ls.length < 2^63 := hok.1
  have hE : encT (.list t) ls = enc ls.length ++ ls.flatMap (encT t) := rfl
  rw [hE] at hsz ⊢
  have hfl := flat_len (encT_pos t) ls
  simp only [List.length_append] at hsz
  refine calls_of_vc (args := [_, _, _]) Tryz.func130 c130ok (Nat.le_of_ble_eq_true rfl) ?_
  have hx : IntKind.u64.wrap (ls.length : Int) = ((ls.length : Nat) : Int) := wrap_u64_id _ (by omega) (by omega)
  simp (implicitDefEqProofs := false) only [go_sem, c130, hx]
  refine (uint_ok ls.length (by omega) hwr (by omega)).mono ?_
  rintro r H0 ⟨rfl, g0, w0⟩
  simp (implicitDefEqProofs := false) only [go_sem]
  refine vc_loop (fun (i : Nat) H' => i ≤ ls.length ∧ ∃ g', WrStep H b g H' (l ++ (enc ls.length ++ (ls.take i).flatMap (encT t))) g')
    (fun i => [(0, .pointer (some ⟨b, 0, none⟩)), (2, .func (.func f) #[.pointer (some ⟨b, 0, none⟩)] #[]), (15, .slice a ls.length c), (16, .int .i64 ls.length), (17, .int .i64 i)]) (fun i => ls.length - i) 0 ?_ ?_ ?_
  · refine ⟨Nat.zero_le _, g0, ?_⟩
    simpa using w0
  · simp (implicitDefEqProofs := false) only [go_sem]
  · rintro i H' ⟨hi, g', ws'⟩
    rcases Nat.lt_or_ge i ls.length with hlt | hge
    · have hlt' : (i : Int) < (ls.length : Int) := by omega
      have h0 : (0 : Int) ≤ (i : Int) := by omega
      obtain ⟨bb, o, cc, x, e1, _, hxl, hp4, hp5⟩ := rep_at (Rep.wr ha ws') i hlt
      cases e1
      rw [hw] at hxl hp4
      obtain ⟨x0, rfl⟩ := len1 hxl
      have p0 := hp4 0 (by omega)
      simp only [Nat.add_zero, List.getElem?_cons_zero, List.getElem?_cons_succ, Nat.mul_one] at p0
      have hw1 := succ_i64 i ls.length hlt (by omega)
      have hsz2 : l.length + ((enc ls.length).length + (((ls.take i).flatMap (encT t)).length + (encT t ls[i]).length)) < 2^38 := by
        have e := flat_split (encT t) ls i hlt
        rw [e] at hsz
        simp only [List.length_append] at hsz
        omega
      simp (implicitDefEqProofs := false) only [go_sem, hlt', h0, p0]
      have hcall := hf.2 _ (hok.2 _ (List.getElem_mem hlt)) ws'.1 hp5 (by (try simp only [List.length_append]); omega)
      rw [hp] at hcall
      refine ⟨hf.1, hcall.mono ?_⟩
      rintro r H5 ⟨rfl, g5, w5⟩
      have w6 := ws'.trans w5
      simp (implicitDefEqProofs := false) only [go_sem]
      refine loopK_intro (i + 1) (by show ls.length - (i + 1) < ls.length - i; omega) ?_ ⟨hlt, g5, ?_⟩
      · simp (implicitDefEqProofs := false) only [go_sem, hw1]
      · have e : l ++ (enc ls.length ++ (ls.take (i + 1)).flatMap (encT t)) = l ++ (enc ls.length ++ (ls.take i).flatMap (encT t)) ++ encT t ls[i] := by
          rw [flat_succ (encT t) ls i hlt]; simp
        rw [e]; exact w6
    · have hge' : ¬ (i : Int) < (ls.length : Int) := by omega
      simp (implicitDefEqProofs := false) only [go_sem, hge']
      rw [List.take_of_length_le hge] at ws'
      exact ⟨g', ws'⟩

end Go.Proofs.YtdhlibkdcldioaaGreat
