/-
  LexCodes: the walk.
-/
import Derived.Test.YtjcnhoagccdclaaDoorDecimal
import Derived.Test.YtjcnhoagccdclaaDoorBytes
import Derived.DataShut
namespace Go.Proofs.YtjcnhoagccdclaaDoor
open Go.RowKit
open Lx (Byte)

theorem seen_iff {c : Byte} : seen c = true ↔ (32 : Int) ≤ (c.toNat : Int) ∧ (c.toNat : Int) ≤ 126 := by
  simp only [seen, Bool.and_eq_true, decide_eq_true_eq, UInt8.le_iff_toNat_le]
  have e1 : (32 : Byte).toNat = 32 := rfl
  have e2 : (126 : Byte).toNat = 126 := rfl
  omega
/-- string([]byte{c}) -/
theorem conv_one (w : World) (c : Byte) (o : Nat) (ho : w.heap.size = o) : (convert 36 9 (.slice (some ⟨o, 0, none⟩) 1 1)).run Tryd.prog (w.alloc (.cells #[.int .u8 (c.toNat : Int)] 5)) = .ok (.string ⟨#[c]⟩) (w.alloc (.cells #[.int .u8 (c.toNat : Int)] 5)) := by
  subst ho
  refine bytes_string (l := [c]) rfl ?_
  intro j hj
  have : j = 0 := by simpa using hj
  subst this
  exact cell_new w _ _
theorem cText_one {c : Byte} (h : ¬ (c = 39 ∨ c = 92)) : ((⟨#[48, 39]⟩ : ByteArray) ++ ⟨#[c]⟩).data.toList = cText c := by unfold cText; rw [if_neg h]; simp
theorem cText_two {c : Byte} (h : c = 39 ∨ c = 92) : ((⟨#[48, 39]⟩ : ByteArray) ++ ⟨#[c]⟩ ++ ⟨#[c]⟩).data.toList = cText c := by unfold cText; rw [if_pos h]; simp
theorem ba_two (l : List Byte) : ((⟨l.toArray⟩ : ByteArray) ++ ⟨#[48, 120]⟩).data.toList = l ++ [48, 120] := by simp
theorem and15 (k : Int) : ∃ j : Nat, j ≤ 15 ∧ bits .and .i64 k 15 = (j : Int) := by
  have h : (BitVec.ofInt 64 k &&& BitVec.ofInt 64 15).toNat ≤ 15 := by
    rw [BitVec.toNat_and]; exact Nat.le_trans Nat.and_le_right (by decide)
  refine ⟨_, h, ?_⟩
  show IntKind.i64.wrap ((BitVec.ofInt 64 k &&& BitVec.ofInt 64 15).toNat : Int) = _
  rw [IntKind.wrap_i64]
  omega

set_option maxRecDepth 100000 in
set_option maxHeartbeats 40000000 in
theorem codes_unseen (c : Byte) (hs : seen c = false) (n k : Int) (hn0 : -9223372036854775808 ≤ n) (hn1 : n ≤ 9223372036854775807) (w : World) (hv : Vars w) :
    Calls Tryd.prog 6 #[.int .u8 (c.toNat : Int), .int .i64 n, .int .i64 k] w fun e w' => e = .returned (.bool true) ∧ Below w.heap.size w w' := by
  have h39 : c ≠ 39 := by rintro rfl; simp [seen] at hs
  have h92 : c ≠ 92 := by rintro rfl; simp [seen] at hs
  have hq : ¬ (c = 39 ∨ c = 92) := by rintro (h | h) <;> contradiction
  have e39 : ((c.toNat : Int) == 39) = false := byte_ne _ 39 (by omega) h39
  have e92 : ((c.toNat : Int) == 92) = false := byte_ne _ 92 (by omega) h92
  have hns : ¬ ((32 : Int) ≤ (c.toNat : Int) ∧ (c.toNat : Int) ≤ 126) := fun h => by rw [seen_iff.2 h] at hs; cases hs
  have ht := tokens_code_no hs
  rw [← cText_one hq] at ht
  have HT := Lib.hid (And.intro ht (And.intro hq hns))
  clear ht hq h39 h92 hs hns
  obtain ⟨j, hj, hbits⟩ := and15 k
  have HN := Lib.hid (And.intro hn0 hn1)
  clear hn0 hn1
  go_enter Tryd.func6, Tryd.ntmps6
  go_wp2_with fail
  refine (alive_any _ hv).mono ?_
  rintro e w1 ⟨rfl, hb1⟩
  have hv1 := hv.below hb1
  have hc1 := conv_one w1 c w1.heap.size rfl
  have hba : Below w1.heap.size w1 (w1.alloc (.cells #[.int .u8 (c.toNat : Int)] 5)) := ((Below.refl w1.heap.size w1).alloc (Nat.le_refl _) _)
  go_wp2_with fail
  refine (tokens_err (hv1.below hba) HT.out.1).mono ?_
  rintro e w2 ⟨fv, rfl, hf, hb2⟩
  have hv2 := (hv1.below hba).below hb2
  have hbw2 := below_step (below_step hb1 hba hb1.size) hb2 (Nat.le_trans hb1.size hba.size)
  have hor : (c.toNat : Int) < 32 ∨ (126 : Int) < (c.toNat : Int) := by have := HT.out.2.2; omega
  rcases hor with h32 | h126
  all_goals
    go_wp2_with fail
    refine (code_fault _ _ _ _ hf hv2.err).mono ?_
    rintro e w3 ⟨rfl, hb3⟩
    have hv3 := hv2.below hb3
    have hbw3 := below_step hbw2 hb3 hbw2.size
    go_wp2_with fail
    refine (at_fault _ _ _ _ (hf.below hb3) hv3.err).mono ?_
    rintro e w4 ⟨rfl, hb4⟩
    have hv4 := hv3.below hb4
    have hbw4 := below_step hbw3 hb4 hbw3.size
    clear hv1 hv2 hv3 hb1 hba hb2 hb3 hb4 hbw2 hbw3
    have hz4 := hbw4.size
    by_cases hneg : n < 0
    · go_wp2
      go_ret
      exact ⟨rfl, hbw4⟩
    · obtain ⟨m, rfl⟩ : ∃ m : Nat, n = m := ⟨n.toNat, by omega⟩
      have HM := Lib.hid (show m ≤ 9223372036854775807 by have := HN.out.2; omega)
      have hdl : (dec m).length ≤ 19 := (dec_facts m HM.out).2.2.1
      go_wp2_with fail
      refine (decimal_any m HM.out _).mono ?_
      rintro e w' ⟨rfl, rfl⟩
      go_wp2
      go_loop [10, 11] (fun d i => ∃ q : Nat, q ≤ j ∧ i = .int .i64 q ∧ d = .string ⟨(noughts q (dec m)).toArray⟩) (fun _ i => j - (intOf i).toNat)
      case atStart => exact ⟨0, Nat.zero_le _, rfl, rfl⟩
      case round =>
        obtain ⟨q, hq, rfl, rfl⟩ := hrel
        by_cases hqj : q < j
        · have hll : (noughts q (dec m)).length ≤ 34 := by unfold noughts; rw [List.length_append, List.length_replicate]; omega
          go_wp2
          go_round
          case rel => exact ⟨q + 1, by omega, by go_num, by rw [cons_bytes]; rfl⟩
          case measure => simp [intOf]; omega
        · have hqe : q = j := by omega
          have HQ := Lib.hid hqe
          clear hqe
          have hll : (noughts q (dec m)).length ≤ 34 := by unfold noughts; rw [List.length_append, List.length_replicate]; omega
          have hd1 := dText_ok m q HM.out (by omega)
          have HD1 := Lib.hid (show Lx.tokens (⟨(noughts q (dec m)).toArray⟩ : ByteArray).data.toList = _ from hd1)
          clear hd1
          by_cases hbig : m ≤ 922337203685477580
          · have hd2 := dText_x m q (by omega) hbig
            have HD2 := Lib.hid hd2
            clear hd2
            have hb0 : ¬ ((922337203685477580 : Int) < (m : Int)) := by omega
            have HBG := Lib.hid hbig
            clear hbig
            go_wp2_with fail
            refine (tokens_ok hv4 HD2.out).mono ?_
            rintro e w5 ⟨vu, rfl, hru, hb5⟩
            have hv5 := hv4.below hb5
            have hbw5 := below_step hbw4 hb5 hbw4.size
            go_wp2_with fail
            refine (tokens_ok hv5 HD1.out).mono ?_
            rintro e w6 ⟨vv, rfl, hrv, hb6⟩
            have hbw6 := below_step hbw5 hb6 hbw5.size
            obtain ⟨gu, cu, rfl, hcu, htu⟩ := ((RowOf.of hru).below hb6).at_ (by simp)
            have u2 : w6.cell? ⟨gu, 2, none⟩ = some (.int .i64 ((m : Int) * 10)) := by have := (htu 0 (by simp)).num; simpa using this
            have u7 : w6.cell? ⟨gu, 7, none⟩ = some (.string ⟨#[120]⟩) := (htu 1 (by simp)).text
            have hcu2 : 2 ≤ cu := hcu
            obtain ⟨gv, cv, rfl, hcv, s0, s1, s2, s3, s4, s5⟩ := RowOf.one (RowOf.of hrv)
            have hs1 : w6.cell? ⟨gv, 1, none⟩ = some (.string ⟨(noughts q (dec m)).toArray⟩) := s1
            have hs2 : w6.cell? ⟨gv, 2, none⟩ = some (.int .i64 (m : Int)) := s2
            clear s0 s1 s2 s3 s4 s5 hru hrv htu hcu
            go_wp2
            go_ret
            exact ⟨by first | rfl | exact ret_bool (by simp), hbw6⟩
          · have hd2 := dText_no m q HM.out (by omega) (by omega)
            rw [show dText m q = noughts q (dec m) from rfl, ← ba_two] at hd2
            have HD2 := Lib.hid hd2
            clear hd2
            have hb0 : (922337203685477580 : Int) < (m : Int) := by omega
            have HBG := Lib.hid hbig
            clear hbig
            go_wp2_with fail
            refine (tokens_err hv4 HD2.out).mono ?_
            rintro e w5 ⟨fu, rfl, hfu, hb5⟩
            have hv5 := hv4.below hb5
            have hbw5 := below_step hbw4 hb5 hbw4.size
            go_wp2_with fail
            refine (tokens_ok hv5 HD1.out).mono ?_
            rintro e w6 ⟨vv, rfl, hrv, hb6⟩
            have hv6 := hv5.below hb6
            have hbw6 := below_step hbw5 hb6 hbw5.size
            obtain ⟨gv, cv, rfl, hcv, s0, s1, s2, s3, s4, s5⟩ := RowOf.one (RowOf.of hrv)
            have hs1 : w6.cell? ⟨gv, 1, none⟩ = some (.string ⟨(noughts q (dec m)).toArray⟩) := s1
            have hs2 : w6.cell? ⟨gv, 2, none⟩ = some (.int .i64 (m : Int)) := s2
            clear s0 s1 s2 s3 s4 s5 hrv
            go_wp2_with fail
            refine (code_fault _ _ _ _ (hfu.below hb6) hv6.err).mono ?_
            rintro e w7 ⟨rfl, hb7⟩
            have hv7 := hv6.below hb7
            have hbw7 := below_step hbw6 hb7 hbw6.size
            go_wp2_with fail
            refine (at_fault _ _ _ _ ((hfu.below hb6).below hb7) hv7.err).mono ?_
            rintro e w8 ⟨rfl, hb8⟩
            go_wp2
            go_ret
            exact ⟨rfl, below_step hbw7 hb8 hbw7.size⟩

set_option maxRecDepth 100000 in
set_option maxHeartbeats 40000000 in
theorem codes_plain (c : Byte) (hs : seen c = true) (hq : ¬ (c = 39 ∨ c = 92)) (n k : Int) (hn0 : -9223372036854775808 ≤ n) (hn1 : n ≤ 9223372036854775807) (w : World) (hv : Vars w) :
    Calls Tryd.prog 6 #[.int .u8 (c.toNat : Int), .int .i64 n, .int .i64 k] w fun e w' => e = .returned (.bool true) ∧ Below w.heap.size w w' := by
  have e39 : ((c.toNat : Int) == 39) = false := byte_ne _ 39 (by omega) (fun h => hq (.inl h))
  have e92 : ((c.toNat : Int) == 92) = false := byte_ne _ 92 (by omega) (fun h => hq (.inr h))
  obtain ⟨h32, h126⟩ := seen_iff.1 hs
  have ht := tokens_code hs
  rw [← cText_one hq] at ht
  have HT := Lib.hid (And.intro ht hq)
  clear ht hq hs
  obtain ⟨j, hj, hbits⟩ := and15 k
  have HN := Lib.hid (And.intro hn0 hn1)
  clear hn0 hn1
  go_enter Tryd.func6, Tryd.ntmps6
  go_wp2_with fail
  refine (alive_any _ hv).mono ?_
  rintro e w1 ⟨rfl, hb1⟩
  have hv1 := hv.below hb1
  have hc1 := conv_one w1 c w1.heap.size rfl
  have hba : Below w1.heap.size w1 (w1.alloc (.cells #[.int .u8 (c.toNat : Int)] 5)) := ((Below.refl w1.heap.size w1).alloc (Nat.le_refl _) _)
  go_wp2_with fail
  refine (tokens_ok (hv1.below hba) HT.out.1).mono ?_
  rintro e w4 ⟨v, rfl, hr, hb2⟩
  have hv4 := (hv1.below hba).below hb2
  have hbw4 := below_step (below_step hb1 hba hb1.size) hb2 (Nat.le_trans hb1.size hba.size)
  obtain ⟨g, cap, rfl, hcap, t0, t1, t2, t3, t4, t5⟩ := RowOf.one (RowOf.of hr)
  have t1' : w4.cell? ⟨g, 1, none⟩ = some (.string (⟨#[48, 39]⟩ ++ ⟨#[c]⟩)) := by
    rw [t1]
    try congr 2
  clear t1 t3 t4 t5 hr
  have hz4 := hbw4.size
  all_goals
    clear hv1 hb1 hba hb2
    by_cases hneg : n < 0
    · go_wp2
      go_ret
      exact ⟨rfl, hbw4⟩
    · obtain ⟨m, rfl⟩ : ∃ m : Nat, n = m := ⟨n.toNat, by omega⟩
      have HM := Lib.hid (show m ≤ 9223372036854775807 by have := HN.out.2; omega)
      have hdl : (dec m).length ≤ 19 := (dec_facts m HM.out).2.2.1
      go_wp2_with fail
      refine (decimal_any m HM.out _).mono ?_
      rintro e w' ⟨rfl, rfl⟩
      go_wp2
      go_loop [10, 11] (fun d i => ∃ q : Nat, q ≤ j ∧ i = .int .i64 q ∧ d = .string ⟨(noughts q (dec m)).toArray⟩) (fun _ i => j - (intOf i).toNat)
      case atStart => exact ⟨0, Nat.zero_le _, rfl, rfl⟩
      case round =>
        obtain ⟨q, hq, rfl, rfl⟩ := hrel
        by_cases hqj : q < j
        · have hll : (noughts q (dec m)).length ≤ 34 := by unfold noughts; rw [List.length_append, List.length_replicate]; omega
          go_wp2
          go_round
          case rel => exact ⟨q + 1, by omega, by go_num, by rw [cons_bytes]; rfl⟩
          case measure => simp [intOf]; omega
        · have hqe : q = j := by omega
          have HQ := Lib.hid hqe
          clear hqe
          have hll : (noughts q (dec m)).length ≤ 34 := by unfold noughts; rw [List.length_append, List.length_replicate]; omega
          have hd1 := dText_ok m q HM.out (by omega)
          have HD1 := Lib.hid (show Lx.tokens (⟨(noughts q (dec m)).toArray⟩ : ByteArray).data.toList = _ from hd1)
          clear hd1
          by_cases hbig : m ≤ 922337203685477580
          · have hd2 := dText_x m q (by omega) hbig
            have HD2 := Lib.hid hd2
            clear hd2
            have hb0 : ¬ ((922337203685477580 : Int) < (m : Int)) := by omega
            have HBG := Lib.hid hbig
            clear hbig
            go_wp2_with fail
            refine (tokens_ok hv4 HD2.out).mono ?_
            rintro e w5 ⟨vu, rfl, hru, hb5⟩
            have hv5 := hv4.below hb5
            have hbw5 := below_step hbw4 hb5 hbw4.size
            go_wp2_with fail
            refine (tokens_ok hv5 HD1.out).mono ?_
            rintro e w6 ⟨vv, rfl, hrv, hb6⟩
            have hbw6 := below_step hbw5 hb6 hbw5.size
            obtain ⟨gu, cu, rfl, hcu, htu⟩ := ((RowOf.of hru).below hb6).at_ (by simp)
            have u2 : w6.cell? ⟨gu, 2, none⟩ = some (.int .i64 ((m : Int) * 10)) := by have := (htu 0 (by simp)).num; simpa using this
            have u7 : w6.cell? ⟨gu, 7, none⟩ = some (.string ⟨#[120]⟩) := (htu 1 (by simp)).text
            have hcu2 : 2 ≤ cu := hcu
            obtain ⟨gv, cv, rfl, hcv, s0, s1, s2, s3, s4, s5⟩ := RowOf.one (RowOf.of hrv)
            have hs1 : w6.cell? ⟨gv, 1, none⟩ = some (.string ⟨(noughts q (dec m)).toArray⟩) := s1
            have hs2 : w6.cell? ⟨gv, 2, none⟩ = some (.int .i64 (m : Int)) := s2
            clear s0 s1 s2 s3 s4 s5 hru hrv htu hcu
            go_wp2
            go_ret
            exact ⟨by first | rfl | exact ret_bool (by simp), hbw6⟩
          · have hd2 := dText_no m q HM.out (by omega) (by omega)
            rw [show dText m q = noughts q (dec m) from rfl, ← ba_two] at hd2
            have HD2 := Lib.hid hd2
            clear hd2
            have hb0 : (922337203685477580 : Int) < (m : Int) := by omega
            have HBG := Lib.hid hbig
            clear hbig
            go_wp2_with fail
            refine (tokens_err hv4 HD2.out).mono ?_
            rintro e w5 ⟨fu, rfl, hfu, hb5⟩
            have hv5 := hv4.below hb5
            have hbw5 := below_step hbw4 hb5 hbw4.size
            go_wp2_with fail
            refine (tokens_ok hv5 HD1.out).mono ?_
            rintro e w6 ⟨vv, rfl, hrv, hb6⟩
            have hv6 := hv5.below hb6
            have hbw6 := below_step hbw5 hb6 hbw5.size
            obtain ⟨gv, cv, rfl, hcv, s0, s1, s2, s3, s4, s5⟩ := RowOf.one (RowOf.of hrv)
            have hs1 : w6.cell? ⟨gv, 1, none⟩ = some (.string ⟨(noughts q (dec m)).toArray⟩) := s1
            have hs2 : w6.cell? ⟨gv, 2, none⟩ = some (.int .i64 (m : Int)) := s2
            clear s0 s1 s2 s3 s4 s5 hrv
            go_wp2_with fail
            refine (code_fault _ _ _ _ (hfu.below hb6) hv6.err).mono ?_
            rintro e w7 ⟨rfl, hb7⟩
            have hv7 := hv6.below hb7
            have hbw7 := below_step hbw6 hb7 hbw6.size
            go_wp2_with fail
            refine (at_fault _ _ _ _ ((hfu.below hb6).below hb7) hv7.err).mono ?_
            rintro e w8 ⟨rfl, hb8⟩
            go_wp2
            go_ret
            exact ⟨rfl, below_step hbw7 hb8 hbw7.size⟩

set_option maxRecDepth 100000 in
set_option maxHeartbeats 40000000 in
theorem codes_q39 (c : Byte) (hq : c = 39) (n k : Int) (hn0 : -9223372036854775808 ≤ n) (hn1 : n ≤ 9223372036854775807) (w : World) (hv : Vars w) :
    Calls Tryd.prog 6 #[.int .u8 (c.toNat : Int), .int .i64 n, .int .i64 k] w fun e w' => e = .returned (.bool true) ∧ Below w.heap.size w w' := by
  have e39 : ((c.toNat : Int) == 39) = true := (byte_eq _ 39 (by omega)).2 hq
  have hs : seen c = true := by subst hq; rfl
  obtain ⟨h32, h126⟩ := seen_iff.1 hs
  have ht := tokens_code hs
  rw [← cText_two (.inl hq)] at ht
  have HT := Lib.hid (And.intro ht hq)
  clear ht hq hs
  obtain ⟨j, hj, hbits⟩ := and15 k
  have HN := Lib.hid (And.intro hn0 hn1)
  clear hn0 hn1
  go_enter Tryd.func6, Tryd.ntmps6
  go_wp2_with fail
  refine (alive_any _ hv).mono ?_
  rintro e w1 ⟨rfl, hb1⟩
  have hv1 := hv.below hb1
  have hc1 := conv_one w1 c w1.heap.size rfl
  have hc2 := conv_one (w1.alloc (.cells #[.int .u8 (c.toNat : Int)] 5)) c (w1.heap.size + 1) (by simp)
  have hba : Below w1.heap.size w1 ((w1.alloc (.cells #[.int .u8 (c.toNat : Int)] 5)).alloc (.cells #[.int .u8 (c.toNat : Int)] 5)) := ((Below.refl w1.heap.size w1).alloc (Nat.le_refl _) _).alloc (by simp) _
  go_wp2_with fail
  refine (tokens_ok (hv1.below hba) HT.out.1).mono ?_
  rintro e w4 ⟨v, rfl, hr, hb2⟩
  have hv4 := (hv1.below hba).below hb2
  have hbw4 := below_step (below_step hb1 hba hb1.size) hb2 (Nat.le_trans hb1.size hba.size)
  obtain ⟨g, cap, rfl, hcap, t0, t1, t2, t3, t4, t5⟩ := RowOf.one (RowOf.of hr)
  have t1' : w4.cell? ⟨g, 1, none⟩ = some (.string (⟨#[48, 39]⟩ ++ ⟨#[c]⟩ ++ ⟨#[c]⟩)) := by
    rw [t1]
    try congr 2
  clear t1 t3 t4 t5 hr
  have hz4 := hbw4.size
  all_goals
    clear hv1 hb1 hba hb2
    by_cases hneg : n < 0
    · go_wp2
      go_ret
      exact ⟨rfl, hbw4⟩
    · obtain ⟨m, rfl⟩ : ∃ m : Nat, n = m := ⟨n.toNat, by omega⟩
      have HM := Lib.hid (show m ≤ 9223372036854775807 by have := HN.out.2; omega)
      have hdl : (dec m).length ≤ 19 := (dec_facts m HM.out).2.2.1
      go_wp2_with fail
      refine (decimal_any m HM.out _).mono ?_
      rintro e w' ⟨rfl, rfl⟩
      go_wp2
      go_loop [10, 11] (fun d i => ∃ q : Nat, q ≤ j ∧ i = .int .i64 q ∧ d = .string ⟨(noughts q (dec m)).toArray⟩) (fun _ i => j - (intOf i).toNat)
      case atStart => exact ⟨0, Nat.zero_le _, rfl, rfl⟩
      case round =>
        obtain ⟨q, hq, rfl, rfl⟩ := hrel
        by_cases hqj : q < j
        · have hll : (noughts q (dec m)).length ≤ 34 := by unfold noughts; rw [List.length_append, List.length_replicate]; omega
          go_wp2
          go_round
          case rel => exact ⟨q + 1, by omega, by go_num, by rw [cons_bytes]; rfl⟩
          case measure => simp [intOf]; omega
        · have hqe : q = j := by omega
          have HQ := Lib.hid hqe
          clear hqe
          have hll : (noughts q (dec m)).length ≤ 34 := by unfold noughts; rw [List.length_append, List.length_replicate]; omega
          have hd1 := dText_ok m q HM.out (by omega)
          have HD1 := Lib.hid (show Lx.tokens (⟨(noughts q (dec m)).toArray⟩ : ByteArray).data.toList = _ from hd1)
          clear hd1
          by_cases hbig : m ≤ 922337203685477580
          · have hd2 := dText_x m q (by omega) hbig
            have HD2 := Lib.hid hd2
            clear hd2
            have hb0 : ¬ ((922337203685477580 : Int) < (m : Int)) := by omega
            have HBG := Lib.hid hbig
            clear hbig
            go_wp2_with fail
            refine (tokens_ok hv4 HD2.out).mono ?_
            rintro e w5 ⟨vu, rfl, hru, hb5⟩
            have hv5 := hv4.below hb5
            have hbw5 := below_step hbw4 hb5 hbw4.size
            go_wp2_with fail
            refine (tokens_ok hv5 HD1.out).mono ?_
            rintro e w6 ⟨vv, rfl, hrv, hb6⟩
            have hbw6 := below_step hbw5 hb6 hbw5.size
            obtain ⟨gu, cu, rfl, hcu, htu⟩ := ((RowOf.of hru).below hb6).at_ (by simp)
            have u2 : w6.cell? ⟨gu, 2, none⟩ = some (.int .i64 ((m : Int) * 10)) := by have := (htu 0 (by simp)).num; simpa using this
            have u7 : w6.cell? ⟨gu, 7, none⟩ = some (.string ⟨#[120]⟩) := (htu 1 (by simp)).text
            have hcu2 : 2 ≤ cu := hcu
            obtain ⟨gv, cv, rfl, hcv, s0, s1, s2, s3, s4, s5⟩ := RowOf.one (RowOf.of hrv)
            have hs1 : w6.cell? ⟨gv, 1, none⟩ = some (.string ⟨(noughts q (dec m)).toArray⟩) := s1
            have hs2 : w6.cell? ⟨gv, 2, none⟩ = some (.int .i64 (m : Int)) := s2
            clear s0 s1 s2 s3 s4 s5 hru hrv htu hcu
            go_wp2
            go_ret
            exact ⟨by first | rfl | exact ret_bool (by simp), hbw6⟩
          · have hd2 := dText_no m q HM.out (by omega) (by omega)
            rw [show dText m q = noughts q (dec m) from rfl, ← ba_two] at hd2
            have HD2 := Lib.hid hd2
            clear hd2
            have hb0 : (922337203685477580 : Int) < (m : Int) := by omega
            have HBG := Lib.hid hbig
            clear hbig
            go_wp2_with fail
            refine (tokens_err hv4 HD2.out).mono ?_
            rintro e w5 ⟨fu, rfl, hfu, hb5⟩
            have hv5 := hv4.below hb5
            have hbw5 := below_step hbw4 hb5 hbw4.size
            go_wp2_with fail
            refine (tokens_ok hv5 HD1.out).mono ?_
            rintro e w6 ⟨vv, rfl, hrv, hb6⟩
            have hv6 := hv5.below hb6
            have hbw6 := below_step hbw5 hb6 hbw5.size
            obtain ⟨gv, cv, rfl, hcv, s0, s1, s2, s3, s4, s5⟩ := RowOf.one (RowOf.of hrv)
            have hs1 : w6.cell? ⟨gv, 1, none⟩ = some (.string ⟨(noughts q (dec m)).toArray⟩) := s1
            have hs2 : w6.cell? ⟨gv, 2, none⟩ = some (.int .i64 (m : Int)) := s2
            clear s0 s1 s2 s3 s4 s5 hrv
            go_wp2_with fail
            refine (code_fault _ _ _ _ (hfu.below hb6) hv6.err).mono ?_
            rintro e w7 ⟨rfl, hb7⟩
            have hv7 := hv6.below hb7
            have hbw7 := below_step hbw6 hb7 hbw6.size
            go_wp2_with fail
            refine (at_fault _ _ _ _ ((hfu.below hb6).below hb7) hv7.err).mono ?_
            rintro e w8 ⟨rfl, hb8⟩
            go_wp2
            go_ret
            exact ⟨rfl, below_step hbw7 hb8 hbw7.size⟩

set_option maxRecDepth 100000 in
set_option maxHeartbeats 40000000 in
theorem codes_q92 (c : Byte) (hq : c = 92) (n k : Int) (hn0 : -9223372036854775808 ≤ n) (hn1 : n ≤ 9223372036854775807) (w : World) (hv : Vars w) :
    Calls Tryd.prog 6 #[.int .u8 (c.toNat : Int), .int .i64 n, .int .i64 k] w fun e w' => e = .returned (.bool true) ∧ Below w.heap.size w w' := by
  have e39 : ((c.toNat : Int) == 39) = false := by subst hq; rfl
  have e92 : ((c.toNat : Int) == 92) = true := (byte_eq _ 92 (by omega)).2 hq
  have hs : seen c = true := by subst hq; rfl
  obtain ⟨h32, h126⟩ := seen_iff.1 hs
  have ht := tokens_code hs
  rw [← cText_two (.inr hq)] at ht
  have HT := Lib.hid (And.intro ht hq)
  clear ht hq hs
  obtain ⟨j, hj, hbits⟩ := and15 k
  have HN := Lib.hid (And.intro hn0 hn1)
  clear hn0 hn1
  go_enter Tryd.func6, Tryd.ntmps6
  go_wp2_with fail
  refine (alive_any _ hv).mono ?_
  rintro e w1 ⟨rfl, hb1⟩
  have hv1 := hv.below hb1
  have hc1 := conv_one w1 c w1.heap.size rfl
  have hc2 := conv_one (w1.alloc (.cells #[.int .u8 (c.toNat : Int)] 5)) c (w1.heap.size + 1) (by simp)
  have hba : Below w1.heap.size w1 ((w1.alloc (.cells #[.int .u8 (c.toNat : Int)] 5)).alloc (.cells #[.int .u8 (c.toNat : Int)] 5)) := ((Below.refl w1.heap.size w1).alloc (Nat.le_refl _) _).alloc (by simp) _
  go_wp2_with fail
  refine (tokens_ok (hv1.below hba) HT.out.1).mono ?_
  rintro e w4 ⟨v, rfl, hr, hb2⟩
  have hv4 := (hv1.below hba).below hb2
  have hbw4 := below_step (below_step hb1 hba hb1.size) hb2 (Nat.le_trans hb1.size hba.size)
  obtain ⟨g, cap, rfl, hcap, t0, t1, t2, t3, t4, t5⟩ := RowOf.one (RowOf.of hr)
  have t1' : w4.cell? ⟨g, 1, none⟩ = some (.string (⟨#[48, 39]⟩ ++ ⟨#[c]⟩ ++ ⟨#[c]⟩)) := by
    rw [t1]
    try congr 2
  clear t1 t3 t4 t5 hr
  have hz4 := hbw4.size
  all_goals
    clear hv1 hb1 hba hb2
    by_cases hneg : n < 0
    · go_wp2
      go_ret
      exact ⟨rfl, hbw4⟩
    · obtain ⟨m, rfl⟩ : ∃ m : Nat, n = m := ⟨n.toNat, by omega⟩
      have HM := Lib.hid (show m ≤ 9223372036854775807 by have := HN.out.2; omega)
      have hdl : (dec m).length ≤ 19 := (dec_facts m HM.out).2.2.1
      go_wp2_with fail
      refine (decimal_any m HM.out _).mono ?_
      rintro e w' ⟨rfl, rfl⟩
      go_wp2
      go_loop [10, 11] (fun d i => ∃ q : Nat, q ≤ j ∧ i = .int .i64 q ∧ d = .string ⟨(noughts q (dec m)).toArray⟩) (fun _ i => j - (intOf i).toNat)
      case atStart => exact ⟨0, Nat.zero_le _, rfl, rfl⟩
      case round =>
        obtain ⟨q, hq, rfl, rfl⟩ := hrel
        by_cases hqj : q < j
        · have hll : (noughts q (dec m)).length ≤ 34 := by unfold noughts; rw [List.length_append, List.length_replicate]; omega
          go_wp2
          go_round
          case rel => exact ⟨q + 1, by omega, by go_num, by rw [cons_bytes]; rfl⟩
          case measure => simp [intOf]; omega
        · have hqe : q = j := by omega
          have HQ := Lib.hid hqe
          clear hqe
          have hll : (noughts q (dec m)).length ≤ 34 := by unfold noughts; rw [List.length_append, List.length_replicate]; omega
          have hd1 := dText_ok m q HM.out (by omega)
          have HD1 := Lib.hid (show Lx.tokens (⟨(noughts q (dec m)).toArray⟩ : ByteArray).data.toList = _ from hd1)
          clear hd1
          by_cases hbig : m ≤ 922337203685477580
          · have hd2 := dText_x m q (by omega) hbig
            have HD2 := Lib.hid hd2
            clear hd2
            have hb0 : ¬ ((922337203685477580 : Int) < (m : Int)) := by omega
            have HBG := Lib.hid hbig
            clear hbig
            go_wp2_with fail
            refine (tokens_ok hv4 HD2.out).mono ?_
            rintro e w5 ⟨vu, rfl, hru, hb5⟩
            have hv5 := hv4.below hb5
            have hbw5 := below_step hbw4 hb5 hbw4.size
            go_wp2_with fail
            refine (tokens_ok hv5 HD1.out).mono ?_
            rintro e w6 ⟨vv, rfl, hrv, hb6⟩
            have hbw6 := below_step hbw5 hb6 hbw5.size
            obtain ⟨gu, cu, rfl, hcu, htu⟩ := ((RowOf.of hru).below hb6).at_ (by simp)
            have u2 : w6.cell? ⟨gu, 2, none⟩ = some (.int .i64 ((m : Int) * 10)) := by have := (htu 0 (by simp)).num; simpa using this
            have u7 : w6.cell? ⟨gu, 7, none⟩ = some (.string ⟨#[120]⟩) := (htu 1 (by simp)).text
            have hcu2 : 2 ≤ cu := hcu
            obtain ⟨gv, cv, rfl, hcv, s0, s1, s2, s3, s4, s5⟩ := RowOf.one (RowOf.of hrv)
            have hs1 : w6.cell? ⟨gv, 1, none⟩ = some (.string ⟨(noughts q (dec m)).toArray⟩) := s1
            have hs2 : w6.cell? ⟨gv, 2, none⟩ = some (.int .i64 (m : Int)) := s2
            clear s0 s1 s2 s3 s4 s5 hru hrv htu hcu
            go_wp2
            go_ret
            exact ⟨by first | rfl | exact ret_bool (by simp), hbw6⟩
          · have hd2 := dText_no m q HM.out (by omega) (by omega)
            rw [show dText m q = noughts q (dec m) from rfl, ← ba_two] at hd2
            have HD2 := Lib.hid hd2
            clear hd2
            have hb0 : (922337203685477580 : Int) < (m : Int) := by omega
            have HBG := Lib.hid hbig
            clear hbig
            go_wp2_with fail
            refine (tokens_err hv4 HD2.out).mono ?_
            rintro e w5 ⟨fu, rfl, hfu, hb5⟩
            have hv5 := hv4.below hb5
            have hbw5 := below_step hbw4 hb5 hbw4.size
            go_wp2_with fail
            refine (tokens_ok hv5 HD1.out).mono ?_
            rintro e w6 ⟨vv, rfl, hrv, hb6⟩
            have hv6 := hv5.below hb6
            have hbw6 := below_step hbw5 hb6 hbw5.size
            obtain ⟨gv, cv, rfl, hcv, s0, s1, s2, s3, s4, s5⟩ := RowOf.one (RowOf.of hrv)
            have hs1 : w6.cell? ⟨gv, 1, none⟩ = some (.string ⟨(noughts q (dec m)).toArray⟩) := s1
            have hs2 : w6.cell? ⟨gv, 2, none⟩ = some (.int .i64 (m : Int)) := s2
            clear s0 s1 s2 s3 s4 s5 hrv
            go_wp2_with fail
            refine (code_fault _ _ _ _ (hfu.below hb6) hv6.err).mono ?_
            rintro e w7 ⟨rfl, hb7⟩
            have hv7 := hv6.below hb7
            have hbw7 := below_step hbw6 hb7 hbw6.size
            go_wp2_with fail
            refine (at_fault _ _ _ _ ((hfu.below hb6).below hb7) hv7.err).mono ?_
            rintro e w8 ⟨rfl, hb8⟩
            go_wp2
            go_ret
            exact ⟨rfl, below_step hbw7 hb8 hbw7.size⟩

theorem codes_walk (x : Int) (hx : (Lit.int .u8 x).wf = true) (n : Int) (hn : (Lit.int .i64 n).wf = true) (k : Int) (_ : (Lit.int .i64 k).wf = true) (w : World) (hv : Vars w) :
    Calls Tryd.prog 6 #[.int .u8 x, .int .i64 n, .int .i64 k] w fun e w' => e = .returned (.bool true) ∧ Below w.heap.size w w' := by
  have hb := (Lit.wf_int_iff .u8 x).1 hx
  have hi := (Lit.wf_int_iff .i64 n).1 hn
  have h0 : 0 ≤ x ∧ x ≤ 255 := hb
  have h1 : -9223372036854775808 ≤ n ∧ n ≤ 9223372036854775807 := hi
  clear hb hi hx hn
  obtain ⟨c, rfl⟩ : ∃ c : Byte, x = (c.toNat : Int) := ⟨UInt8.ofNat x.toNat, by
    have : (UInt8.ofNat x.toNat).toNat = x.toNat % 256 := rfl
    omega⟩
  by_cases hs : seen c = true
  · by_cases h39 : c = 39
    · exact codes_q39 c h39 n k h1.1 h1.2 w hv
    · by_cases h92 : c = 92
      · exact codes_q92 c h92 n k h1.1 h1.2 w hv
      · exact codes_plain c hs (by rintro (h | h) <;> contradiction) n k h1.1 h1.2 w hv
  · exact codes_unseen c (by simpa using hs) n k h1.1 h1.2 w hv
end Go.Proofs.YtjcnhoagccdclaaDoor
