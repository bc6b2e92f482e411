/-
  Decimal: a number's digits.
-/
import Derived.Test.YtjcnhoagccdclaaDoorCodesL
import Derived.Test.YtjcnhoagccdclaaDoorPlacesW
namespace Go.Proofs.YtjcnhoagccdclaaDoor
open Go.RowKit
open Lx (Byte)

theorem encode_digit (d : Nat) (hd : d < 10) : Utf8.encode ((48 : Int) + (d : Int)) = ⟨#[UInt8.ofNat (48 + d)]⟩ := by
  have : d = 0 ∨ d = 1 ∨ d = 2 ∨ d = 3 ∨ d = 4 ∨ d = 5 ∨ d = 6 ∨ d = 7 ∨ d = 8 ∨ d = 9 := by omega
  rcases this with rfl | rfl | rfl | rfl | rfl | rfl | rfl | rfl | rfl | rfl <;> rfl
theorem cons_bytes (b : Byte) (l : List Byte) : (⟨#[b]⟩ : ByteArray) ++ ⟨l.toArray⟩ = ⟨(b :: l).toArray⟩ := by
  apply ByteArray.ext
  simp

theorem dec_less {m : Nat} (h : (0 : Int) < (m : Int)) : (intOf (.int .i64 ((m : Int) / 10))).toNat < (intOf (.int .i64 (m : Int))).toNat := by
  show ((m : Int) / 10).toNat < ((m : Int)).toNat
  omega
theorem enc_small {a b : Nat} (h : a ≤ 4) (h2 : b ≤ 19) : ¬ 9223372036854775807 < a + b := by omega
theorem digs_pos {m : Nat} (h : ¬ m = 0) : digs m = digs (m / 10) ++ [UInt8.ofNat (48 + m % 10)] := by
  rw [digs, if_neg h]

set_option maxRecDepth 100000 in
set_option maxHeartbeats 4000000 in
theorem decimal_any (n : Nat) (hn : n ≤ 9223372036854775807) (w : World) :
    Calls Tryd.prog 14 #[.int .i64 (n : Int)] w fun e w' => e = .returned (.string ⟨(dec n).toArray⟩) ∧ w = w' := by
  by_cases h0 : n = 0
  · subst h0
    go_enter Tryd.func14, Tryd.ntmps14
    go_wp2
    go_ret
    exact ⟨rfl, rfl⟩
  · have hd : dec n = digs n := by unfold dec; rw [if_neg h0]
    have HD := Lib.hid hd
    have hl : (digs n).length ≤ 19 := (digs_facts n).2.2 19 (Nat.lt_of_le_of_lt hn (by decide))
    have HL := Lib.hid hl
    clear hd hl
    have hn0 : ¬ ((n : Int) = 0) := by omega
    have hn1 : ((n : Int) == 0) = false := by rw [beq_eq_false_iff_ne]; exact hn0
    have hn2 : ¬ ((n : Int) < 0) := by omega
    have hn3 : decide ((n : Int) < 0) = false := by rw [decide_eq_false_iff_not]; exact hn2
    go_enter Tryd.func14, Tryd.ntmps14
    go_wp2
    go_loop [0, 3] (fun x s => ∃ (m : Nat) (l : List Byte), m ≤ n ∧ x = .int .i64 m ∧ s = .string ⟨l.toArray⟩ ∧ digs n = digs m ++ l) (fun x _ => (intOf x).toNat)
    case atStart => exact ⟨n, [], Nat.le_refl _, rfl, rfl, by simp⟩
    case round =>
      obtain ⟨m, l, hm, rfl, rfl, hr⟩ := hrel
      have hll : l.length ≤ 19 := by have h1 := HL.out; rw [hr, List.length_append] at h1; omega
      have HR := Lib.hid hr
      clear hr
      by_cases hm0 : m = 0
      · subst hm0
        go_wp2
        go_ret
        refine ⟨?_, rfl⟩
        rw [HD.out, HR.out, show digs 0 = [] from by unfold digs; rfl]
        rfl
      · have hm1 : ((m : Int) == 0) = false := by rw [beq_eq_false_iff_ne]; omega
        have hm2 : ((m : Int) != 0) = true := by rw [bne, hm1]; rfl
        have hmp : (0 : Int) < (m : Int) := by omega
        have hmn : (0 : Int) ≤ (m : Int) % 10 := by omega
        have hm9 : (m : Int) % 10 ≤ 9 := by omega
        obtain ⟨b, hb⟩ : ∃ b, UInt8.ofNat (48 + m % 10) = b := ⟨_, rfl⟩
        have hc : Utf8.encode ((48 : Int) + (m : Int) % 10) = ⟨#[b]⟩ := by
          have := encode_digit (m % 10) (Nat.mod_lt _ (by decide))
          rw [hb] at this
          rw [← this]; congr 1
        have hes : (Utf8.encode ((48 : Int) + (m : Int) % 10)).size ≤ 4 := by rw [hc]; show (#[b] : Array Byte).size ≤ 4; simp
        have HB := Lib.hid (And.intro hb (And.intro hm0 (And.intro hc hes)))
        clear hb hm0 hc hes
        go_wp2
        · exact absurd (show 9223372036854775807 < (Utf8.encode ((48 : Int) + (m : Int) % 10)).size + l.length by assumption) (enc_small HB.out.2.2.2 hll)
        go_round
        case rel =>
          refine ⟨m / 10, b :: l, by omega, by go_num, by rw [HB.out.2.2.1, cons_bytes], ?_⟩
          rw [HR.out, digs_pos HB.out.2.1, HB.out.1, List.append_assoc]; rfl
        case measure => exact dec_less hmp
end Go.Proofs.YtjcnhoagccdclaaDoor
