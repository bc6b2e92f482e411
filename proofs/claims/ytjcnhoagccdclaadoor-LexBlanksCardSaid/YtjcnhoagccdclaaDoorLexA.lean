/-
  The small functions of lex: which kind a byte is of.
-/
import Derived.Test.YtjcnhoagccdclaaDoorLexSpec
import Derived.Test.YtjcnhoagccdclaaDoorBase
namespace Go.Proofs.YtjcnhoagccdclaaDoor
open Go.RowKit
open Lx (Byte)

theorem u8_le (a b : Byte) : (decide (a ≤ b)) = decide ((a.toNat : Int) ≤ (b.toNat : Int)) := by
  simp [UInt8.le_iff_toNat_le]
theorem u8_eq (a b : Byte) : (a == b) = ((a.toNat : Int) == (b.toNat : Int)) := by
  rw [Bool.eq_iff_iff]; simp [← UInt8.toNat_inj]; omega

theorem blank_any (c : Byte) (w : World) : Calls Tryd.prog 24 #[.int .u8 (c.toNat : Int)] w fun e w' => e = .returned (.bool (Lx.blank c)) ∧ w = w' := by
  have h : Lx.blank c = ((c.toNat : Int) == 9 || (c.toNat : Int) == 10 || (c.toNat : Int) == 13 || (c.toNat : Int) == 32) := by
    simp only [Lx.blank, u8_eq]; rfl
  rw [h]; clear h
  go_enter Tryd.func24, Tryd.ntmps24
  go_wp2
  all_goals (go_ret; exact ⟨ret_bool (by first | (simp [*]; done) | (simp [*]; omega)), rfl⟩)

theorem digit_any (c : Byte) (w : World) : Calls Tryd.prog 31 #[.int .u8 (c.toNat : Int)] w fun e w' => e = .returned (.bool (Lx.digit c)) ∧ w = w' := by
  have h : Lx.digit c = (decide (48 ≤ (c.toNat : Int)) && decide ((c.toNat : Int) ≤ 57)) := by
    simp only [Lx.digit, u8_le]; rfl
  rw [h]; clear h
  go_enter Tryd.func31, Tryd.ntmps31
  go_wp2
  all_goals (go_ret; exact ⟨ret_bool (by first | (simp [*]; done) | (simp [*]; omega)), rfl⟩)

theorem small_any (c : Byte) (w : World) : Calls Tryd.prog 28 #[.int .u8 (c.toNat : Int)] w fun e w' => e = .returned (.bool (Lx.small c)) ∧ w = w' := by
  have h : Lx.small c = (decide (97 ≤ (c.toNat : Int)) && decide ((c.toNat : Int) ≤ 122)) := by
    simp only [Lx.small, u8_le]; rfl
  rw [h]; clear h
  go_enter Tryd.func28, Tryd.ntmps28
  go_wp2
  all_goals (go_ret; exact ⟨ret_bool (by first | (simp [*]; done) | (simp [*]; omega)), rfl⟩)

theorem capital_any (c : Byte) (w : World) : Calls Tryd.prog 30 #[.int .u8 (c.toNat : Int)] w fun e w' => e = .returned (.bool (Lx.capital c)) ∧ w = w' := by
  have h : Lx.capital c = ((decide (65 ≤ (c.toNat : Int)) && decide ((c.toNat : Int) ≤ 90)) || (c.toNat : Int) == 95) := by
    simp only [Lx.capital, u8_le, u8_eq]; rfl
  rw [h]; clear h
  go_enter Tryd.func30, Tryd.ntmps30
  go_wp2
  all_goals (go_ret; exact ⟨ret_bool (by first | (simp [*]; done) | (simp [*]; omega)), rfl⟩)

theorem letter_any (c : Byte) (w : World) : Calls Tryd.prog 29 #[.int .u8 (c.toNat : Int)] w fun e w' => e = .returned (.bool (Lx.letter c)) ∧ w = w' := by
  unfold Lx.letter
  cases h1 : Lx.small c
  · have H1 := small_any c; rw [h1] at H1; clear h1
    cases h2 : Lx.capital c
    · have H2 := capital_any c; rw [h2] at H2; clear h2
      go_enter Tryd.func29, Tryd.ntmps29
      go_wp2_with (first | (go_at_call 28; refine (H1 _).mono ?_; rintro e w' ⟨rfl, rfl⟩) | (go_at_call 30; refine (H2 _).mono ?_; rintro e w' ⟨rfl, rfl⟩) | (go_at_call 31; refine (digit_any _ _).mono ?_; rintro e w' ⟨rfl, rfl⟩))
      all_goals (go_ret; exact ⟨ret_bool (by simp), rfl⟩)
    · have H2 := capital_any c; rw [h2] at H2; clear h2
      go_enter Tryd.func29, Tryd.ntmps29
      go_wp2_with (first | (go_at_call 28; refine (H1 _).mono ?_; rintro e w' ⟨rfl, rfl⟩) | (go_at_call 30; refine (H2 _).mono ?_; rintro e w' ⟨rfl, rfl⟩))
      all_goals (go_ret; exact ⟨ret_bool (by simp), rfl⟩)
  · have H1 := small_any c; rw [h1] at H1; clear h1
    go_enter Tryd.func29, Tryd.ntmps29
    go_wp2_with (first | (go_at_call 28; refine (H1 _).mono ?_; rintro e w' ⟨rfl, rfl⟩))
    all_goals (go_ret; exact ⟨ret_bool (by simp), rfl⟩)
end Go.Proofs.YtjcnhoagccdclaaDoor
