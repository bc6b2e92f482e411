/-
  The scan object of lex: a number.
-/
import Derived.Test.YtjcnhoagccdclaaDoorLexG
import Derived.Test.YtjcnhoagccdclaaDoorErrIs
import Derived.Lib.ParseIntBCases
namespace Go.Proofs.YtjcnhoagccdclaaDoor
open Go.RowKit
open Lx (Byte)

theorem worth_cons (c : Byte) (r : List Byte) (acc : Nat) : Lx.worth acc (c :: r) = Lx.worth (acc * 10 + (c.toNat - 48)) r := by
  unfold Lx.worth; rw [List.foldl_cons]
theorem worth_ge (l : List Byte) (acc : Nat) : acc ≤ Lx.worth acc l := by
  induction l generalizing acc with
  | nil => unfold Lx.worth; rw [List.foldl_nil]; exact Nat.le_refl acc
  | cons c r ih =>
    rw [worth_cons]
    have h := ih (acc * 10 + (c.toNat - 48))
    omega

theorem parseU_digits (M : Nat) (hM : M < 18446744073709551616) (l : List Byte) (acc : Nat) (hl : ∀ c ∈ l, Lx.digit c = true) (ha : acc ≤ M) :
    (Lx.worth acc l ≤ M → Lib.parseUintM M acc l = .ok (Lx.worth acc l)) ∧ (M < Lx.worth acc l → Lib.parseUintM M acc l = .range) := by
  induction l generalizing acc with
  | nil =>
    have h0 : Lx.worth acc [] = acc := by unfold Lx.worth; rw [List.foldl_nil]
    rw [h0]
    exact ⟨fun _ => rfl, fun h => by omega⟩
  | cons c r ih =>
    have hc := hl c (by simp)
    have hd : 48 ≤ c.toNat ∧ c.toNat ≤ 57 := by
      simp only [Lx.digit, Bool.and_eq_true, decide_eq_true_eq, UInt8.le_iff_toNat_le] at hc
      exact hc
    have hw := worth_ge r (acc * 10 + (c.toNat - 48))
    rw [worth_cons]
    simp only [Lib.parseUintM]
    rw [if_pos hd]
    by_cases h1 : 1844674407370955162 ≤ acc
    · rw [if_pos h1]
      exact ⟨fun h => by omega, fun _ => rfl⟩
    · rw [if_neg h1]
      by_cases h2 : M < acc * 10 + (c.toNat - 48)
      · rw [if_pos h2]
        exact ⟨fun h => by omega, fun _ => rfl⟩
      · rw [if_neg h2]
        exact ih _ (fun x hx => hl x (by simp [hx])) (by omega)

theorem parse_digits (l : List Byte) (hn : l ≠ []) (hl : ∀ c ∈ l, Lx.digit c = true) :
    (Lx.worth 0 l ≤ 9223372036854775807 → Lib.parseIntB 64 l = .ok (Lx.worth 0 l : Int)) ∧ (¬ Lx.worth 0 l ≤ 9223372036854775807 → Lib.parseIntB 64 l = .range) := by
  cases l with
  | nil => exact absurd rfl hn
  | cons c r =>
    have hc := hl c (by simp)
    have hd : 48 ≤ c.toNat ∧ c.toNat ≤ 57 := by
      simp only [Lx.digit, Bool.and_eq_true, decide_eq_true_eq, UInt8.le_iff_toNat_le] at hc
      exact hc
    rw [Lib.parseIntB_plain 64 c r (by omega) (by omega)]
    obtain ⟨h1, h2⟩ := parseU_digits (2 ^ 64 - 1) (by decide) (c :: r) 0 hl (by omega)
    unfold Lib.parseUintB
    rw [if_neg (by simp)]
    generalize Lx.worth 0 (c :: r) = n at h1 h2
    have e64 : (2 ^ 64 - 1 : Nat) = 18446744073709551615 := by decide
    have e63 : (2 ^ (64 - 1) : Nat) = 9223372036854775808 := by decide
    constructor
    · intro h
      rw [h1 (by omega)]
      simp only [Lib.signlessC]
      rw [if_neg (by omega)]
    · intro h
      by_cases h3 : n ≤ 2 ^ 64 - 1
      · rw [h1 h3]
        simp only [Lib.signlessC]
        rw [if_pos (by omega)]
      · rw [h2 (by omega)]
        rfl

theorem run_all (f : Byte → Bool) (s : List Byte) : ∀ c ∈ s.take (Lx.run f s), f c = true := by
  induction s with
  | nil => simp [Lx.run]
  | cons c r ih =>
    simp only [Lx.run]
    cases h : f c with
    | false => simp
    | true =>
      intro x hx
      simp only [if_true, List.take_succ_cons, List.mem_cons] at hx
      rcases hx with rfl | hx
      · exact h
      · exact ih x hx

/-- strconv.ErrRange holds an error of errors.New's make. -/
def ErrRangeAt (w : World) : Prop := ∃ b : Addr, w.cell? ⟨1, 0, none⟩ = some (.iface 124 (.pointer (some b)))

/-- What number answers, at a place p where a digit stands. -/
def NumberPost (b : Nat) (text : ByteArray) (p : Nat) (v : Value) (w : World) (e : Ending) (w' : World) : Prop :=
  match Lx.number (text.data.toList.drop p) with
  | .ok x => e = .returned (.tuple #[.int .i64 x.1, .nilIface]) ∧ ScanAt w' b text (p + x.2) v ∧ Chg (· = b) w w'
  | .err c a => ∃ fv, e = .returned (.tuple #[.int .i64 0, fv]) ∧ FaultAt w' fv c (p + a : Nat) ∧ Chg (· = b) w w' ∧ ∃ q, p ≤ q ∧ q ≤ text.size ∧ ScanAt w' b text q v

theorem number_code (text : ByteArray) (p : Nat) (h : p < text.size) (hc : text[p] = 48) (hd : (text.data.toList.drop p).getD 1 0 = 39) :
    Lx.number (text.data.toList.drop p) = Lx.code (text.data.toList.drop (p + 2)) := by
  unfold Lx.number
  rw [if_pos, List.drop_drop]
  rw [List.drop_drop]
  exact ⟨by rw [drop_cons text p h, hc]; rfl, (head_is text p 39 (by decide)).2 hd⟩
theorem number_plain (text : ByteArray) (p : Nat) (h : p < text.size) (hc : ¬ (text[p] = 48 ∧ (text.data.toList.drop p).getD 1 0 = 39)) :
    Lx.number (text.data.toList.drop p) = if Lx.worth 0 ((text.data.toList.drop p).take (Lx.run Lx.digit (text.data.toList.drop p))) ≤ 9223372036854775807 then .ok (Lx.worth 0 ((text.data.toList.drop p).take (Lx.run Lx.digit (text.data.toList.drop p))), Lx.run Lx.digit (text.data.toList.drop p)) else .err 83 0 := by
  unfold Lx.number
  rw [if_neg]
  rw [List.drop_drop]
  rintro ⟨h1, h2⟩
  exact hc ⟨by rw [drop_cons text p h] at h1; simpa using h1, (head_is text p 39 (by decide)).1 h2⟩
theorem extract_part (text : ByteArray) (p n : Nat) : (text.extract p (p + n)).data.toList = (text.data.toList.drop p).take n := by
  simp [Nat.add_sub_cancel_left]
end Go.Proofs.YtjcnhoagccdclaaDoor
