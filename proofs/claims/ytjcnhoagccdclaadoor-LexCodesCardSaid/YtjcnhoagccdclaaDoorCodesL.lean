/-
  0' and a byte; digits: plain Lean.
-/
import Derived.Test.YtjcnhoagccdclaaDoorQuotesL
namespace Go.Proofs.YtjcnhoagccdclaaDoor
open Lx (Byte)

/-- 0' and a byte, as LexCodes writes it. -/
def cText (c : Byte) : List Byte := 48 :: 39 :: (if c = 39 ∨ c = 92 then [c, c] else [c])

theorem code_seen {c : Byte} (h : seen c = true) : Lx.code ((cText c).drop 2) = .ok (c.toNat, (cText c).length) := by
  simp only [seen, Bool.and_eq_true, decide_eq_true_eq] at h
  by_cases h39 : c = 39
  · subst h39; rfl
  · by_cases h92 : c = 92
    · subst h92; rfl
    · have : cText c = [48, 39, c] := by unfold cText; rw [if_neg (by rintro (h | h) <;> contradiction)]
      rw [this]
      show Lx.code [c] = _
      simp only [Lx.code]
      rw [if_neg h39, if_neg h92, if_pos h]; rfl
theorem code_unseen {c : Byte} (h : seen c = false) : Lx.code ((cText c).drop 2) = .err 80 2 := by
  have h39 : c ≠ 39 := by rintro rfl; simp [seen] at h
  have h92 : c ≠ 92 := by rintro rfl; simp [seen] at h
  have : cText c = [48, 39, c] := by unfold cText; rw [if_neg (by rintro (h | h) <;> contradiction)]
  rw [this]
  show Lx.code [c] = _
  simp only [Lx.code]
  rw [if_neg h39, if_neg h92, if_neg]
  simpa [seen] using h
theorem num_cText (c : Byte) : Lx.number (cText c) = Lx.code ((cText c).drop 2) := by
  unfold Lx.number
  rw [if_pos ⟨rfl, rfl⟩]
theorem skip_48 (r : List Byte) : Lx.skip (48 :: r) = .ok 0 := by
  unfold Lx.skip
  rw [if_neg (by decide), if_neg (by decide), if_neg (by rintro ⟨h, _⟩; exact absurd h (by decide))]
theorem tok_digit {c : Byte} {r : List Byte} (h : Lx.digit c = true) : Lx.token (c :: r) = (Lx.number (c :: r)).map fun x => ⟨3, (c :: r).take x.2, x.1, false, x.2⟩ := by
  have h1 : Lx.small c = false := by
    simp only [Lx.digit, Lx.small, Bool.and_eq_true, decide_eq_true_eq, Bool.and_eq_false_iff, decide_eq_false_iff_not] at *
    left; intro h2; have := h.2; simp only [UInt8.le_iff_toNat_le] at *; have e1 : (97 : Byte).toNat = 97 := rfl; have e2 : (57 : Byte).toNat = 57 := rfl; omega
  have h2 : Lx.capital c = false := by
    simp only [Lx.digit, Lx.capital, Bool.and_eq_true, decide_eq_true_eq, Bool.or_eq_false_iff, Bool.and_eq_false_iff, decide_eq_false_iff_not] at *
    refine ⟨?_, ?_⟩
    · left; intro h2; have := h.2; simp only [UInt8.le_iff_toNat_le] at *; have e1 : (65 : Byte).toNat = 65 := rfl; have e2 : (57 : Byte).toNat = 57 := rfl; omega
    · rw [beq_eq_false_iff_ne]; rintro rfl; exact absurd h.2 (by decide)
  simp only [Lx.token]
  rw [if_neg (by simp [h1]), if_neg (by simp [h2]), if_pos h]

theorem tokens_code {c : Byte} (h : seen c = true) : Lx.tokens (cText c) = .ok [⟨3, cText c, c.toNat, 0, false, true⟩] := by
  have hn := num_cText c
  rw [code_seen h] at hn
  have ht : Lx.token (cText c) = .ok ⟨3, cText c, c.toNat, false, (cText c).length⟩ := by
    have := tok_digit (c := 48) (r := (cText c).drop 1) (by decide)
    rw [show (48 : Byte) :: (cText c).drop 1 = cText c from rfl, hn] at this
    rw [this]; simp only [Lx.Res.map, List.take_length]
  refine tokens_ok_iff.2 ⟨by unfold cText; split <;> simp, ?_⟩
  refine Toks.more (n := 0) (p := 0) (first := true) (t := ⟨3, cText c, c.toNat, false, (cText c).length⟩) (l := []) (skip_48 _) (List.cons_ne_nil _ _) ht (by simp) ?_
  refine .done (n := 0) ?_ ?_
  · simp only [Nat.zero_add, List.drop_length]; unfold Lx.skip; rfl
  · simp only [Nat.zero_add, List.drop_length, List.drop_nil]
theorem tokens_code_no {c : Byte} (h : seen c = false) : Lx.tokens (cText c) = .err 80 2 := by
  have hn := num_cText c
  rw [code_unseen h] at hn
  have ht : Lx.token (cText c) = .err 80 2 := by
    have := tok_digit (c := 48) (r := (cText c).drop 1) (by decide)
    rw [show (48 : Byte) :: (cText c).drop 1 = cText c from rfl, hn] at this
    rw [this]; rfl
  refine tokens_err_iff.2 (.inr ⟨by unfold cText; split <;> simp, ?_⟩)
  exact Fails.token (n := 0) (p := 0) (skip_48 _) (List.cons_ne_nil _ _) ht

/-! Digits. -/
/-- A number's decimal digits; of 0 none. -/
def digs (n : Nat) : List Byte := if n = 0 then [] else digs (n / 10) ++ [UInt8.ofNat (48 + n % 10)]
  termination_by n
  decreasing_by omega
def dec (n : Nat) : List Byte := if n = 0 then [48] else digs n

theorem digit_of (d : Nat) (h : d < 10) : Lx.digit (UInt8.ofNat (48 + d)) = true ∧ (UInt8.ofNat (48 + d)).toNat = 48 + d := by
  have : (UInt8.ofNat (48 + d)).toNat = 48 + d := by
    show (48 + d) % 256 = 48 + d; omega
  refine ⟨?_, this⟩
  simp only [Lx.digit, Bool.and_eq_true, decide_eq_true_eq, UInt8.le_iff_toNat_le, this]
  have e1 : (48 : Byte).toNat = 48 := rfl
  have e2 : (57 : Byte).toNat = 57 := rfl
  omega
theorem worth_append (acc : Nat) (a b : List Byte) : Lx.worth acc (a ++ b) = Lx.worth (Lx.worth acc a) b := by
  simp only [Lx.worth, List.foldl_append]
theorem digs_facts (n : Nat) : (∀ c ∈ digs n, Lx.digit c = true) ∧ Lx.worth 0 (digs n) = n ∧ (∀ k, n < 10 ^ k → (digs n).length ≤ k) := by
  induction n using Nat.strongRecOn with
  | ind n ih =>
    unfold digs
    by_cases h : n = 0
    · rw [if_pos h]; subst h; exact ⟨by simp, rfl, by simp⟩
    · rw [if_neg h]
      have hd := digit_of (n % 10) (by omega)
      obtain ⟨h1, h2, h3⟩ := ih (n / 10) (by omega)
      refine ⟨?_, ?_, ?_⟩
      · intro c hc
        rw [List.mem_append, List.mem_singleton] at hc
        rcases hc with hc | rfl
        · exact h1 c hc
        · exact hd.1
      · rw [worth_append, h2]
        simp only [Lx.worth, List.foldl_cons, List.foldl_nil]
        rw [hd.2]; omega
      · intro k hk
        cases k with
        | zero => simp at hk; exact absurd hk h
        | succ k =>
          have := h3 k (by rw [Nat.pow_succ] at hk; omega)
          rw [List.length_append, List.length_singleton]; omega
theorem dec_facts (n : Nat) (hn : n ≤ 9223372036854775807) : (∀ c ∈ dec n, Lx.digit c = true) ∧ Lx.worth 0 (dec n) = n ∧ (dec n).length ≤ 19 ∧ dec n ≠ [] := by
  unfold dec
  by_cases h : n = 0
  · rw [if_pos h]; subst h; exact ⟨by simp; decide, rfl, by simp, by simp⟩
  · rw [if_neg h]
    obtain ⟨h1, h2, h3⟩ := digs_facts n
    refine ⟨h1, h2, h3 19 (Nat.lt_of_le_of_lt hn (by decide)), ?_⟩
    unfold digs; rw [if_neg h]; simp

/-- Noughts and digits. -/
def noughts (k : Nat) (l : List Byte) : List Byte := List.replicate k 48 ++ l
theorem worth_noughts (k : Nat) (l : List Byte) : Lx.worth 0 (noughts k l) = Lx.worth 0 l := by
  unfold noughts
  rw [worth_append]
  congr 1
  induction k with
  | zero => rfl
  | succ k ih => rw [List.replicate_succ]; simpa [Lx.worth] using ih
theorem digits_noughts (k : Nat) {l : List Byte} (h : ∀ c ∈ l, Lx.digit c = true) : ∀ c ∈ noughts k l, Lx.digit c = true := by
  intro c hc
  unfold noughts at hc
  rw [List.mem_append] at hc
  rcases hc with hc | hc
  · rw [(List.mem_replicate.1 hc).2]; decide
  · exact h c hc

theorem skip_digit {c : Byte} {r : List Byte} (h : Lx.digit c = true) : Lx.skip (c :: r) = .ok 0 := by
  unfold Lx.skip
  rw [if_neg, if_neg, if_neg]
  · rintro ⟨rfl, _⟩; exact absurd h (by decide)
  · rintro rfl; exact absurd h (by decide)
  · intro hb; rw [(blank_not hb).2.1] at h; cases h
/-- Digits, and behind them a byte that is none (and no quote). -/
theorem number_digits {d z : List Byte} (h : ∀ c ∈ d, Lx.digit c = true) (hne : d ≠ []) (hz : ∀ c, z.head? = some c → Lx.digit c = false ∧ c ≠ 39) :
    Lx.number (d ++ z) = if Lx.worth 0 d ≤ 9223372036854775807 then .ok (Lx.worth 0 d, d.length) else .err 83 0 := by
  have hr := run_mk (p := Lx.digit) d z h (fun c hc => (hz c hc).1)
  unfold Lx.number
  rw [if_neg]
  · simp only
    rw [hr, List.take_left]
  · rintro ⟨_, h2⟩
    match d, hne with
    | [c], _ => exact (hz 39 h2).2 rfl
    | c :: e :: d, _ =>
      have he : e = 39 := by simpa using h2
      subst he
      exact absurd (h 39 (by simp)) (by decide)
theorem token_digits {d z : List Byte} (h : ∀ c ∈ d, Lx.digit c = true) (hne : d ≠ []) (hz : ∀ c, z.head? = some c → Lx.digit c = false ∧ c ≠ 39) :
    Lx.token (d ++ z) = if Lx.worth 0 d ≤ 9223372036854775807 then .ok ⟨3, d, Lx.worth 0 d, false, d.length⟩ else .err 83 0 := by
  have hn := number_digits h hne hz
  match d, hne with
  | c :: r, _ =>
    rw [List.cons_append] at hn ⊢
    rw [tok_digit (h c List.mem_cons_self), hn]
    split
    · simp only [Lx.Res.map]
      congr 2
      rw [← List.cons_append, List.take_left]
    · rfl

theorem tokens_digits {d : List Byte} (h : ∀ c ∈ d, Lx.digit c = true) (hne : d ≠ []) (hw : Lx.worth 0 d ≤ 9223372036854775807) (hl : d.length ≤ 16384) :
    Lx.tokens d = .ok [⟨3, d, Lx.worth 0 d, 0, false, true⟩] := by
  have ht := token_digits (z := []) h hne (by simp)
  rw [List.append_nil, if_pos hw] at ht
  refine tokens_ok_iff.2 ⟨hl, ?_⟩
  have hs : Lx.skip d = .ok 0 := by
    match d, hne with
    | c :: r, _ => exact skip_digit (h c List.mem_cons_self)
  refine Toks.more (n := 0) (p := 0) (first := true) (t := ⟨3, d, Lx.worth 0 d, false, d.length⟩) (l := []) hs hne ht (by simp) ?_
  refine .done (n := 0) ?_ ?_
  · simp only [Nat.zero_add, List.drop_length]; unfold Lx.skip; rfl
  · simp only [Nat.zero_add, List.drop_length, List.drop_nil]

theorem toks_x (p : Nat) : Toks p false [120] [⟨1, [120], 0, p, false, false⟩] := by
  refine Toks.more (n := 0) (t := ⟨1, [120], 0, false, 1⟩) (l := []) (first := false) (p := p) ?_ (by simp) ?_ (by simp) ?_
  · unfold Lx.skip; rw [if_neg (by decide), if_neg (by decide), if_neg (by decide)]
  · show Lx.token [120] = _
    simp only [Lx.token]
    rw [if_pos (by decide)]; rfl
  · refine .done (n := 0) ?_ rfl
    show Lx.skip [] = _
    unfold Lx.skip; rfl

theorem tokens_digits_x {d : List Byte} (h : ∀ c ∈ d, Lx.digit c = true) (hne : d ≠ []) (hw : Lx.worth 0 d ≤ 9223372036854775807) (hl : d.length ≤ 16000) :
    Lx.tokens (d ++ [120]) = .ok [⟨3, d, Lx.worth 0 d, 0, false, true⟩, ⟨1, [120], 0, d.length, false, false⟩] := by
  have ht := token_digits (z := [120]) h hne (by simp; decide)
  rw [if_pos hw] at ht
  refine tokens_ok_iff.2 ⟨by rw [List.length_append, List.length_singleton]; omega, ?_⟩
  have hs : Lx.skip (d ++ [120]) = .ok 0 := by
    match d, hne with
    | c :: r, _ => exact skip_digit (h c List.mem_cons_self)
  refine Toks.more (n := 0) (p := 0) (first := true) (t := ⟨3, d, Lx.worth 0 d, false, d.length⟩) hs (by simp) ht (by simp) ?_
  simp only [Nat.zero_add, List.drop_left]
  exact toks_x _
theorem tokens_digits_no {d : List Byte} (h : ∀ c ∈ d, Lx.digit c = true) (hne : d ≠ []) (hw : ¬ Lx.worth 0 d ≤ 9223372036854775807) (hl : d.length ≤ 16000) :
    Lx.tokens (d ++ [120]) = .err 83 0 := by
  have ht := token_digits (z := [120]) h hne (by simp; decide)
  rw [if_neg hw] at ht
  refine tokens_err_iff.2 (.inr ⟨by rw [List.length_append, List.length_singleton]; omega, ?_⟩)
  have hs : Lx.skip (d ++ [120]) = .ok 0 := by
    match d, hne with
    | c :: r, _ => exact skip_digit (h c List.mem_cons_self)
  exact Fails.token (n := 0) (p := 0) hs (by simp) ht

/-- The text of digits that LexCodes makes. -/
def dText (n k : Nat) : List Byte := noughts k (dec n)
theorem dText_ok (n k : Nat) (hn : n ≤ 9223372036854775807) (hk : k ≤ 15) : Lx.tokens (dText n k) = .ok [⟨3, dText n k, n, 0, false, true⟩] := by
  obtain ⟨h1, h2, h3, h4⟩ := dec_facts n hn
  have hw : Lx.worth 0 (dText n k) = n := (worth_noughts k _).trans h2
  have := tokens_digits (d := dText n k) (digits_noughts k h1) (by unfold dText noughts; simp [h4]) (by rw [hw]; exact hn) (by unfold dText noughts; rw [List.length_append, List.length_replicate]; omega)
  rw [hw] at this; exact this
theorem dText_x (n k : Nat) (hk : k ≤ 15) (hn : n ≤ 922337203685477580) : Lx.tokens (dText n k ++ [48, 120]) = .ok [⟨3, dText n k ++ [48], (n * 10 : Nat), 0, false, true⟩, ⟨1, [120], 0, (dText n k ++ [48]).length, false, false⟩] := by
  obtain ⟨h1, h2, h3, h4⟩ := dec_facts n (by omega)
  have hw : Lx.worth 0 (dText n k ++ [48]) = n * 10 := by
    rw [worth_append, show Lx.worth 0 (dText n k) = n from (worth_noughts k _).trans h2]; rfl
  have hd : ∀ c ∈ dText n k ++ [48], Lx.digit c = true := by
    intro c hc
    rw [List.mem_append, List.mem_singleton] at hc
    rcases hc with hc | rfl
    · exact digits_noughts k h1 c hc
    · decide
  have := tokens_digits_x (d := dText n k ++ [48]) hd (by simp) (by rw [hw]; omega) (by unfold dText noughts; simp only [List.length_append, List.length_replicate, List.length_singleton]; omega)
  rw [hw, List.append_assoc] at this; exact this
theorem dText_no (n k : Nat) (hn : n ≤ 9223372036854775807) (hk : k ≤ 15) (hb : 922337203685477580 < n) : Lx.tokens (dText n k ++ [48, 120]) = .err 83 0 := by
  obtain ⟨h1, h2, h3, h4⟩ := dec_facts n hn
  have hw : Lx.worth 0 (dText n k ++ [48]) = n * 10 := by
    rw [worth_append, show Lx.worth 0 (dText n k) = n from (worth_noughts k _).trans h2]; rfl
  have hd : ∀ c ∈ dText n k ++ [48], Lx.digit c = true := by
    intro c hc
    rw [List.mem_append, List.mem_singleton] at hc
    rcases hc with hc | rfl
    · exact digits_noughts k h1 c hc
    · decide
  have := tokens_digits_no (d := dText n k ++ [48]) hd (by simp) (by rw [hw]; omega) (by unfold dText noughts; simp only [List.length_append, List.length_replicate, List.length_singleton]; omega)
  rw [List.append_assoc] at this; exact this
end Go.Proofs.YtjcnhoagccdclaaDoor
