/-
  Tokens' places: plain Lean.
-/
import Derived.Test.YtjcnhoagccdclaaDoorToks
namespace Go.Proofs.YtjcnhoagccdclaaDoor
open Lx (Byte)

/-- What LexPlaces asks of a token, and of it and the next. -/
structure PlaceOk (T : List Byte) (t : Lx.Tok) : Prop where
  lt : t.at_ < T.length
  quote : t.quoted = true → T[t.at_]? = some 39 ∧ t.kind = 1
  text : t.quoted = false → 0 < t.text.length ∧ t.at_ + t.text.length ≤ T.length ∧ (T.drop t.at_).take t.text.length = t.text
structure PairOk (t u : Lx.Tok) : Prop where
  lt : t.at_ < u.at_
  apart : t.quoted = false → u.apart = decide (t.at_ + t.text.length < u.at_) ∧ t.at_ + t.text.length ≤ u.at_

theorem toks_places {T : List Byte} {p : Nat} {first : Bool} {s : List Byte} {l : List Lx.Tok} (h : Toks p first s l) : s = T.drop p → p ≤ T.length →
    (∀ t r, l = t :: r → p ≤ t.at_ ∧ t.apart = (decide (p < t.at_) || first)) ∧ (∀ i (h : i < l.length), PlaceOk T l[i]) ∧ (∀ i (h : i + 1 < l.length), PairOk l[i] l[i + 1]) := by
  induction h with
  | done => intro _ _; exact ⟨fun t r h => by simp at h, fun i h => by simp at h, fun i h => by simp at h⟩
  | @more p first s n t l h1 h2 h3 h4 h5 ih =>
    intro hs hp
    subst hs
    have hle := skip_le h1
    have hne : 0 < (List.drop n (List.drop p T)).length := List.length_pos_iff.2 h2
    have hf := token_facts (skip_stands h1) h3
    simp only [List.length_drop] at hle hne hf
    rw [List.drop_drop] at hf h3
    obtain ⟨f1, f2, f3, f4⟩ := hf
    obtain ⟨i1, i2, i3⟩ := ih (by rw [List.drop_drop]; congr 1; omega) (by omega)
    refine ⟨?_, ?_, ?_⟩
    · intro t' r' e
      cases e
      refine ⟨Nat.le_add_right _ _, ?_⟩
      show (decide (0 < n) || first) = (decide (p < p + n) || first)
      congr 2; rw [eq_iff_iff]; omega
    · intro i hi
      cases i with
      | zero =>
        refine ⟨by show p + n < T.length; omega, fun hq => ?_, fun hq => ?_⟩
        · obtain ⟨g1, g2⟩ := f3 hq
          rw [List.head?_drop] at g1
          exact ⟨g1, g2⟩
        · have ht := f4 hq
          have hl : t.text.length = t.len := by rw [ht, List.length_take, List.length_drop]; omega
          refine ⟨by show 0 < t.text.length; omega, by show p + n + t.text.length ≤ T.length; omega, ?_⟩
          show (T.drop (p + n)).take t.text.length = t.text
          rw [hl]; exact ht.symm
      | succ i => exact i2 i (by simpa using hi)
    · intro i hi
      cases i with
      | zero =>
        cases l with
        | nil => simp at hi
        | cons u r =>
          obtain ⟨j1, j2⟩ := i1 u r rfl
          refine ⟨by show p + n < u.at_; omega, fun hq => ?_⟩
          have ht := f4 hq
          have hl : t.text.length = t.len := by rw [ht, List.length_take, List.length_drop]; omega
          refine ⟨?_, by show p + n + t.text.length ≤ u.at_; omega⟩
          show u.apart = decide (p + n + t.text.length < u.at_)
          rw [hl]; simpa using j2
      | succ i => exact i3 i (by simpa using hi)

theorem tokens_places {T : List Byte} {l : List Lx.Tok} (h : Lx.tokens T = .ok l) :
    (∀ t r, l = t :: r → t.apart = true) ∧ (∀ i (h : i < l.length), PlaceOk T l[i]) ∧ (∀ i (h : i + 1 < l.length), PairOk l[i] l[i + 1]) := by
  obtain ⟨h1, h2, h3⟩ := toks_places (T := T) (tokens_ok_iff.1 h).2 rfl (Nat.zero_le _)
  exact ⟨fun t r e => by simpa using (h1 t r e).2, h2, h3⟩
theorem tokens_fault {T : List Byte} {c a : Nat} (h : Lx.tokens T = .err c a) : a ≤ T.length := by
  rcases tokens_err_iff.1 h with ⟨h1, _, rfl⟩ | ⟨_, h1⟩
  · omega
  · simpa using fails_le h1
end Go.Proofs.YtjcnhoagccdclaaDoor
