/-
  A text's tokens as a relation: what they are, and where they fail.
-/
import Derived.Test.YtjcnhoagccdclaaDoorLexK
namespace Go.Proofs.YtjcnhoagccdclaaDoor
open Lx (Byte)

/-- What tokenising says, step by step. -/
inductive Toks : Nat → Bool → List Byte → List Lx.Tok → Prop
  | done {p first s n} : Lx.skip s = .ok n → s.drop n = [] → Toks p first s []
  | more {p first s n t l} : Lx.skip s = .ok n → s.drop n ≠ [] → Lx.token (s.drop n) = .ok t → ¬ (t.kind ≤ 2 ∧ t.text.length > 64) →
      Toks (p + n + t.len) false (s.drop (n + t.len)) l → Toks p first s (⟨t.kind, t.text, t.num, p + n, t.quoted, decide (0 < n) || first⟩ :: l)

inductive Fails : Nat → List Byte → Nat → Nat → Prop
  | skip {p s c a} : Lx.skip s = .err c a → Fails p s c (p + a)
  | token {p s n c a} : Lx.skip s = .ok n → s.drop n ≠ [] → Lx.token (s.drop n) = .err c a → Fails p s c (p + n + a)
  | long {p s n t} : Lx.skip s = .ok n → s.drop n ≠ [] → Lx.token (s.drop n) = .ok t → t.kind ≤ 2 ∧ t.text.length > 64 → Fails p s 2 (p + n)
  | more {p s n t c a} : Lx.skip s = .ok n → s.drop n ≠ [] → Lx.token (s.drop n) = .ok t → ¬ (t.kind ≤ 2 ∧ t.text.length > 64) →
      Fails (p + n + t.len) (s.drop (n + t.len)) c a → Fails p s c a

theorem skip_le {s : List Byte} {n : Nat} (h : Lx.skip s = .ok n) : n ≤ s.length := (skip_stop _ _ _ (Nat.le_refl _) h).1
theorem skip_stands {s : List Byte} {n : Nat} (h : Lx.skip s = .ok n) : Stands (s.drop n) := (skip_stop _ _ _ (Nat.le_refl _) h).2
theorem tok_len {s : List Byte} {t : Lx.Raw} (hs : Stands s) (h : Lx.token s = .ok t) : 0 < t.len ∧ t.len ≤ s.length :=
  token_len h (fun r hr hh => (hs 47 r hr).2.2 ⟨rfl, hh⟩)

theorem map_err {α β : Type} {r : Lx.Res α} {f : α → β} {c a : Nat} : r.map f = .err c a ↔ r = .err c a := by
  cases r <;> simp [Lx.Res.map]

theorem toksF_iff (k : Nat) : ∀ (p : Nat) (first : Bool) (s : List Byte), s.length < k →
    (∀ l, Lx.toksF k p first s = .ok l ↔ Toks p first s l) ∧ (∀ c a, Lx.toksF k p first s = .err c a ↔ Fails p s c a) := by
  induction k with
  | zero => intro p first s h; omega
  | succ k ih =>
    intro p first s hk
    cases hs : Lx.skip s with
    | err c a =>
      have e : Lx.toksF (k + 1) p first s = .err c (p + a) := by simp only [Lx.toksF, hs]
      rw [e]
      refine ⟨fun l => ⟨fun h => (by cases h), fun h => ?_⟩, fun c' a' => ⟨fun h => ?_, fun h => ?_⟩⟩
      · cases h with
        | done h1 => rw [hs] at h1; cases h1
        | more h1 => rw [hs] at h1; cases h1
      · cases h; exact .skip hs
      · cases h with
        | skip h1 => rw [hs] at h1; cases h1; rfl
        | token h1 => rw [hs] at h1; cases h1
        | long h1 => rw [hs] at h1; cases h1
        | more h1 => rw [hs] at h1; cases h1
    | ok n =>
      by_cases hd : s.drop n = []
      · have e : Lx.toksF (k + 1) p first s = .ok [] := by simp only [Lx.toksF, hs, if_pos hd]
        rw [e]
        refine ⟨fun l => ⟨fun h => ?_, fun h => ?_⟩, fun c' a' => ⟨fun h => (by cases h), fun h => ?_⟩⟩
        · cases h; exact .done hs hd
        · cases h with
          | done h1 => rfl
          | more h1 h2 => rw [hs] at h1; cases h1; exact absurd hd h2
        · cases h with
          | skip h1 => rw [hs] at h1; cases h1
          | token h1 h2 => rw [hs] at h1; cases h1; exact absurd hd h2
          | long h1 h2 => rw [hs] at h1; cases h1; exact absurd hd h2
          | more h1 h2 => rw [hs] at h1; cases h1; exact absurd hd h2
      · cases ht : Lx.token (s.drop n) with
        | err c a =>
          have e : Lx.toksF (k + 1) p first s = .err c (p + n + a) := by simp only [Lx.toksF, hs, if_neg hd, ht]
          rw [e]
          refine ⟨fun l => ⟨fun h => (by cases h), fun h => ?_⟩, fun c' a' => ⟨fun h => ?_, fun h => ?_⟩⟩
          · cases h with
            | done h1 h2 => rw [hs] at h1; cases h1; exact absurd h2 hd
            | more h1 _ h3 => rw [hs] at h1; cases h1; rw [ht] at h3; cases h3
          · cases h; exact .token hs hd ht
          · cases h with
            | skip h1 => rw [hs] at h1; cases h1
            | token h1 h2 h3 => rw [hs] at h1; cases h1; rw [ht] at h3; cases h3; rfl
            | long h1 h2 h3 => rw [hs] at h1; cases h1; rw [ht] at h3; cases h3
            | more h1 h2 h3 => rw [hs] at h1; cases h1; rw [ht] at h3; cases h3
        | ok t =>
          by_cases hl : t.kind ≤ 2 ∧ t.text.length > 64
          · have e : Lx.toksF (k + 1) p first s = .err 2 (p + n) := by simp only [Lx.toksF, hs, if_neg hd, ht, if_pos hl]
            rw [e]
            refine ⟨fun l => ⟨fun h => (by cases h), fun h => ?_⟩, fun c' a' => ⟨fun h => ?_, fun h => ?_⟩⟩
            · cases h with
              | done h1 h2 => rw [hs] at h1; cases h1; exact absurd h2 hd
              | more h1 _ h3 h4 => rw [hs] at h1; cases h1; rw [ht] at h3; cases h3; exact absurd hl h4
            · cases h; exact .long hs hd ht hl
            · cases h with
              | skip h1 => rw [hs] at h1; cases h1
              | token h1 h2 h3 => rw [hs] at h1; cases h1; rw [ht] at h3; cases h3
              | long h1 h2 h3 => rw [hs] at h1; cases h1; rfl
              | more h1 h2 h3 h4 => rw [hs] at h1; cases h1; rw [ht] at h3; cases h3; exact absurd hl h4
          · have e : Lx.toksF (k + 1) p first s = (Lx.toksF k (p + n + t.len) false (s.drop (n + t.len))).map fun l => ⟨t.kind, t.text, t.num, p + n, t.quoted, decide (0 < n) || first⟩ :: l := by
              simp only [Lx.toksF, hs, if_neg hd, ht, if_neg hl]
            have hlen := tok_len (skip_stands hs) ht
            have hle := skip_le hs
            have ⟨ih1, ih2⟩ := ih (p + n + t.len) false (s.drop (n + t.len)) (by simp only [List.length_drop] at hlen ⊢; omega)
            rw [e]
            refine ⟨fun l => ⟨fun h => ?_, fun h => ?_⟩, fun c' a' => ⟨fun h => ?_, fun h => ?_⟩⟩
            · obtain ⟨l', h1, rfl⟩ := map_ok h
              exact .more hs hd ht hl ((ih1 _).1 h1)
            · cases h with
              | done h1 h2 => rw [hs] at h1; cases h1; exact absurd h2 hd
              | more h1 _ h3 h4 h5 =>
                rw [hs] at h1; cases h1; rw [ht] at h3; cases h3
                rw [(ih1 _).2 h5]; rfl
            · exact .more hs hd ht hl ((ih2 _ _).1 (map_err.1 h))
            · cases h with
              | skip h1 => rw [hs] at h1; cases h1
              | token h1 h2 h3 => rw [hs] at h1; cases h1; rw [ht] at h3; cases h3
              | long h1 h2 h3 h4 => rw [hs] at h1; cases h1; rw [ht] at h3; cases h3; exact absurd h4 hl
              | more h1 h2 h3 h4 h5 =>
                rw [hs] at h1; cases h1; rw [ht] at h3; cases h3
                rw [(ih2 _ _).2 h5]; rfl

theorem tokens_ok_iff {s : List Byte} {l : List Lx.Tok} : Lx.tokens s = .ok l ↔ s.length ≤ 16384 ∧ Toks 0 true s l := by
  unfold Lx.tokens
  by_cases h : s.length > 16384
  · rw [if_pos h]; constructor
    · intro h; cases h
    · intro h; omega
  · rw [if_neg h, (toksF_iff _ 0 true s (Nat.lt_succ_self _)).1]
    exact ⟨fun x => ⟨by omega, x⟩, fun x => x.2⟩
theorem tokens_err_iff {s : List Byte} {c a : Nat} : Lx.tokens s = .err c a ↔ (s.length > 16384 ∧ c = 2 ∧ a = 0) ∨ (s.length ≤ 16384 ∧ Fails 0 s c a) := by
  unfold Lx.tokens
  by_cases h : s.length > 16384
  · rw [if_pos h]; constructor
    · intro h; cases h; exact .inl ⟨by assumption, rfl, rfl⟩
    · rintro (⟨_, rfl, rfl⟩ | ⟨h1, _⟩)
      · rfl
      · omega
  · rw [if_neg h, (toksF_iff _ 0 true s (Nat.lt_succ_self _)).2]
    constructor
    · intro x; exact .inr ⟨by omega, x⟩
    · rintro (⟨h1, _⟩ | ⟨_, x⟩)
      · exact absurd h1 h
      · exact x

/-- What a token that was read is like. -/
theorem token_facts {s : List Byte} {t : Lx.Raw} (hs : Stands s) (h : Lx.token s = .ok t) :
    0 < t.len ∧ t.len ≤ s.length ∧ (t.quoted = true → s.head? = some 39 ∧ t.kind = 1) ∧ (t.quoted = false → t.text = s.take t.len) := by
  have hl := tok_len hs h
  refine ⟨hl.1, hl.2, ?_⟩
  cases s with
  | nil => simp [Lx.token] at h
  | cons c r =>
    simp only [Lx.token] at h
    split at h
    · injection h with h; subst h; simp [Lx.plain]
    · split at h
      · injection h with h; subst h; simp [Lx.plain]
      · split at h
        · obtain ⟨x, _, rfl⟩ := map_ok h; simp
        · split at h
          · injection h with h; subst h; simp [Lx.plain]
          · split at h
            · injection h with h; subst h; simp [Lx.plain]
            · split at h
              · rename_i h39
                obtain ⟨x, _, rfl⟩ := map_ok h; simp [h39]
              · split at h
                · injection h with h; subst h; simp [Lx.plain]
                · split at h
                  · injection h with h; subst h; simp [Lx.plain]
                  · cases h
theorem skip_err_le : ∀ (k : Nat) (s : List Byte) (c a : Nat), s.length ≤ k → Lx.skip s = .err c a → a ≤ s.length := by
  intro k
  induction k with
  | zero =>
    intro s c a hk h
    cases s with
    | nil => unfold Lx.skip at h; cases h
    | cons c r => simp at hk
  | succ k ih =>
    intro s c a hk h
    have shift : ∀ {j : Nat} {r : Lx.Res Nat}, r.shift j = .err c a → ∃ b, r = .err c b ∧ a = j + b := by
      intro j r h; cases r with
      | ok _ => simp [Lx.Res.shift] at h
      | err c' b => simp only [Lx.Res.shift, Lx.Res.err.injEq] at h; obtain ⟨rfl, rfl⟩ := h; exact ⟨b, rfl, rfl⟩
    cases s with
    | nil => unfold Lx.skip at h; cases h
    | cons d r =>
      simp only [List.length_cons] at hk ⊢
      unfold Lx.skip at h
      split at h
      · obtain ⟨b, hb, rfl⟩ := shift (map_err.1 h)
        have := ih r c b (by omega) hb; omega
      · split at h
        · simp only at h
          obtain ⟨b, hb, rfl⟩ := shift (map_err.1 h)
          have hl := Lx.run_le (fun c => c != 10) r
          have := ih _ c b (by simp only [List.length_drop]; omega) hb
          simp only [List.length_drop] at this; omega
        · split at h
          · split at h
            · cases h; omega
            · rename_i n hcl
              obtain ⟨b, hb, rfl⟩ := shift (map_err.1 h)
              have hl := close_le _ _ hcl
              simp only [List.length_drop] at hl
              have := ih _ c b (by simp only [List.length_drop]; omega) hb
              simp only [List.length_drop] at this; omega
          · cases h
theorem quoted_err : ∀ (s : List Byte) {k c a : Nat}, Lx.quoted k s = .err c a → a ≤ k + s.length
  | [], k, c, a, h => by simp only [Lx.quoted] at h; cases h; omega
  | [d], k, c, a, h => by
    unfold Lx.quoted at h
    split at h
    · cases h
    · split at h
      · cases h; simp
      · split at h
        · rw [map_err] at h; simp only [Lx.quoted] at h; cases h; omega
        · cases h; simp
  | d :: e :: r, k, c, a, h => by
    unfold Lx.quoted at h
    split at h
    · simp only at h
      split at h
      · have := quoted_err r (map_err.1 h); simp only [List.length_cons]; omega
      · cases h
    · split at h
      · simp only at h
        split at h
        · have := quoted_err r (map_err.1 h); simp only [List.length_cons]; omega
        · cases h; simp
      · split at h
        · have := quoted_err (e :: r) (map_err.1 h); simp only [List.length_cons] at this ⊢; omega
        · cases h; simp
theorem token_err_le {s : List Byte} {c a : Nat} (hne : s ≠ []) (h : Lx.token s = .err c a) : a ≤ s.length := by
  cases s with
  | nil => exact absurd rfl hne
  | cons d r =>
    simp only [Lx.token] at h
    split at h
    · cases h
    · split at h
      · cases h
      · split at h
        · rw [map_err] at h
          unfold Lx.number at h
          split at h
          · rename_i hc
            cases r with
            | nil => simp at hc
            | cons e r =>
              simp only [List.drop_succ_cons, List.drop_zero] at h
              unfold Lx.code at h
              simp only [List.length_cons]
              repeat' split at h
              all_goals (cases h <;> simp)
          · simp only at h
            split at h
            · cases h
            · cases h; omega
        · split at h
          · cases h
          · split at h
            · cases h
            · split at h
              · have := quoted_err r (map_err.1 h); simp only [List.length_cons]; omega
              · split at h
                · cases h
                · split at h
                  · cases h
                  · cases h; omega
theorem fails_le {p : Nat} {s : List Byte} {c a : Nat} (h : Fails p s c a) : a ≤ p + s.length := by
  induction h with
  | skip h => have := skip_err_le _ _ _ _ (Nat.le_refl _) h; omega
  | token h1 h2 h3 =>
    have := token_err_le h2 h3
    have := skip_le h1
    simp only [List.length_drop] at *; omega
  | long h1 => have := skip_le h1; omega
  | more h1 h2 h3 h4 h5 ih =>
    have := skip_le h1
    have := tok_len (skip_stands h1) h3
    simp only [List.length_drop] at *; omega
end Go.Proofs.YtjcnhoagccdclaaDoor
