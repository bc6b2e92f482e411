/-
  Tokens: the plain law of one round.
-/
import Derived.Test.YtjcnhoagccdclaaDoorLexJ
namespace Go.Proofs.YtjcnhoagccdclaaDoor
open Go.RowKit
open Lx (Byte)

def tokCells (t : Lx.Tok) : List Value := [.int .i64 t.kind, .string ⟨t.text.toArray⟩, .int .i64 t.num, .int .i64 (t.at_ : Int), .bool t.quoted, .bool t.apart]

/-- What Tokens answers. -/
def TokensPost (text : ByteArray) (w : World) (e : Ending) (w' : World) : Prop :=
  match Lx.tokens text.data.toList with
  | .ok l => ∃ v, e = .returned (.tuple #[v, .nilIface]) ∧ w'.ownsRow w.heap.size 29 6 v l.length (l.flatMap tokCells) ∧ Below w.heap.size w w'
  | .err c a => ∃ fv, e = .returned (.tuple #[.slice none 0 0, fv]) ∧ FaultAt w' fv c (a : Nat) ∧ Below w.heap.size w w'

theorem skipAt_ok {text : ByteArray} {p n : Nat} (h : skipAt text p = .ok n) : ∃ m, n = m + p ∧ Lx.skip (text.data.toList.drop p) = .ok m := by
  unfold skipAt at h
  cases hs : Lx.skip (text.data.toList.drop p) with
  | ok m => rw [hs] at h; simp only [Lx.Res.shift, Lx.Res.map] at h; injection h with h; exact ⟨m, h.symm, rfl⟩
  | err c a => rw [hs] at h; simp only [Lx.Res.shift, Lx.Res.map] at h; exact absurd h (by simp)
theorem skipAt_err {text : ByteArray} {p c a : Nat} (h : skipAt text p = .err c a) : ∃ m, a = p + m ∧ Lx.skip (text.data.toList.drop p) = .err c m := by
  unfold skipAt at h
  cases hs : Lx.skip (text.data.toList.drop p) with
  | ok m => rw [hs] at h; simp only [Lx.Res.shift, Lx.Res.map] at h; exact absurd h (by simp)
  | err c' a' => rw [hs] at h; simp only [Lx.Res.shift, Lx.Res.map] at h; injection h with h1 h2; subst h1; exact ⟨a', h2.symm, rfl⟩

theorem quoted_le : ∀ (s : List Byte) {k : Nat} {l : List Byte} {n : Nat}, Lx.quoted k s = .ok (l, n) → n ≤ k + s.length ∧ k < n
  | [], k, l, n, h => by simp [Lx.quoted] at h
  | [c], k, l, n, h => by
    unfold Lx.quoted at h
    repeat' split at h
    all_goals (first | contradiction | (simp only [Lx.Res.ok.injEq, Prod.mk.injEq] at h; obtain ⟨_, rfl⟩ := h; simp) | (simp [Lx.quoted, Lx.Res.map] at h) | (rename_i hq _; simp at hq) | (rename_i hq _ _ _; simp at hq) | simp_all)
  | c :: d :: r, k, l, n, h => by
    unfold Lx.quoted at h
    split at h
    · simp only at h
      split at h
      · cases hq : Lx.quoted (k + 2) r with
        | ok x =>
          rw [hq] at h; simp only [Lx.Res.map, Lx.Res.ok.injEq, Prod.mk.injEq] at h
          have := quoted_le r (l := x.1) (n := x.2) hq
          simp only [List.length_cons]; omega
        | err c a => rw [hq] at h; simp [Lx.Res.map] at h
      · simp only [Lx.Res.ok.injEq, Prod.mk.injEq] at h; simp only [List.length_cons]; omega
    · split at h
      · simp only at h
        split at h
        · cases hq : Lx.quoted (k + 2) r with
          | ok x =>
            rw [hq] at h; simp only [Lx.Res.map, Lx.Res.ok.injEq, Prod.mk.injEq] at h
            have := quoted_le r (l := x.1) (n := x.2) hq
            simp only [List.length_cons]; omega
          | err c a => rw [hq] at h; simp [Lx.Res.map] at h
        · simp at h
      · split at h
        · cases hq : Lx.quoted (k + 1) (d :: r) with
          | ok x =>
            rw [hq] at h; simp only [Lx.Res.map, Lx.Res.ok.injEq, Prod.mk.injEq] at h
            have := quoted_le (d :: r) (l := x.1) (n := x.2) hq
            simp only [List.length_cons] at this ⊢; omega
          | err c a => rw [hq] at h; simp [Lx.Res.map] at h
        · simp at h

theorem number_pos {s : List Byte} {i : Int} {n : Nat} (hd : ∃ c r, s = c :: r ∧ Lx.digit c = true) (h : Lx.number s = .ok (i, n)) : 0 < n := by
  unfold Lx.number at h
  split at h
  · exact (code_le h).2
  · obtain ⟨c, r, rfl, hc⟩ := hd
    simp only at h
    split at h
    · simp only [Lx.Res.ok.injEq, Prod.mk.injEq] at h
      obtain ⟨_, rfl⟩ := h
      simp [Lx.run, hc]
    · simp at h

theorem letter_of {c : Byte} (h : Lx.small c = true ∨ Lx.capital c = true) : Lx.letter c = true := by
  rcases h with h | h <;> simp [Lx.letter, h]

/-- A token is not empty, lies within the text, and is of one of five kinds. -/
theorem token_len {s : List Byte} {t : Lx.Raw} (h : Lx.token s = .ok t) (h0 : ∀ r, s = 47 :: r → r.head? ≠ some 42) : 0 < t.len ∧ t.len ≤ s.length := by
  cases s with
  | nil => simp [Lx.token] at h
  | cons c r =>
    simp only [Lx.token] at h
    split at h
    · rename_i h1
      injection h with h; subst h
      have := Lx.run_le Lx.letter (c :: r)
      exact ⟨by simp [Lx.plain, Lx.run, letter_of (.inl h1)], this⟩
    · split at h
      · rename_i h1
        injection h with h; subst h
        have := Lx.run_le Lx.letter (c :: r)
        exact ⟨by simp [Lx.plain, Lx.run, letter_of (.inr h1)], this⟩
      · split at h
        · rename_i h1
          cases hn : Lx.number (c :: r) with
          | ok x =>
            rw [hn] at h; simp only [Lx.Res.map] at h; injection h with h; subst h
            exact ⟨number_pos (i := x.1) (n := x.2) ⟨c, r, rfl, h1⟩ hn, number_le (i := x.1) (n := x.2) hn⟩
          | err a b => rw [hn] at h; simp [Lx.Res.map] at h
        · split at h
          · injection h with h; subst h; simp [Lx.plain]
          · split at h
            · injection h with h; subst h; simp [Lx.plain]
            · split at h
              · cases hn : Lx.quoted 1 r with
                | ok x =>
                  rw [hn] at h; simp only [Lx.Res.map] at h; injection h with h; subst h
                  have := quoted_le r (l := x.1) (n := x.2) hn
                  simp only [List.length_cons]; omega
                | err a b => rw [hn] at h; simp [Lx.Res.map] at h
              · split at h
                · injection h with h; subst h; simp [Lx.plain]
                · split at h
                  · rename_i h1 h2 h3 h4 h5 h6 h7 h8
                    injection h with h; subst h
                    have := symbols_le (c :: r)
                    refine ⟨?_, this⟩
                    simp only [Lx.plain, Lx.symbols]
                    rw [if_pos]
                    · omega
                    · refine ⟨h8, ?_⟩
                      rintro ⟨rfl, hr⟩; exact h0 r rfl hr
                  · simp at h

theorem token_kind {s : List Byte} {t : Lx.Raw} (h : Lx.token s = .ok t) : 1 ≤ t.kind := by
  cases s with
  | nil => simp [Lx.token] at h
  | cons c r =>
    simp only [Lx.token] at h
    split at h
    · injection h with h; subst h; simp [Lx.plain]
    · split at h
      · injection h with h; subst h; simp [Lx.plain]
      · split at h
        · cases hn : Lx.number (c :: r) with
          | ok x => rw [hn] at h; simp only [Lx.Res.map] at h; injection h with h; subst h; simp
          | err a b => rw [hn] at h; simp [Lx.Res.map] at h
        · split at h
          · injection h with h; subst h; simp [Lx.plain]
          · split at h
            · injection h with h; subst h; simp [Lx.plain]
            · split at h
              · cases hn : Lx.quoted 1 r with
                | ok x => rw [hn] at h; simp only [Lx.Res.map] at h; injection h with h; subst h; simp
                | err a b => rw [hn] at h; simp [Lx.Res.map] at h
              · split at h
                · injection h with h; subst h; simp [Lx.plain]
                · split at h
                  · injection h with h; subst h; simp [Lx.plain]
                  · simp at h
theorem map_ok {α β : Type} {r : Lx.Res α} {f : α → β} {b : β} (h : r.map f = .ok b) : ∃ a, r = .ok a ∧ b = f a := by
  cases r with
  | ok a => simp only [Lx.Res.map] at h; injection h with h; exact ⟨a, rfl, h.symm⟩
  | err c a => simp [Lx.Res.map] at h
theorem shift_ok {α : Type} {k : Nat} {r : Lx.Res α} {b : α} (h : r.shift k = .ok b) : r = .ok b := by
  cases r with
  | ok a => exact h
  | err c a => simp [Lx.Res.shift] at h
/-- Where skip stops: at the end, or at a byte that is no blank and begins no remark. -/
def Stands (s : List Byte) : Prop := ∀ c r, s = c :: r → Lx.blank c = false ∧ c ≠ 37 ∧ ¬ (c = 47 ∧ r.head? = some 42)
theorem skip_stop : ∀ (k : Nat) (s : List Byte) (n : Nat), s.length ≤ k → Lx.skip s = .ok n → n ≤ s.length ∧ Stands (s.drop n) := by
  intro k
  induction k with
  | zero =>
    intro s n hk h
    cases s with
    | nil => unfold Lx.skip at h; injection h with h; subst h; exact ⟨Nat.le_refl _, by intro c r h; simp at h⟩
    | cons c r => simp at hk
  | succ k ih =>
    intro s n hk h
    cases s with
    | nil => unfold Lx.skip at h; injection h with h; subst h; exact ⟨Nat.le_refl _, by intro c r h; simp at h⟩
    | cons c r =>
      simp only [List.length_cons] at hk
      unfold Lx.skip at h
      split at h
      · obtain ⟨m, hm, rfl⟩ := map_ok h
        have := ih r m (by omega) (shift_ok hm)
        exact ⟨by simp only [List.length_cons]; omega, by simpa using this.2⟩
      · rename_i hb
        split at h
        · simp only at h
          obtain ⟨m, hm, rfl⟩ := map_ok h
          have hl := Lx.run_le (fun c => c != 10) r
          have := ih _ m (by simp only [List.length_drop]; omega) (shift_ok hm)
          rw [List.drop_drop, List.length_drop] at this
          refine ⟨by simp only [List.length_cons]; omega, ?_⟩
          have h2 := this.2
          rwa [show m + (Lx.run (fun c => c != 10) r + 1) = (Lx.run (fun c => c != 10) r + m) + 1 from by omega, List.drop_succ_cons]
        · rename_i hp
          split at h
          · rename_i hc
            split at h
            · simp at h
            · rename_i n' hcl
              obtain ⟨m, hm, rfl⟩ := map_ok h
              have hl := close_le _ _ hcl
              simp only [List.length_drop] at hl
              have := ih _ m (by simp only [List.length_drop]; omega) (shift_ok hm)
              rw [List.drop_drop, List.length_drop] at this
              refine ⟨by simp only [List.length_cons]; omega, ?_⟩
              have h2 := this.2
              rwa [show m + (n' + 4) = (n' + 3 + m) + 1 from by omega, List.drop_succ_cons]
          · rename_i hc
            injection h with h; subst h
            refine ⟨Nat.zero_le _, ?_⟩
            intro c' r' h
            simp only [List.drop_zero, List.cons.injEq] at h
            obtain ⟨rfl, rfl⟩ := h
            exact ⟨by simpa using hb, hp, hc⟩
theorem skipAt_stop {text : ByteArray} {p n : Nat} (h : skipAt text p = .ok n) : p ≤ n ∧ (p ≤ text.size → n ≤ text.size) ∧ Stands (text.data.toList.drop n) := by
  obtain ⟨m, rfl, hm⟩ := skipAt_ok h
  have := skip_stop _ _ _ (Nat.le_refl _) hm
  rw [List.drop_drop, List.length_drop] at this
  refine ⟨by omega, fun hp => ?_, by rw [Nat.add_comm m p]; exact this.2⟩
  have h1 := this.1
  simp only [Array.length_toList, ByteArray.size_data] at h1
  omega

theorem toks_skip_err {text : ByteArray} {k p c a : Nat} {first : Bool} (h : skipAt text p = .err c a) : Lx.toksF (k + 1) p first (text.data.toList.drop p) = .err c a := by
  obtain ⟨m, rfl, hm⟩ := skipAt_err h
  simp only [Lx.toksF, hm]
theorem toks_end {text : ByteArray} {k p n : Nat} {first : Bool} (h : skipAt text p = .ok n) (hn : text.size ≤ n) : Lx.toksF (k + 1) p first (text.data.toList.drop p) = .ok [] := by
  obtain ⟨m, rfl, hm⟩ := skipAt_ok h
  simp only [Lx.toksF, hm]
  rw [if_pos]
  rw [List.drop_drop, List.drop_of_length_le (by simp; omega)]
theorem drop_ne {text : ByteArray} {n : Nat} (hn : n < text.size) : ¬ text.data.toList.drop n = [] := by
  rw [drop_cons text n hn]; simp
theorem toks_err {text : ByteArray} {k p n c a : Nat} {first : Bool} (h : skipAt text p = .ok n) (hn : n < text.size) (ht : Lx.token (text.data.toList.drop n) = .err c a) : Lx.toksF (k + 1) p first (text.data.toList.drop p) = .err c (n + a) := by
  obtain ⟨m, rfl, hm⟩ := skipAt_ok h
  simp only [Lx.toksF, hm]
  rw [List.drop_drop, Nat.add_comm p m, if_neg (drop_ne hn), ht]
theorem toks_long {text : ByteArray} {k p n : Nat} {t : Lx.Raw} {first : Bool} (h : skipAt text p = .ok n) (hn : n < text.size) (ht : Lx.token (text.data.toList.drop n) = .ok t) (hl : t.kind ≤ 2 ∧ t.text.length > 64) : Lx.toksF (k + 1) p first (text.data.toList.drop p) = .err 2 n := by
  obtain ⟨m, rfl, hm⟩ := skipAt_ok h
  simp only [Lx.toksF, hm]
  rw [List.drop_drop, Nat.add_comm p m, if_neg (drop_ne hn), ht]
  simp only [if_pos hl]
theorem toks_more {text : ByteArray} {k p n : Nat} {t : Lx.Raw} {first : Bool} (h : skipAt text p = .ok n) (hn : n < text.size) (ht : Lx.token (text.data.toList.drop n) = .ok t) (hl : ¬ (t.kind ≤ 2 ∧ t.text.length > 64)) :
    Lx.toksF (k + 1) p first (text.data.toList.drop p) = (Lx.toksF k (n + t.len) false (text.data.toList.drop (n + t.len))).map fun l => ⟨t.kind, t.text, t.num, n, t.quoted, decide (p < n) || first⟩ :: l := by
  obtain ⟨m, rfl, hm⟩ := skipAt_ok h
  simp only [Lx.toksF, hm]
  rw [List.drop_drop, Nat.add_comm p m, if_neg (drop_ne hn), ht]
  simp only [if_neg hl]
  rw [List.drop_drop, show p + (m + t.len) = m + p + t.len from by omega, show decide (0 < m) = decide (p < m + p) from by congr 1; rw [eq_iff_iff]; omega]
theorem token_len_at {text : ByteArray} {p n : Nat} {t : Lx.Raw} (h : skipAt text p = .ok n) (ht : Lx.token (text.data.toList.drop n) = .ok t) : 0 < t.len ∧ n + t.len ≤ text.size ∨ text.size ≤ n := by
  by_cases hn : n < text.size
  · left
    have hst := (skipAt_stop h).2.2
    have := token_len ht (fun r hr hh => (hst 47 r hr).2.2 ⟨rfl, hh⟩)
    refine ⟨this.1, ?_⟩
    have h2 := this.2
    simp only [List.length_drop, Array.length_toList, ByteArray.size_data] at h2
    omega
  · right; omega
end Go.Proofs.YtjcnhoagccdclaaDoor
