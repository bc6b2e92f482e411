/-
  Blanks and remarks with something else behind them: plain Lean.
-/
import Derived.Test.YtjcnhoagccdclaaDoorLocal
namespace Go.Proofs.YtjcnhoagccdclaaDoor
open Lx (Byte)

theorem res_shift_zero {α : Type} (r : Lx.Res α) : r.shift 0 = r := by cases r <;> simp [Lx.Res.shift]
theorem res_map_zero (r : Lx.Res Nat) : r.map (· + 0) = r := by cases r <;> rfl
theorem res_shift_map (r : Lx.Res Nat) (a b : Nat) : (((r.shift a).map (· + a)).shift b).map (· + b) = (r.shift (a + b)).map (· + (a + b)) := by
  cases r with
  | ok n => simp only [Lx.Res.shift, Lx.Res.map, Lx.Res.ok.injEq]; omega
  | err c n => simp only [Lx.Res.shift, Lx.Res.map, Lx.Res.err.injEq, true_and]; omega

/-- As skip goes on where so many bytes have been skipped. -/
def on (k : Nat) (r : Lx.Res Nat) : Lx.Res Nat := (r.shift k).map (· + k)
theorem on_zero (r : Lx.Res Nat) : on 0 r = r := by unfold on; rw [res_shift_zero]; exact res_map_zero r
theorem on_on (r : Lx.Res Nat) (a b : Nat) : on b (on a r) = on (a + b) r := res_shift_map r a b
theorem on_ok (k n : Nat) : on k (.ok n) = .ok (n + k) := rfl

theorem close_local (z : List Byte) : ∀ (l : List Byte) (n : Nat), Lx.close l = some n → Lx.close (l.take (n + 2) ++ z) = some n
  | [], n, h => by simp [Lx.close] at h
  | c :: r, n, h => by
    simp only [Lx.close] at h
    simp only [List.take_succ_cons, List.cons_append, Lx.close]
    split at h
    · rename_i hh
      simp only [Option.some.injEq] at h; subst h
      cases r with
      | nil => simp at hh
      | cons d r => rw [if_pos]; exact ⟨hh.1, by simpa using hh.2⟩
    · rename_i hh
      cases hc : Lx.close r with
      | none => simp [hc] at h
      | some m =>
        simp only [hc, Option.map_some, Option.some.injEq] at h; subst h
        rw [if_neg, close_local z r m hc]; · rfl
        rintro ⟨h1, h2⟩
        cases r with
        | nil => simp [Lx.close] at hc
        | cons d r => exact hh ⟨h1, by simpa using h2⟩

theorem run_take {p : Byte → Bool} (l z : List Byte) (m : Nat) (h : Lx.run p l < l.length) (hm : 0 < m) : Lx.run p (l.take (Lx.run p l + m) ++ z) = Lx.run p l := by
  induction l with
  | nil => simp at h
  | cons c r ih =>
    simp only [Lx.run] at h ⊢
    split at h
    · rename_i hc
      rw [if_pos hc]
      rw [show Lx.run p r + 1 + m = (Lx.run p r + m) + 1 from by omega, List.take_succ_cons, List.cons_append]
      simp only [Lx.run]
      rw [if_pos hc, ih (by simpa using h)]
    · rename_i hc
      rw [if_neg hc]
      obtain ⟨m, rfl⟩ : ∃ k, m = k + 1 := ⟨m - 1, by omega⟩
      rw [Nat.zero_add, List.take_succ_cons, List.cons_append]
      simp only [Lx.run]
      rw [if_neg hc]
theorem run_head {p : Byte → Bool} (l : List Byte) (h : Lx.run p l < l.length) : ∃ c, (l.drop (Lx.run p l)).head? = some c ∧ p c = false := by
  induction l with
  | nil => simp at h
  | cons c r ih =>
    simp only [Lx.run] at h ⊢
    split at h
    · rename_i hc
      rw [if_pos hc, List.drop_succ_cons]
      exact ih (by simpa using h)
    · rename_i hc
      rw [if_neg hc]; exact ⟨c, rfl, by simpa using hc⟩

theorem skip_stands0 {s : List Byte} (h : Stands s) : Lx.skip s = .ok 0 := by
  cases s with
  | nil => unfold Lx.skip; rfl
  | cons c r =>
    obtain ⟨h1, h2, h3⟩ := h c r rfl
    unfold Lx.skip
    rw [if_neg (by simp [h1]), if_neg h2, if_neg h3]
theorem skip_blank {c : Byte} (h : Lx.blank c = true) (r : List Byte) : Lx.skip (c :: r) = on 1 (Lx.skip r) := by
  rw [Lx.skip, if_pos h]; rfl
theorem skip_ok_pos {c : Byte} {r : List Byte} {m : Nat} (h : Lx.blank c = true) (hs : Lx.skip (c :: r) = .ok m) : 0 < m := by
  rw [skip_blank h] at hs
  obtain ⟨n, _, rfl⟩ := map_ok hs
  omega

/-- What was skipped is skipped alike with something else behind it. -/
theorem skip_swap : ∀ (k : Nat) (X z : List Byte) (m : Nat), X.length ≤ k → Lx.skip X = .ok m → (X.drop m = [] → z = [] ∨ z.head? = some 10 ∨ X.getLast? = some 10) →
    Lx.skip (X.take m ++ z) = on m (Lx.skip z) := by
  intro k
  induction k with
  | zero =>
    intro X z m hk h hz
    cases X with
    | nil => unfold Lx.skip at h; cases h; rw [on_zero]; rfl
    | cons c r => simp at hk
  | succ k ih =>
    intro X z m hk h hz
    cases X with
    | nil => unfold Lx.skip at h; cases h; rw [on_zero]; rfl
    | cons c r =>
      simp only [List.length_cons] at hk
      have last : ∀ j : Nat, r.drop j ≠ [] → (c :: r).getLast? = some 10 → (r.drop j).getLast? = some 10 := by
        intro j hj hl
        rw [List.getLast?_drop, if_neg (by intro h; exact hj (List.drop_of_length_le h))]
        cases r with
        | nil => simp at hj
        | cons d r => simpa using hl
      unfold Lx.skip at h
      split at h
      · rename_i hb
        obtain ⟨m', hm, rfl⟩ := map_ok h
        have hm := shift_ok hm
        rw [List.take_succ_cons, List.cons_append, skip_blank hb]
        by_cases hr : r = []
        · subst hr
          unfold Lx.skip at hm; cases hm
          rw [List.take_nil, List.nil_append]
        · rw [ih r z m' (by omega) hm, on_on]
          intro hd
          rcases hz (by simpa using hd) with h | h | h
          · exact .inl h
          · exact .inr (.inl h)
          · exact .inr (.inr (by simpa using last 0 (by simpa using hr) h))
      · rename_i hb
        split at h
        · rename_i h37
          simp only at h
          obtain ⟨m', hm, rfl⟩ := map_ok h
          have hm := shift_ok hm
          have hl := Lx.run_le (fun c => c != 10) r
          rw [show m' + (Lx.run (fun c => c != 10) r + 1) = (Lx.run (fun c => c != 10) r + m') + 1 from by omega, List.take_succ_cons, List.cons_append, Lx.skip, if_neg hb, if_pos h37]
          simp only
          by_cases hr : Lx.run (fun c => c != 10) r < r.length
          · have hne : r.drop (Lx.run (fun c => c != 10) r) ≠ [] := by
              intro h; have := congrArg List.length h; simp only [List.length_drop, List.length_nil] at this; omega
            have hpos : 0 < m' := by
              obtain ⟨d, hd, hd2⟩ := run_head r hr
              cases hx : r.drop (Lx.run (fun c => c != 10) r) with
              | nil => rw [hx] at hd; simp at hd
              | cons e x =>
                rw [hx] at hd hm
                simp only [List.head?_cons, Option.some.injEq] at hd
                subst hd
                have : e = 10 := by simpa using hd2
                exact skip_ok_pos (by rw [this]; decide) hm
            have hrt := run_take (p := fun c => c != 10) r z m' hr hpos
            rw [hrt]
            have hdrop : (r.take (Lx.run (fun c => c != 10) r + m') ++ z).drop (Lx.run (fun c => c != 10) r) = (r.drop (Lx.run (fun c => c != 10) r)).take m' ++ z := by
              rw [List.drop_append_of_le_length (by rw [List.length_take]; omega), List.drop_take, Nat.add_sub_cancel_left]
            rw [hdrop, ih _ z m' (by simp only [List.length_drop]; omega) hm]
            · show on (Lx.run (fun c => c != 10) r + 1) (on m' (Lx.skip z)) = _
              rw [on_on]; congr 1; omega
            · intro hd
              rcases hz (by rw [show m' + (Lx.run (fun c => c != 10) r + 1) = (Lx.run (fun c => c != 10) r + m') + 1 from by omega, List.drop_succ_cons, ← List.drop_drop]; exact hd) with h | h | h
              · exact .inl h
              · exact .inr (.inl h)
              · exact .inr (.inr (last _ hne h))
          · have hrl : Lx.run (fun c => c != 10) r = r.length := by omega
            have hall := run_app (p := fun c => c != 10) r [] (by rw [List.append_nil]; exact hrl)
            have hnil : r.drop (Lx.run (fun c => c != 10) r) = [] := by rw [hrl, List.drop_length]
            rw [hnil] at hm
            unfold Lx.skip at hm; cases hm
            rw [show Lx.run (fun c => c != 10) r + 0 = r.length from by omega, List.take_length]
            have hz' : z = [] ∨ z.head? = some 10 := by
              rcases hz (by rw [Nat.zero_add, List.drop_succ_cons]; exact hnil) with h | h | h
              · exact .inl h
              · exact .inr h
              · exfalso
                cases hx : r.getLast? with
                | none =>
                  rw [List.getLast?_eq_none_iff] at hx; subst hx
                  simp only [List.getLast?_singleton, Option.some.injEq] at h
                  rw [h] at h37; exact absurd h37 (by decide)
                | some e =>
                  have he : e ∈ r := List.mem_of_getLast? hx
                  have : (c :: r).getLast? = some e := by
                    cases r with
                    | nil => simp at he
                    | cons d r => simpa using hx
                  rw [this] at h
                  simp only [Option.some.injEq] at h
                  have := hall.1 e he
                  simp [h] at this
            rw [run_mk (p := fun c => c != 10) r z hall.1 (by rintro d hd; rcases hz' with h | h <;> rw [h] at hd <;> simp at hd; simp [← hd]), List.drop_left]
            rfl
        · rename_i h37
          split at h
          · rename_i hc
            split at h
            · simp at h
            · rename_i n hcl
              obtain ⟨m', hm, rfl⟩ := map_ok h
              have hm := shift_ok hm
              obtain ⟨rfl, hd⟩ := hc
              cases r with
              | nil => simp at hd
              | cons d r =>
                simp only [List.head?_cons, Option.some.injEq] at hd
                subst hd
                simp only [List.drop_succ_cons, List.drop_zero] at hcl
                have hl := close_le _ _ hcl
                rw [show n + 3 = (n + 2) + 1 from rfl, List.drop_succ_cons] at hm
                simp only [List.length_cons] at hk
                have hcl2 : Lx.close (r.take (n + 2 + m') ++ z) = some n := by
                  have := close_local ((r.drop (n + 2)).take m' ++ z) r n hcl
                  rw [← List.append_assoc, ← List.take_add] at this
                  exact this
                rw [show m' + (n + 4) = (n + 2 + m') + 1 + 1 from by omega, List.take_succ_cons, List.take_succ_cons, List.cons_append, List.cons_append, Lx.skip, if_neg hb, if_neg h37, if_pos ⟨rfl, rfl⟩]
                simp only [List.drop_succ_cons, List.drop_zero]
                rw [hcl2]
                simp only
                have hdrop : (r.take (n + 2 + m') ++ z).drop (n + 2) = (r.drop (n + 2)).take m' ++ z := by
                  rw [List.drop_append_of_le_length (by rw [List.length_take]; omega), List.drop_take, Nat.add_sub_cancel_left]
                rw [hdrop]
                by_cases hr : r.drop (n + 2) = []
                · rw [hr] at hm ⊢
                  unfold Lx.skip at hm; cases hm
                  rw [List.take_nil, List.nil_append]
                  show on (n + 4) _ = _
                  congr 1
                · rw [ih _ z m' (by simp only [List.length_drop]; omega) hm]
                  · show on (n + 4) (on m' _) = _
                    rw [on_on]; congr 1; omega
                  · intro hd
                    rcases hz (by rw [show m' + (n + 4) = (n + 2 + m') + 1 + 1 from by omega, List.drop_succ_cons, List.drop_succ_cons, ← List.drop_drop]; exact hd) with h | h | h
                    · exact .inl h
                    · exact .inr (.inl h)
                    · exact .inr (.inr (last (n + 3) (by rw [show n + 3 = (n + 2) + 1 from rfl, List.drop_succ_cons]; exact hr) h))
          · rename_i hc
            cases h
            rw [on_zero]; rfl

theorem skip_cut {X : List Byte} {m : Nat} (h : Lx.skip X = .ok m) : Lx.skip (X.take m) = .ok m := by
  have := skip_swap _ X [] m (Nat.le_refl _) h (fun _ => .inl rfl)
  rw [List.append_nil] at this
  rw [this]; unfold Lx.skip; rw [on_ok, Nat.zero_add]

/-! Tokens from another place on, and with something skipped ahead. -/
/-- A token, but for what stands ahead of it. -/
def bareTok (t : Lx.Tok) : Lx.Tok := { t with apart := false }
/-- A token, but for its place and what stands ahead of it. -/
def likeTok (t : Lx.Tok) : Lx.Tok := { t with apart := false, at_ := 0 }
def moved (d : Nat) (t : Lx.Tok) : Lx.Tok := { t with at_ := t.at_ + d }

theorem toks_moved {p : Nat} {first : Bool} {s : List Byte} {l : List Lx.Tok} (h : Toks p first s l) (d : Nat) : Toks (p + d) first s (l.map (moved d)) := by
  induction h with
  | done h1 h2 => exact .done h1 h2
  | @more p first s n t l h1 h2 h3 h4 h5 ih =>
    have ih' : Toks (p + d + n + t.len) false (s.drop (n + t.len)) (l.map (moved d)) := by
      rw [show p + d + n + t.len = p + n + t.len + d from by omega]; exact ih
    have := Toks.more (first := first) h1 h2 h3 h4 ih'
    rw [show p + d + n = p + n + d from by omega] at this
    exact this
theorem fails_moved {p : Nat} {s : List Byte} {c a : Nat} (h : Fails p s c a) (d : Nat) : Fails (p + d) s c (a + d) := by
  induction h with
  | @skip p s c a h => rw [show p + a + d = p + d + a from by omega]; exact .skip h
  | @token p s n c a h1 h2 h3 => rw [show p + n + a + d = p + d + n + a from by omega]; exact .token h1 h2 h3
  | @long p s n t h1 h2 h3 h4 => rw [show p + n + d = p + d + n from by omega]; exact .long h1 h2 h3 h4
  | @more p s n t c a h1 h2 h3 h4 h5 ih =>
    refine .more h1 h2 h3 h4 ?_
    rw [show p + d + n + t.len = p + n + t.len + d from by omega]; exact ih

theorem drop_app {α : Type} (W z : List α) (n : Nat) : (W ++ z).drop (n + W.length) = z.drop n := by
  rw [Nat.add_comm, ← List.drop_drop, List.drop_left]
theorem toks_ahead {p : Nat} {first first' : Bool} {W z : List Byte} {l : List Lx.Tok} (hW : Lx.skip (W ++ z) = on W.length (Lx.skip z)) (h : Toks (p + W.length) first z l) :
    ∃ l', Toks p first' (W ++ z) l' ∧ l'.map bareTok = l.map bareTok := by
  cases h with
  | @done _ _ _ n h1 h2 => exact ⟨[], .done (n := n + W.length) (by rw [hW, h1]; rfl) (by rw [drop_app]; exact h2), rfl⟩
  | @more _ _ _ n t l h1 h2 h3 h4 h5 =>
    refine ⟨_, .more (n := n + W.length) (t := t) (l := l) (by rw [hW, h1]; rfl) (by rw [drop_app]; exact h2) (by rw [drop_app]; exact h3) h4 ?_, ?_⟩
    · rw [show n + W.length + t.len = n + t.len + W.length from by omega, drop_app, show p + (n + W.length) + t.len = p + W.length + n + t.len from by omega]
      exact h5
    · simp only [List.map_cons]
      congr 1
      simp only [bareTok]
      congr 1; omega
theorem fails_ahead {p : Nat} {W z : List Byte} {c a : Nat} (hW : Lx.skip (W ++ z) = on W.length (Lx.skip z)) (h : Fails (p + W.length) z c a) : Fails p (W ++ z) c a := by
  cases h with
  | skip h1 =>
    rw [Nat.add_assoc]
    refine .skip ?_
    rw [hW, h1]; rfl
  | @token _ _ n c a h1 h2 h3 =>
    rw [show p + W.length + n + a = p + (n + W.length) + a from by omega]
    exact .token (n := n + W.length) (by rw [hW, h1]; rfl) (by rw [drop_app]; exact h2) (by rw [drop_app]; exact h3)
  | @long _ _ n t h1 h2 h3 h4 =>
    rw [show p + W.length + n = p + (n + W.length) from by omega]
    exact .long (n := n + W.length) (by rw [hW, h1]; rfl) (by rw [drop_app]; exact h2) (by rw [drop_app]; exact h3) h4
  | @more _ _ n t c a h1 h2 h3 h4 h5 =>
    refine .more (n := n + W.length) (t := t) (by rw [hW, h1]; rfl) (by rw [drop_app]; exact h2) (by rw [drop_app]; exact h3) h4 ?_
    rw [show n + W.length + t.len = n + t.len + W.length from by omega, drop_app, show p + (n + W.length) + t.len = p + W.length + n + t.len from by omega]
    exact h5
end Go.Proofs.YtjcnhoagccdclaaDoor
