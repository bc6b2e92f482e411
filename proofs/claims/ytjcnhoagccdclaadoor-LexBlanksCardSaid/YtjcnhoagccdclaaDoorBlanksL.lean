/-
  Blanks and remarks put between the tokens of a text: plain Lean.
-/
import Derived.Test.YtjcnhoagccdclaaDoorJoinsL
namespace Go.Proofs.YtjcnhoagccdclaaDoor
open Lx (Byte)

/-- Nothing, or a line feed, a text of blanks and remarks, and a line feed. -/
def Sep (z : List Byte) : Prop := z = [] ∨ ∃ b, z = 10 :: (b ++ [10]) ∧ Lx.tokens (b ++ [10]) = .ok []

/-- Where the token ends, with the blanks behind it. -/
def endOf (T : List Byte) : List Lx.Tok → Nat
  | [] => T.length
  | t :: _ => t.at_
/-- The text with something ahead of each token. -/
def put (T : List Byte) (sep : Nat → List Byte) : Nat → List Lx.Tok → List Byte
  | _, [] => []
  | i, t :: r => sep i ++ ((T.drop t.at_).take (endOf T r - t.at_) ++ put T sep (i + 1) r)

theorem head_app {x z : List Byte} (h : x ≠ []) : (x ++ z).head? = x.head? := by
  cases x with
  | nil => exact absurd rfl h
  | cons c x => rfl
theorem sep_skip {z y : List Byte} (h : Sep z) : Lx.skip (z ++ y) = on z.length (Lx.skip y) := by
  rcases h with rfl | ⟨b, rfl, hb⟩
  · show Lx.skip y = on 0 (Lx.skip y)
    rw [on_zero]
  · have h1 := (tokens_ok_iff.1 hb).2
    cases h1 with
    | @done _ _ _ n h1 h2 =>
      have hle := skip_le h1
      have hn : n = (b ++ [10]).length := by
        have := congrArg List.length h2
        simp only [List.length_drop, List.length_nil] at this; omega
      have h3 := skip_swap _ (b ++ [10]) y n (Nat.le_refl _) h1 (fun _ => .inr (.inr (by simp)))
      rw [hn, List.take_length] at h3
      rw [List.cons_append, skip_blank (by decide), h3, on_on]
      rfl

theorem put_toks {T : List Byte} {sep : Nat → List Byte} (hsep : ∀ i, Sep (sep i)) {p : Nat} {first : Bool} {s : List Byte} {l : List Lx.Tok} (h : Toks p first s l) : s = T.drop p → p ≤ T.length → (∀ t ∈ l, ¬ dotName t.kind t.text t.quoted) →
    ∀ (i q : Nat) (f : Bool), ∃ (l' : List Lx.Tok) (y : List Byte), Toks q f (put T sep i l) l' ∧ l'.map likeTok = l.map likeTok ∧ (l = [] → put T sep i l = []) ∧
      (l ≠ [] → put T sep i l = sep i ++ y ∧ Stands y ∧ ∀ n, Lx.skip s = .ok n → y.head? = (s.drop n).head?) := by
  induction h with
  | done h1 h2 =>
    intro _ _ _ i q f
    exact ⟨[], [], .done (n := 0) (by show Lx.skip [] = _; unfold Lx.skip; rfl) rfl, rfl, fun _ => rfl, fun h => absurd rfl h⟩
  | @more p first s n t l h1 h2 h3 h4 h5 ih =>
    intro hs hp hd i q f
    have hle := skip_le h1
    have hlen := tok_len (skip_stands h1) h3
    have hst := skip_stands h1
    have hd0 : ¬ dotName t.kind t.text t.quoted := hd _ List.mem_cons_self
    have hdn : s.drop n = T.drop (p + n) := by rw [hs, List.drop_drop]
    have hdd : s.drop (n + t.len) = T.drop (p + n + t.len) := by rw [hs, List.drop_drop]; congr 1; omega
    have hsl : s.length = T.length - p := by rw [hs, List.length_drop]
    simp only [List.length_drop] at hlen
    obtain ⟨u, hu, hul⟩ := split_at (s := s) (n := n) (k := t.len) (by rw [List.length_drop]; exact hlen.2)
    obtain ⟨l', y, i1, i2, i3, i4⟩ := ih hdd (by omega) (fun t ht => hd t (List.mem_cons_of_mem _ ht)) (i + 1) (q + (sep i).length + t.len + (endOf T l - (p + n + t.len))) false
    -- what is skipped behind the token
    obtain ⟨m, hm, hend, hz⟩ : ∃ m, Lx.skip (s.drop (n + t.len)) = .ok m ∧ endOf T l = p + n + t.len + m ∧ ((s.drop (n + t.len)).drop m = [] → put T sep (i + 1) l = []) := by
      cases h5 with
      | @done _ _ _ m g1 g2 =>
        refine ⟨m, g1, ?_, fun _ => i3 rfl⟩
        have := skip_le g1
        have g2 := congrArg List.length g2
        simp only [List.length_drop, List.length_nil] at this g2
        show T.length = _
        omega
      | @more _ _ _ m t2 l g1 g2 => exact ⟨m, g1, rfl, fun h => absurd h g2⟩
    have hml := skip_le hm
    rw [hend, show p + n + t.len + m - (p + n + t.len) = m from by omega] at i1
    have hpart : (T.drop (p + n)).take (endOf T l - (p + n)) = u ++ (s.drop (n + t.len)).take m := by
      rw [hend, show p + n + t.len + m - (p + n) = t.len + m from by omega, hdd]
      exact take_part (by rw [← hdd, ← hdn]; exact hu) hul
    -- the tail
    have hsw : Swap (s.drop (n + t.len)) ((s.drop (n + t.len)).take m ++ put T sep (i + 1) l) t := by
      by_cases hm0 : m = 0
      · subst hm0
        rw [List.take_zero, List.nil_append]
        rw [List.drop_zero] at hz
        by_cases hl : l = []
        · left; rw [i3 hl]; exact ⟨by intro c hc; simp at hc, hd0⟩
        · obtain ⟨j1, j2, j3⟩ := i4 hl
          rcases hsep (i + 1) with hse | ⟨b, hse, _⟩
          · right
            have hh := j3 0 hm
            rw [List.drop_zero] at hh
            rw [j1, hse, List.nil_append]
            have := skip_stands hm
            rw [List.drop_zero] at this
            exact ⟨hh.symm, ⟨fun h => absurd h (stands_rem this), fun h => absurd h (stands_rem j2)⟩⟩
          · left; rw [j1, hse]; exact ⟨brk_nl _, hd0⟩
      · by_cases he : s.drop (n + t.len) = []
        · rw [he] at hm; unfold Lx.skip at hm; cases hm; exact absurd rfl hm0
        · rcases swap_take (t := t) hm hd0 with ⟨hb, _⟩ | ⟨hb1, hb2⟩
          · left
            refine ⟨?_, hd0⟩
            intro c hc
            apply hb c
            rw [List.head?_append] at hc
            cases hx : (List.take m (List.drop (n + t.len) s)).head? with
            | some d => rw [hx] at hc; exact hc
            | none =>
              rw [List.head?_take, if_neg hm0, List.head?_eq_none_iff] at hx
              exact absurd hx he
          · right
            have hne : (s.drop (n + t.len)).take m ≠ [] := by
              intro h
              have h := congrArg List.length h
              rw [List.length_take] at h
              have := List.length_pos_iff.2 he
              simp only [List.length_nil] at h; omega
            by_cases hrem : Rem (s.drop (n + t.len))
            · refine ⟨by rw [hb1, head_app hne], fun _ => ?_, fun _ => hrem⟩
              obtain ⟨r, hr⟩ := hb2.1 hrem
              exact ⟨r ++ put T sep (i + 1) l, by rw [hr]; rfl⟩
            · refine ⟨by rw [hb1, head_app hne], fun h => absurd h hrem, ?_⟩
              rintro ⟨r, hr⟩
              exfalso
              -- skipped bytes that begin with a stroke begin a remark
              cases hx : s.drop (n + t.len) with
              | nil => exact he hx
              | cons c x =>
                rw [hx] at hm hrem hr
                obtain ⟨m, rfl⟩ : ∃ k, m = k + 1 := ⟨m - 1, by omega⟩
                simp only [List.take_succ_cons, List.cons_append, List.cons.injEq] at hr
                obtain ⟨rfl, _⟩ := hr
                unfold Lx.skip at hm
                rw [if_neg (by decide), if_neg (by decide)] at hm
                split at hm
                · rename_i hc
                  cases x with
                  | nil => simp at hc
                  | cons d x =>
                    have hc2 : d = 42 := by simpa using hc.2
                    subst hc2
                    exact hrem ⟨x, rfl⟩
                · simp at hm
    have hst' : Stands (u ++ ((s.drop (n + t.len)).take m ++ put T sep (i + 1) l)) := stands_swap (by omega) hsw (by rw [← hu]; exact hst)
    have htk := token_local hul hlen.1 hsw (by rw [← hu]; exact h3)
    have hput : put T sep i (⟨t.kind, t.text, t.num, p + n, t.quoted, decide (0 < n) || first⟩ :: l) = sep i ++ (u ++ ((s.drop (n + t.len)).take m ++ put T sep (i + 1) l)) := by
      show sep i ++ ((T.drop (p + n)).take (endOf T l - (p + n)) ++ put T sep (i + 1) l) = _
      rw [hpart, List.append_assoc]
    -- the rest
    have hsk2 : Lx.skip ((s.drop (n + t.len)).take m ++ put T sep (i + 1) l) = on ((s.drop (n + t.len)).take m).length (Lx.skip (put T sep (i + 1) l)) := by
      have := skip_swap _ _ (put T sep (i + 1) l) m (Nat.le_refl _) hm (fun h => .inl (hz h))
      rw [this, List.length_take, Nat.min_eq_left hml]
    have hlt : ((s.drop (n + t.len)).take m).length = m := by rw [List.length_take, Nat.min_eq_left hml]
    obtain ⟨l'', k1, k2⟩ := toks_ahead (p := q + (sep i).length + t.len) (first' := false) hsk2 (by rw [hlt]; exact i1)
    have hne : u ++ ((s.drop (n + t.len)).take m ++ put T sep (i + 1) l) ≠ [] := by
      intro h; have := congrArg List.length h; simp only [List.length_append, List.length_nil] at this; omega
    have hsk : Lx.skip (sep i ++ (u ++ ((s.drop (n + t.len)).take m ++ put T sep (i + 1) l))) = .ok (sep i).length := by
      rw [sep_skip (hsep i), skip_stands0 hst', on_ok, Nat.zero_add]
    refine ⟨⟨t.kind, t.text, t.num, q + (sep i).length, t.quoted, decide (0 < (sep i).length) || f⟩ :: l'', _, ?_, ?_, fun h => (by cases h), fun _ => ⟨hput, hst', ?_⟩⟩
    · rw [hput]
      refine .more hsk (by rw [List.drop_left]; exact hne) (by rw [List.drop_left]; exact htk) h4 ?_
      rw [← List.drop_drop, List.drop_left, List.drop_left' hul]
      exact k1
    · simp only [List.map_cons]
      have h7 : l''.map likeTok = (l''.map bareTok).map likeTok := by rw [List.map_map]; rfl
      have h8 : l''.map likeTok = l.map likeTok := by rw [h7, k2, List.map_map, ← i2]; rfl
      rw [h8]; rfl
    · intro n' hn'
      rw [h1] at hn'; cases hn'
      rw [hu]
      cases u with
      | nil => simp at hul; omega
      | cons c u => rfl

theorem tokens_put {T : List Byte} {sep : Nat → List Byte} (hsep : ∀ i, Sep (sep i)) {l : List Lx.Tok} (h : Lx.tokens T = .ok l) (hd : ∀ t ∈ l, ¬ dotName t.kind t.text t.quoted) (hl : (put T sep 0 l).length ≤ 16384) :
    ∃ l', Lx.tokens (put T sep 0 l) = .ok l' ∧ l'.map likeTok = l.map likeTok := by
  obtain ⟨l', _, h1, h2, _, _⟩ := put_toks hsep (T := T) (tokens_ok_iff.1 h).2 rfl (Nat.zero_le _) hd 0 0 true
  exact ⟨l', tokens_ok_iff.2 ⟨hl, h1⟩, h2⟩
end Go.Proofs.YtjcnhoagccdclaaDoor
