/-
  A text with a line feed and another text behind it; a token's text alone: plain Lean.
-/
import Derived.Test.YtjcnhoagccdclaaDoorSkips
namespace Go.Proofs.YtjcnhoagccdclaaDoor
open Lx (Byte)

theorem stands_rem {s : List Byte} (h : Stands s) : ¬ Rem s := by
  rintro ⟨r, rfl⟩
  exact (h 47 _ rfl).2.2 ⟨rfl, rfl⟩
/-- A place where a token begins stays one with another tail behind the token. -/
theorem stands_swap {u x y : List Byte} {t : Lx.Raw} (hu : 0 < u.length) (hs : Swap x y t) (h : Stands (u ++ x)) : Stands (u ++ y) := by
  cases u with
  | nil => simp at hu
  | cons c u =>
    intro c' r' e
    simp only [List.cons_append, List.cons.injEq] at e
    obtain ⟨rfl, rfl⟩ := e
    obtain ⟨h1, h2, h3⟩ := h c (u ++ x) rfl
    refine ⟨h1, h2, ?_⟩
    rintro ⟨rfl, hr⟩
    apply h3
    refine ⟨rfl, ?_⟩
    cases u with
    | cons d u => exact hr
    | nil =>
      rcases hs with ⟨hb, _⟩ | ⟨hb, _⟩
      · exact absurd rfl (blank_not (hb 42 hr)).2.2.2.2.1
      · exact hb.trans hr

theorem sameHead_app {x z : List Byte} (hx : x ≠ []) (hz : z.head? ≠ some 42) : SameHead x (x ++ z) := by
  cases x with
  | nil => exact absurd rfl hx
  | cons c x =>
    refine ⟨rfl, ?_⟩
    constructor
    · rintro ⟨r, e⟩
      simp only [List.cons.injEq] at e
      obtain ⟨rfl, rfl⟩ := e
      exact ⟨r ++ z, rfl⟩
    · rintro ⟨r, e⟩
      simp only [List.cons_append, List.cons.injEq] at e
      obtain ⟨rfl, e⟩ := e
      cases x with
      | nil => rw [List.nil_append] at e; rw [e] at hz; simp at hz
      | cons d x =>
        simp only [List.cons_append, List.cons.injEq] at e
        obtain ⟨rfl, rfl⟩ := e
        exact ⟨x, rfl⟩

theorem brk_nl (z : List Byte) : Brk (10 :: z) := by
  intro c hc
  simp only [List.head?_cons, Option.some.injEq] at hc
  subst hc; decide

/-- The tail of a token that is in a text, with a line feed and more behind the text. -/
theorem swap_nl {x b : List Byte} {t : Lx.Raw} (h : ¬ dotName t.kind t.text t.quoted) : Swap x (x ++ 10 :: b) t := by
  by_cases hx : x = []
  · subst hx; exact .inl ⟨brk_nl b, h⟩
  · exact .inr (sameHead_app hx (by simp))

theorem skip_more {s z : List Byte} {n : Nat} (h : Lx.skip s = .ok n) (hz : Stands (s.drop n ++ z)) (hne : s.drop n ≠ []) : Lx.skip (s ++ z) = .ok n := by
  have h1 := skip_swap _ s (s.drop n ++ z) n (Nat.le_refl _) h (fun e => absurd e hne)
  rw [← List.append_assoc, List.take_append_drop, skip_stands0 hz, on_ok, Nat.zero_add] at h1
  exact h1

theorem split_at {s : List Byte} {n k : Nat} (hk : k ≤ (s.drop n).length) : ∃ u, s.drop n = u ++ s.drop (n + k) ∧ u.length = k :=
  ⟨(s.drop n).take k, by rw [← List.drop_drop, List.take_append_drop], by rw [List.length_take]; omega⟩

/-- What a step of a text's tokens is with a line feed and more behind. -/
theorem step_nl {s b : List Byte} {n : Nat} {t : Lx.Raw} (h1 : Lx.skip s = .ok n) (h2 : s.drop n ≠ []) (h3 : Lx.token (s.drop n) = .ok t) (hd : ¬ dotName t.kind t.text t.quoted) :
    Lx.skip (s ++ 10 :: b) = .ok n ∧ (s ++ 10 :: b).drop n ≠ [] ∧ Lx.token ((s ++ 10 :: b).drop n) = .ok t ∧ (s ++ 10 :: b).drop (n + t.len) = s.drop (n + t.len) ++ 10 :: b := by
  have hst := skip_stands h1
  have hlen := tok_len hst h3
  have hle := skip_le h1
  obtain ⟨u, hu, hul⟩ := split_at hlen.2
  have hsw : Swap (s.drop (n + t.len)) (s.drop (n + t.len) ++ 10 :: b) t := swap_nl hd
  have hdn : (s ++ 10 :: b).drop n = u ++ (s.drop (n + t.len) ++ 10 :: b) := by
    rw [List.drop_append_of_le_length hle, hu, List.append_assoc]
  have hd2 : (s ++ 10 :: b).drop (n + t.len) = s.drop (n + t.len) ++ 10 :: b := by
    rw [List.drop_append_of_le_length (by simp only [List.length_drop] at hlen; omega)]
  rw [hu] at h3 hst
  have hst2 := stands_swap (by omega) hsw hst
  refine ⟨?_, ?_, ?_, hd2⟩
  · refine skip_more h1 ?_ h2
    rw [hu, List.append_assoc]; exact hst2
  · rw [hdn]; intro e; have := congrArg List.length e; simp at this
  · rw [hdn]; exact token_local hul hlen.1 hsw h3

theorem skip_end_nl {s b : List Byte} {n : Nat} (h1 : Lx.skip s = .ok n) (h2 : s.drop n = []) : Lx.skip ((s ++ [10]) ++ b) = on (s ++ [10]).length (Lx.skip b) := by
  have h := skip_swap _ s (10 :: b) n (Nat.le_refl _) h1 (fun _ => .inr (.inl rfl))
  have hle := skip_le h1
  have hn : n = s.length := by
    have := congrArg List.length h2
    simp only [List.length_drop, List.length_nil] at this; omega
  subst hn
  rw [List.take_length, skip_blank (by decide), on_on] at h
  rw [List.append_assoc, List.length_append, List.length_singleton, Nat.add_comm s.length 1]
  exact h

/-- The tokens of two texts with a line feed between. -/
theorem toks_join {p : Nat} {first : Bool} {s : List Byte} {l : List Lx.Tok} (h : Toks p first s l) (hd : ∀ t ∈ l, ¬ dotName t.kind t.text t.quoted) {b : List Byte} {l2 : List Lx.Tok} {f : Bool} : Toks (p + (s.length + 1)) f b l2 →
    ∃ l', Toks p first (s ++ 10 :: b) (l ++ l') ∧ l'.map bareTok = l2.map bareTok := by
  induction h with
  | @done p first s n h1 h2 =>
    intro hb
    have := skip_end_nl (b := b) h1 h2
    obtain ⟨l', h1', h2'⟩ := toks_ahead (p := p) (first' := first) this (by rw [List.length_append, List.length_singleton]; exact hb)
    rw [List.append_assoc] at h1'
    exact ⟨l', h1', h2'⟩
  | @more p first s n t l h1 h2 h3 h4 h5 ih =>
    intro hb
    obtain ⟨g1, g2, g3, g4⟩ := step_nl (b := b) h1 h2 h3 (hd _ List.mem_cons_self)
    have hle := skip_le h1
    have hlen := tok_len (skip_stands h1) h3
    simp only [List.length_drop] at hlen
    obtain ⟨l', i1, i2⟩ := ih (fun t ht => hd t (by simp [ht])) (by rw [List.length_drop, show p + n + t.len + (s.length - (n + t.len) + 1) = p + (s.length + 1) from by omega]; exact hb)
    refine ⟨l', ?_, i2⟩
    exact .more g1 g2 g3 h4 (by rw [g4]; exact i1)
theorem fails_join {p : Nat} {first : Bool} {s : List Byte} {l : List Lx.Tok} (h : Toks p first s l) (hd : ∀ t ∈ l, ¬ dotName t.kind t.text t.quoted) {b : List Byte} {c a : Nat} : Fails (p + (s.length + 1)) b c a →
    Fails p (s ++ 10 :: b) c a := by
  induction h with
  | @done p first s n h1 h2 =>
    intro hb
    have := skip_end_nl (b := b) h1 h2
    have h1' := fails_ahead (p := p) this (by rw [List.length_append, List.length_singleton]; exact hb)
    rw [List.append_assoc] at h1'
    exact h1'
  | @more p first s n t l h1 h2 h3 h4 h5 ih =>
    intro hb
    obtain ⟨g1, g2, g3, g4⟩ := step_nl (b := b) h1 h2 h3 (hd _ List.mem_cons_self)
    have hle := skip_le h1
    have hlen := tok_len (skip_stands h1) h3
    simp only [List.length_drop] at hlen
    have i1 := ih (fun t ht => hd t (by simp [ht])) (by rw [List.length_drop, show p + n + t.len + (s.length - (n + t.len) + 1) = p + (s.length + 1) from by omega]; exact hb)
    exact .more g1 g2 g3 h4 (by rw [g4]; exact i1)

theorem tokens_join_ok {a b : List Byte} {x y : List Lx.Tok} (hx : Lx.tokens a = .ok x) (hd : ∀ t ∈ x, ¬ dotName t.kind t.text t.quoted) (hy : Lx.tokens b = .ok y) (hl : (a ++ 10 :: b).length ≤ 16384) :
    ∃ y', Lx.tokens (a ++ 10 :: b) = .ok (x ++ y') ∧ y'.map bareTok = (y.map (moved (a.length + 1))).map bareTok := by
  have h1 := (tokens_ok_iff.1 hx).2
  have h2 := toks_moved (tokens_ok_iff.1 hy).2 (a.length + 1)
  obtain ⟨y', g1, g2⟩ := toks_join h1 hd h2
  exact ⟨y', tokens_ok_iff.2 ⟨hl, g1⟩, g2⟩
theorem tokens_join_err {a b : List Byte} {x : List Lx.Tok} {c k : Nat} (hx : Lx.tokens a = .ok x) (hd : ∀ t ∈ x, ¬ dotName t.kind t.text t.quoted) (hy : Lx.tokens b = .err c k) (hl : (a ++ 10 :: b).length ≤ 16384) :
    Lx.tokens (a ++ 10 :: b) = .err c (k + (a.length + 1)) := by
  have h1 := (tokens_ok_iff.1 hx).2
  rcases tokens_err_iff.1 hy with ⟨h, _, _⟩ | ⟨_, h⟩
  · simp only [List.length_append, List.length_cons] at hl; omega
  · have h2 := fails_moved h (a.length + 1)
    exact tokens_err_iff.2 (.inr ⟨hl, fails_join h1 hd h2⟩)

/-! A token's text alone. -/
theorem toks_at {T : List Byte} {p : Nat} {first : Bool} {s : List Byte} {l : List Lx.Tok} (h : Toks p first s l) : s = T.drop p → p ≤ T.length →
    ∀ i (hi : i < l.length), ∃ (q : Nat) (t : Lx.Raw), q = l[i].at_ ∧ q ≤ T.length ∧ Stands (T.drop q) ∧ Lx.token (T.drop q) = .ok t ∧ ¬ (t.kind ≤ 2 ∧ t.text.length > 64) ∧ l[i].kind = t.kind ∧ l[i].text = t.text ∧ l[i].num = t.num ∧ l[i].quoted = t.quoted ∧
      ∃ m, Lx.skip (T.drop (q + t.len)) = .ok m ∧ (∀ (h : i + 1 < l.length), l[i + 1].at_ = q + t.len + m ∧ T.drop (q + t.len + m) ≠ []) ∧ (i + 1 = l.length → T.length = q + t.len + m) := by
  induction h with
  | done h1 h2 => intro _ _ i hi; simp at hi
  | @more p first s n t l h1 h2 h3 h4 h5 ih =>
    intro hs hp i hi
    subst hs
    have hle := skip_le h1
    have hlen := tok_len (skip_stands h1) h3
    simp only [List.length_drop] at hle hlen
    have hst := skip_stands h1
    have hdd : List.drop (n + t.len) (List.drop p T) = T.drop (p + n + t.len) := by rw [List.drop_drop]; congr 1; omega
    rw [List.drop_drop] at h3 hst
    cases i with
    | zero =>
      refine ⟨p + n, t, rfl, by omega, hst, h3, h4, rfl, rfl, rfl, rfl, ?_⟩
      rw [hdd] at h5
      cases h5 with
      | @done _ _ _ m g1 g2 =>
        refine ⟨m, g1, fun h => by simp at h, fun _ => ?_⟩
        have := skip_le g1
        have g2 := congrArg List.length g2
        simp only [List.length_drop, List.length_nil] at this g2; omega
      | @more _ _ _ m t2 l g1 g2 g3 g4 g5 =>
        refine ⟨m, g1, fun _ => ⟨rfl, ?_⟩, fun h => by simp at h⟩
        rw [List.drop_drop] at g2; exact g2
    | succ i =>
      have hi' : i < l.length := by simpa using hi
      obtain ⟨q, t2, e1, e2, e3, e4, e5, e6, e7, e8, e9, m, f1, f2, f3⟩ := ih hdd (by omega) i hi'
      exact ⟨q, t2, e1, e2, e3, e4, e5, e6, e7, e8, e9, m, f1, fun h => f2 (by simpa using h), fun h => f3 (by simpa using h)⟩

theorem take_part {T : List Byte} {q k m : Nat} {u : List Byte} (hu : T.drop q = u ++ T.drop (q + k)) (hk : u.length = k) : (T.drop q).take (k + m) = u ++ (T.drop (q + k)).take m := by
  rw [hu, List.take_append, hk, Nat.add_sub_cancel_left, List.take_of_length_le (by omega)]

theorem swap_take {x : List Byte} {m : Nat} {t : Lx.Raw} (h : Lx.skip x = .ok m) (hd : ¬ dotName t.kind t.text t.quoted) : Swap x (x.take m) t := by
  by_cases hm : m = 0
  · subst hm; left; exact ⟨by intro c hc; simp at hc, hd⟩
  · right
    refine ⟨by rw [List.head?_take, if_neg hm], ?_⟩
    constructor
    · rintro ⟨r, rfl⟩
      have : 2 ≤ m := by
        unfold Lx.skip at h
        rw [if_neg (by decide), if_neg (by decide), if_pos ⟨rfl, rfl⟩] at h
        split at h
        · simp at h
        · obtain ⟨k, _, rfl⟩ := map_ok h; omega
      obtain ⟨m, rfl⟩ : ∃ k, m = k + 2 := ⟨m - 2, by omega⟩
      exact ⟨r.take m, rfl⟩
    · rintro ⟨r, e⟩
      have := List.take_append_drop m x
      rw [e] at this
      exact ⟨r ++ x.drop m, this.symm⟩

theorem tokens_alone {T : List Byte} {l : List Lx.Tok} (h : Lx.tokens T = .ok l) (i : Nat) (hi : i < l.length) (hd : ¬ dotName l[i].kind l[i].text l[i].quoted) {e : Nat}
    (he : e = if h : i + 1 < l.length then l[i + 1].at_ else T.length) :
    l[i].at_ ≤ e ∧ e ≤ T.length ∧ Lx.tokens ((T.drop l[i].at_).take (e - l[i].at_)) = .ok [⟨l[i].kind, l[i].text, l[i].num, 0, l[i].quoted, true⟩] := by
  obtain ⟨hlen, hT⟩ := tokens_ok_iff.1 h
  obtain ⟨q, t, e1, e2, e3, e4, e5, e6, e7, e8, e9, m, f1, f2, f3⟩ := toks_at (T := T) hT rfl (Nat.zero_le _) i hi
  have hl := tok_len e3 e4
  obtain ⟨u, hu, hul⟩ := split_at hl.2
  have hm := skip_le f1
  simp only [List.length_drop] at hl hm
  have hee : e = q + t.len + m := by
    rw [he]
    split
    · rename_i h; exact (f2 h).1
    · rename_i h; exact f3 (by omega)
  rw [← e1, hee]
  refine ⟨by omega, by omega, ?_⟩
  rw [show q + t.len + m - q = t.len + m from by omega, take_part hu hul]
  rw [e6, e7, e9] at hd
  have hsw := swap_take f1 hd
  rw [hu] at e3 e4
  have hst := stands_swap (by omega) hsw e3
  have htk := token_local hul hl.1 hsw e4
  refine tokens_ok_iff.2 ⟨by rw [List.length_append, List.length_take, List.length_drop]; omega, ?_⟩
  have hne : u ++ List.take m (List.drop (q + t.len) T) ≠ [] := by intro h; have := congrArg List.length h; simp only [List.length_append, List.length_nil] at this; omega
  have hfin : Toks (0 + 0 + t.len) false ((u ++ List.take m (List.drop (q + t.len) T)).drop (0 + t.len)) [] := by
    rw [Nat.zero_add, List.drop_left' hul]
    exact .done (skip_cut f1) (by rw [List.drop_take, Nat.sub_self, List.take_zero])
  have := Toks.more (p := 0) (first := true) (s := u ++ List.take m (List.drop (q + t.len) T)) (n := 0) (t := t) (l := []) (skip_stands0 hst) hne htk e5 hfin
  rw [e6, e7, e8, e9]
  exact this
end Go.Proofs.YtjcnhoagccdclaaDoor
