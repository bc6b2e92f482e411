/-
  A name in quotes, and twice with a name between: plain Lean.
-/
import Derived.Test.YtjcnhoagccdclaaDoorLocal
namespace Go.Proofs.YtjcnhoagccdclaaDoor
open Lx (Byte)

/-- A byte of a name, in quotes. -/
def qByte (c : Byte) : List Byte := if c = 39 ∨ c = 92 then [c, c] else [c]
/-- A name's bytes, in quotes. -/
def qBody (s : List Byte) : List Byte := s.flatMap qByte
def qText (s : List Byte) : List Byte := 39 :: (qBody s ++ [39])
def qLaw (s : List Byte) : List Byte := qText s ++ ([32, 120, 32] ++ qText s)
def seen (c : Byte) : Bool := 32 ≤ c && c ≤ 126

theorem quoted_q : ∀ (s : List Byte) (k : Nat) (z : List Byte), (∀ c ∈ s, seen c = true) → z.head? ≠ some 39 → Lx.quoted k (qBody s ++ 39 :: z) = .ok (s, k + (qBody s).length + 1)
  | [], k, z, _, hz => by
    show Lx.quoted k (39 :: z) = _
    unfold Lx.quoted
    rw [if_pos rfl]
    cases z with
    | nil => rfl
    | cons d z => simp only; rw [if_neg (by simpa using hz)]; rfl
  | c :: s, k, z, h, hz => by
    have hc := h c List.mem_cons_self
    have ih := fun k => quoted_q s k z (fun d hd => h d (List.mem_cons_of_mem _ hd)) hz
    simp only [seen, Bool.and_eq_true, decide_eq_true_eq] at hc
    have hb : qBody (c :: s) = qByte c ++ qBody s := rfl
    rw [hb, List.append_assoc]
    by_cases h39 : c = 39
    · subst h39
      show Lx.quoted k (39 :: 39 :: (qBody s ++ 39 :: z)) = _
      unfold Lx.quoted
      rw [if_pos rfl]
      simp only
      rw [if_pos trivial, ih]
      simp only [Lx.Res.map, Lx.Res.ok.injEq, Prod.mk.injEq, true_and, List.length_append]
      simp [qByte]; omega
    · by_cases h92 : c = 92
      · subst h92
        show Lx.quoted k (92 :: 92 :: (qBody s ++ 39 :: z)) = _
        unfold Lx.quoted
        rw [if_neg (by decide), if_pos rfl]
        simp only
        rw [show Lx.esc 92 = some 92 from rfl]
        simp only
        rw [ih]
        simp only [Lx.Res.map, Lx.Res.ok.injEq, Prod.mk.injEq, true_and, List.length_append]
        simp [qByte]; omega
      · have hq : qByte c = [c] := by unfold qByte; rw [if_neg (by rintro (h | h) <;> contradiction)]
        rw [hq]
        show Lx.quoted k (c :: (qBody s ++ 39 :: z)) = _
        unfold Lx.quoted
        rw [if_neg h39, if_neg h92, if_pos hc, ih]
        simp only [Lx.Res.map, Lx.Res.ok.injEq, Prod.mk.injEq, true_and, List.length_append, List.length_singleton]
        omega

theorem token_q {s z : List Byte} (h : ∀ c ∈ s, seen c = true) (hz : z.head? ≠ some 39) : Lx.token (qText s ++ z) = .ok ⟨1, s, 0, true, (qText s).length⟩ := by
  have e : qText s ++ z = 39 :: (qBody s ++ 39 :: z) := by simp [qText]
  rw [e]
  simp only [Lx.token]
  rw [if_neg (by decide), if_neg (by decide), if_neg (by decide), if_neg (by decide), if_neg (by decide), if_pos trivial, quoted_q s 1 z h hz]
  simp only [Lx.Res.map, Lx.Res.ok.injEq, Lx.Raw.mk.injEq, true_and]
  simp [qText]; omega
theorem skip_q (s z : List Byte) : Lx.skip (qText s ++ z) = .ok 0 := by
  show Lx.skip (39 :: _) = _
  unfold Lx.skip
  rw [if_neg (by decide), if_neg (by decide), if_neg (by rintro ⟨h, _⟩; exact absurd h (by decide))]
theorem skip_blank1 (r : List Byte) (n : Nat) (h : Lx.skip r = .ok n) : Lx.skip (32 :: r) = .ok (n + 1) := by
  rw [Lx.skip, if_pos (by decide), h]; rfl

/-- The tokens of such a text. -/
def qToks (s : List Byte) : List Lx.Tok := [⟨1, s, 0, 0, true, true⟩, ⟨1, [120], 0, (qText s).length + 1, false, true⟩, ⟨1, s, 0, (qText s).length + 3, true, true⟩]

theorem tokens_quotes {s : List Byte} (h : ∀ c ∈ s, seen c = true) (hl : s.length ≤ 64) : Lx.tokens (qLaw s) = .ok (qToks s) := by
  have hlen : (qBody s).length ≤ 2 * s.length := by
    clear h hl
    induction s with
    | nil => simp [qBody]
    | cons c s ih =>
      have : qBody (c :: s) = qByte c ++ qBody s := rfl
      rw [this, List.length_append, List.length_cons]
      have : (qByte c).length ≤ 2 := by unfold qByte; split <;> simp
      omega
  have hq : (qText s).length = (qBody s).length + 2 := by simp [qText]
  refine tokens_ok_iff.2 ⟨by simp only [qLaw, List.length_append, hq, List.length_cons, List.length_nil]; omega, ?_⟩
  have t3 : Toks ((qText s).length + 1 + 1) false (32 :: qText s) [⟨1, s, 0, (qText s).length + 1 + 1 + 1, true, true⟩] := by
    have hs : Lx.skip (32 :: qText s) = .ok 1 := skip_blank1 _ _ (by have := skip_q s []; rwa [List.append_nil] at this)
    have ht := token_q (z := []) h (by simp)
    rw [List.append_nil] at ht
    exact Toks.more (n := 1) (t := ⟨1, s, 0, true, (qText s).length⟩) (l := []) hs (by simp [qText]) ht (by simp; omega)
      (.done (n := 0) (by rw [Nat.add_comm, List.drop_succ_cons, List.drop_length]; unfold Lx.skip; rfl) (by rw [List.drop_zero, Nat.add_comm, List.drop_succ_cons, List.drop_length]))
  have t2 : Toks ((qText s).length) false (32 :: 120 :: 32 :: qText s) (⟨1, [120], 0, (qText s).length + 1, false, true⟩ :: [⟨1, s, 0, (qText s).length + 1 + 1 + 1, true, true⟩]) := by
    have hs : Lx.skip (32 :: 120 :: 32 :: qText s) = .ok 1 := skip_blank1 _ 0 (by unfold Lx.skip; rw [if_neg (by decide), if_neg (by decide), if_neg (by rintro ⟨h, _⟩; exact absurd h (by decide))])
    refine Toks.more (n := 1) (t := ⟨1, [120], 0, false, 1⟩) hs (by simp) ?_ (by simp) t3
    show Lx.token (120 :: 32 :: qText s) = _
    simp only [Lx.token]
    rw [if_pos (by decide)]
    rw [show Lx.run Lx.letter (120 :: 32 :: qText s) = 1 from run_mk [120] (32 :: qText s) (by simp; decide) (by simp; decide)]
    rfl
  have hs0 := skip_q s ([32, 120, 32] ++ qText s)
  refine Toks.more (first := true) (p := 0) (n := 0) (t := ⟨1, s, 0, true, (qText s).length⟩) hs0 (by simp [qText, qLaw]) (token_q h (by simp)) (by simp; omega) ?_
  simp only [Nat.zero_add, qLaw, List.drop_left]
  exact t2

theorem tokens_quotes_long {s : List Byte} (h : ∀ c ∈ s, seen c = true) (hl : ¬ s.length ≤ 64) : Lx.tokens (qLaw s) = .err 2 0 := by
  refine tokens_err_iff.2 ?_
  by_cases hb : (qLaw s).length > 16384
  · exact .inl ⟨hb, rfl, rfl⟩
  · right
    refine ⟨by omega, ?_⟩
    have hs0 := skip_q s ([32, 120, 32] ++ qText s)
    exact Fails.long (p := 0) (n := 0) (t := ⟨1, s, 0, true, (qText s).length⟩) hs0 (by simp [qText, qLaw]) (token_q h (by simp)) (by simp; omega)
end Go.Proofs.YtjcnhoagccdclaaDoor
