/-
  What a text's tokens are, in plain Lean, over the bytes that are left of the text. No program in sight.
-/
namespace Go.Proofs.YtjcnhoagccdclaaDoor.Lx

abbrev Byte := UInt8
def blank (c : Byte) : Bool := c == 9 || c == 10 || c == 13 || c == 32
def digit (c : Byte) : Bool := 48 ≤ c && c ≤ 57
def small (c : Byte) : Bool := 97 ≤ c && c ≤ 122
def capital (c : Byte) : Bool := (65 ≤ c && c ≤ 90) || c == 95
def letter (c : Byte) : Bool := small c || capital c || digit c
/-- The signs: + - * / \ ^ < > = ~ : . ? @ # & $ -/
def signs : List Byte := [43, 45, 42, 47, 92, 94, 60, 62, 61, 126, 58, 46, 63, 64, 35, 38, 36]
def sign (c : Byte) : Bool := signs.contains c
/-- ( ) [ ] { } , | -/
def puncts : List Byte := [40, 41, 91, 93, 123, 125, 44, 124]
def punct (c : Byte) : Bool := puncts.contains c

/-- A fault's code and place, or an answer. -/
inductive Res (α : Type) where
  | ok (a : α)
  | err (code : Nat) (at_ : Nat)
  deriving Repr, DecidableEq

def Res.shift {α : Type} (k : Nat) : Res α → Res α
  | .ok a => .ok a
  | .err c a => .err c (k + a)
def Res.map {α β : Type} (f : α → β) : Res α → Res β
  | .ok a => .ok (f a)
  | .err c a => .err c a

/-- How many bytes ahead fit. -/
def run (p : Byte → Bool) : List Byte → Nat
  | [] => 0
  | c :: r => if p c then run p r + 1 else 0

/-- Where the first "*/" begins. -/
def close : List Byte → Option Nat
  | [] => none
  | c :: r => if c = 42 ∧ r.head? = some 47 then some 0 else (close r).map (· + 1)

theorem run_le (p : Byte → Bool) (s : List Byte) : run p s ≤ s.length := by
  induction s with
  | nil => simp [run]
  | cons c r ih => simp only [run]; split <;> simp <;> omega

/-- How many bytes are blanks and remarks. -/
def skip (s : List Byte) : Res Nat :=
  match s with
  | [] => .ok 0
  | c :: r =>
    if blank c then ((skip r).shift 1).map (· + 1)
    else if c = 37 then
      let n := run (fun c => c != 10) r
      ((skip (r.drop n)).shift (n + 1)).map (· + (n + 1))
    else if c = 47 ∧ r.head? = some 42 then
      match close (r.drop 1) with
      | none => .err 81 0
      | some n => ((skip (r.drop (n + 3))).shift (n + 4)).map (· + (n + 4))
    else .ok 0
  termination_by s.length
  decreasing_by all_goals (simp only [List.length_drop, List.length_cons]; omega)

/-- What \ and a byte stand for. -/
def esc (c : Byte) : Option Byte :=
  if c = 110 then some 10 else if c = 116 then some 9 else if c = 92 ∨ c = 39 ∨ c = 34 then some c else none

/-- The name in quotes, k bytes behind the quote that opened it; and how many bytes there are to its end. -/
def quoted (k : Nat) : List Byte → Res (List Byte × Nat)
  | [] => .err 81 0
  | c :: r =>
    if c = 39 then
      match r with
      | [] => .ok ([], k + 1)
      | d :: r => if d = 39 then (quoted (k + 2) r).map fun x => (39 :: x.1, x.2) else .ok ([], k + 1)
    else if c = 92 then
      match r with
      | [] => .err 81 0
      | d :: r =>
        match esc d with
        | some x => (quoted (k + 2) r).map fun y => (x :: y.1, y.2)
        | none => .err 82 k
    else if 32 ≤ c ∧ c ≤ 126 then (quoted (k + 1) r).map fun x => (c :: x.1, x.2)
    else .err 80 k

/-- What digits are worth. -/
def worth (acc : Nat) (l : List Byte) : Nat := l.foldl (fun a c => a * 10 + (c.toNat - 48)) acc

/-- 0' and a byte: what stands behind 0'. The number, and how many bytes there are in all. -/
def code (s : List Byte) : Res (Int × Nat) :=
  match s with
  | [] => .err 81 0
  | c :: r =>
    if c = 39 then
      match r with
      | [] => .err 81 0
      | d :: _ => if d = 39 then .ok (39, 4) else .err 80 2
    else if c = 92 then
      match r with
      | [] => .err 81 0
      | d :: _ =>
        match esc d with
        | some x => .ok (x.toNat, 4)
        | none => .err 82 2
    else if 32 ≤ c ∧ c ≤ 126 then .ok (c.toNat, 3) else .err 80 2

/-- A number, from its first digit on. -/
def number (s : List Byte) : Res (Int × Nat) :=
  if s.head? = some 48 ∧ (s.drop 1).head? = some 39 then code (s.drop 2)
  else
    let n := run digit s
    if worth 0 (s.take n) ≤ 9223372036854775807 then .ok (worth 0 (s.take n), n) else .err 83 0

/-- Signs, up to a remark. -/
def symbols : List Byte → Nat
  | [] => 0
  | c :: r => if sign c ∧ ¬ (c = 47 ∧ r.head? = some 42) then symbols r + 1 else 0

/-- Is there a full stop, where the byte is a point? -/
def stop (r : List Byte) : Bool :=
  match r with
  | [] => true
  | d :: _ => blank d || d == 37

/-- A token as it was read: what it is, its text, the number, whether it is quoted; how many bytes it takes. -/
structure Raw where
  kind : Int
  text : List Byte
  num : Int
  quoted : Bool
  len : Nat
  deriving Repr, DecidableEq

def plain (s : List Byte) (kind : Int) (n : Nat) : Raw := ⟨kind, s.take n, 0, false, n⟩

/-- The token that begins here. -/
def token (s : List Byte) : Res Raw :=
  match s with
  | [] => .err 80 0
  | c :: r =>
    if small c then .ok (plain s 1 (run letter s))
    else if capital c then .ok (plain s 2 (run letter s))
    else if digit c then (number s).map fun x => ⟨3, s.take x.2, x.1, false, x.2⟩
    else if punct c then .ok (plain s 4 1)
    else if c = 33 ∨ c = 59 then .ok (plain s 1 1)
    else if c = 39 then (quoted 1 r).map fun x => ⟨1, x.1, 0, true, x.2⟩
    else if c = 46 ∧ stop r then .ok (plain s 5 1)
    else if sign c then .ok (plain s 1 (symbols s))
    else .err 80 0

structure Tok where
  kind : Int
  text : List Byte
  num : Int
  at_ : Nat
  quoted : Bool
  apart : Bool
  deriving Repr, DecidableEq

/-- The tokens of what is left of a text from p on, so many of them at most; first: none came ahead. -/
def toksF : Nat → Nat → Bool → List Byte → Res (List Tok)
  | 0, _, _, _ => .ok []
  | k + 1, p, first, s =>
    match skip s with
    | .err c a => .err c (p + a)
    | .ok n =>
      if s.drop n = [] then .ok []
      else match token (s.drop n) with
        | .err c a => .err c (p + n + a)
        | .ok t =>
          if t.kind ≤ 2 ∧ t.text.length > 64 then .err 2 (p + n)
          else (toksF k (p + n + t.len) false (s.drop (n + t.len))).map fun l => ⟨t.kind, t.text, t.num, p + n, t.quoted, decide (0 < n) || first⟩ :: l

/-- A text's tokens. -/
def tokens (s : List Byte) : Res (List Tok) :=
  if s.length > 16384 then .err 2 0 else toksF (s.length + 1) 0 true s

end Go.Proofs.YtjcnhoagccdclaaDoor.Lx
