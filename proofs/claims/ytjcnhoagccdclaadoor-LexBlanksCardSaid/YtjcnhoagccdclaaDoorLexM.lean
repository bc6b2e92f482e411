/-
  Tokens, whatever the text; Bare.
-/
import Derived.Test.YtjcnhoagccdclaaDoorLexL
import Derived.Test.YtjcnhoagccdclaaDoorErrCode
namespace Go.Proofs.YtjcnhoagccdclaaDoor
open Go.RowKit
open Lx (Byte)

/-- What the package variables hold that Tokens reads. -/
structure Vars (w : World) : Prop where
  range : ErrRangeAt w
  len : ∃ m : Int, w.cell? ⟨2, 0, none⟩ = some (.int .i64 m)
  err : ErrorTypeAt w
theorem Vars.below {w w' : World} (h : Vars w) (hb : Below w.heap.size w w') : Vars w' := by
  obtain ⟨⟨er, h1⟩, ⟨m, h2⟩, h3⟩ := h
  exact ⟨⟨er, (Chg.of_below (S := fun _ => False) hb).cell h1 (fun x => x)⟩, ⟨m, (Chg.of_below (S := fun _ => False) hb).cell h2 (fun x => x)⟩, (Chg.of_below (S := fun _ => False) hb).cell h3 (fun x => x)⟩

theorem tokens_long (text : ByteArray) (hs : ¬ text.size ≤ 16384) : Lx.tokens text.data.toList = .err 2 0 := by
  unfold Lx.tokens; rw [if_pos (by simp; omega)]

theorem tokens_full (text : ByteArray) (w : World) (hv : Vars w) : Calls Tryd.prog 10 #[.string text] w (TokensPost text w) := by
  by_cases hs : text.size ≤ 16384
  · obtain ⟨hr, ⟨m, hm⟩, _⟩ := hv
    exact tokens_any text w hs hr m hm
  · have hle : (16384 : Int) < text.size := by omega
    go_enter Tryd.func10, Tryd.ntmps10
    go_wp2_with (go_at_call 17; refine (new_any 2 0 (by decide) _).mono ?_; rintro e w' ⟨fv, rfl, hf, hb⟩)
    all_goals go_ret2
    exact TokensPost.err_of (c := 2) (a := 0) (tokens_long text hs) hf hb

/-- Is a name one token that isn't quoted? -/
def bare (s : List Byte) : Bool :=
  match Lx.tokens s with
  | .ok [t] => t.kind == 1 && !t.quoted && (t.text == s)
  | _ => false

/-- A token of a row, cell by cell. -/
structure TokAt (w : World) (g : Nat) (i : Nat) (t : Lx.Tok) : Prop where
  kind : w.cell? ⟨g, i * 6, none⟩ = some (.int .i64 t.kind)
  text : w.cell? ⟨g, i * 6 + 1, none⟩ = some (.string ⟨t.text.toArray⟩)
  num : w.cell? ⟨g, i * 6 + 2, none⟩ = some (.int .i64 t.num)
  at_ : w.cell? ⟨g, i * 6 + 3, none⟩ = some (.int .i64 (t.at_ : Int))
  quoted : w.cell? ⟨g, i * 6 + 4, none⟩ = some (.bool t.quoted)
  apart : w.cell? ⟨g, i * 6 + 5, none⟩ = some (.bool t.apart)

theorem flat_get (l : List Lx.Tok) (i : Nat) (h : i < l.length) (j : Nat) (hj : j < 6) : (l.flatMap tokCells)[i * 6 + j]? = (tokCells l[i])[j]? := by
  induction l generalizing i with
  | nil => simp at h
  | cons t r ih =>
    rw [List.flatMap_cons]
    cases i with
    | zero => rw [Nat.zero_mul, Nat.zero_add, List.getElem?_append_left (by simp [tokCells]; omega)]; rfl
    | succ i =>
      rw [List.getElem?_append_right (by simp [tokCells]; omega)]
      have := ih i (by simpa using h)
      rw [show (i + 1) * 6 + j - (tokCells t).length = i * 6 + j from by simp [tokCells]; omega, this]; rfl

theorem row_tok {w : World} {base : Nat} {v : Value} {l : List Lx.Tok} (h : w.ownsRow base 29 6 v l.length (l.flatMap tokCells)) (i : Nat) (hi : i < l.length) :
    ∃ g cap, v = .slice (some ⟨g, 0, none⟩) l.length cap ∧ base ≤ g ∧ l.length ≤ cap ∧ TokAt w g i l[i] := by
  rcases h.2 with ⟨_, h0⟩ | ⟨g, cap, cur, rfl, hg, hh, hc, _⟩
  · omega
  · have hcell : ∀ j u, (l.flatMap tokCells)[j]? = some u → w.cell? ⟨g, j, none⟩ = some u := by
      intro j u hu
      have := h.cells (g := g) rfl j u hu
      rwa [show (⟨g, 0, none⟩ : Addr).add j = ⟨g, j, none⟩ from by unfold Addr.add; split <;> simp_all] at this
    refine ⟨g, cap, rfl, hg, hc, ?_, ?_, ?_, ?_, ?_, ?_⟩
    · exact hcell (i * 6) _ (by rw [show i * 6 = i * 6 + 0 from rfl, flat_get l i hi 0 (by omega)]; rfl)
    · exact hcell (i * 6 + 1) _ (by rw [flat_get l i hi 1 (by omega)]; rfl)
    · exact hcell (i * 6 + 2) _ (by rw [flat_get l i hi 2 (by omega)]; rfl)
    · exact hcell (i * 6 + 3) _ (by rw [flat_get l i hi 3 (by omega)]; rfl)
    · exact hcell (i * 6 + 4) _ (by rw [flat_get l i hi 4 (by omega)]; rfl)
    · exact hcell (i * 6 + 5) _ (by rw [flat_get l i hi 5 (by omega)]; rfl)
end Go.Proofs.YtjcnhoagccdclaaDoor
