/-
  Bare: is a name one token that isn't quoted?
-/
import Derived.Test.YtjcnhoagccdclaaDoorLexM
namespace Go.Proofs.YtjcnhoagccdclaaDoor
open Go.RowKit
open Lx (Byte)

/-- Tokens' contract, by what the tokens are. -/
theorem tokens_err {text : ByteArray} {w : World} (hv : Vars w) {c a : Nat} (h : Lx.tokens text.data.toList = .err c a) :
    Calls Tryd.prog 10 #[.string text] w fun e w' => ∃ fv, e = .returned (.tuple #[.slice none 0 0, fv]) ∧ FaultAt w' fv c (a : Nat) ∧ Below w.heap.size w w' := by
  refine (tokens_full text w hv).mono ?_
  intro e w' hp
  unfold TokensPost at hp; rw [h] at hp; exact hp
theorem tokens_ok {text : ByteArray} {w : World} (hv : Vars w) {l : List Lx.Tok} (h : Lx.tokens text.data.toList = .ok l) :
    Calls Tryd.prog 10 #[.string text] w fun e w' => ∃ v, e = .returned (.tuple #[v, .nilIface]) ∧ w'.ownsRow w.heap.size 29 6 v l.length (l.flatMap tokCells) ∧ Below w.heap.size w w' := by
  refine (tokens_full text w hv).mono ?_
  intro e w' hp
  unfold TokensPost at hp; rw [h] at hp; exact hp

/-- A slice of tokens, whatever its address. -/
def RowOf (w : World) (v : Value) (l : List Lx.Tok) : Prop := (l = [] ∧ v = .slice none 0 0) ∨ ∃ (g cap : Nat), v = .slice (some ⟨g, 0, none⟩) l.length cap ∧ l.length ≤ cap ∧ ∀ i (h : i < l.length), TokAt w g i l[i]
theorem RowOf.of {w : World} {base : Nat} {v : Value} {l : List Lx.Tok} (h : w.ownsRow base 29 6 v l.length (l.flatMap tokCells)) : RowOf w v l := by
  rcases h.2 with ⟨hv, h0⟩ | ⟨g, cap, cur, hv, hg, hh, hc, _⟩
  · exact .inl ⟨List.eq_nil_of_length_eq_zero h0, hv⟩
  · refine .inr ⟨g, cap, hv, hc, fun i hi => ?_⟩
    obtain ⟨g', cap', hv', _, _, ht⟩ := row_tok h i hi
    rw [hv] at hv'
    simp at hv'
    exact hv'.1 ▸ ht
theorem RowOf.one {w : World} {v : Value} {t : Lx.Tok} (h : RowOf w v [t]) : ∃ g cap, v = .slice (some ⟨g, 0, none⟩) 1 cap ∧ 1 ≤ cap ∧ w.cell? ⟨g, 0, none⟩ = some (.int .i64 t.kind) ∧ w.cell? ⟨g, 1, none⟩ = some (.string ⟨t.text.toArray⟩) ∧ w.cell? ⟨g, 2, none⟩ = some (.int .i64 t.num) ∧ w.cell? ⟨g, 3, none⟩ = some (.int .i64 (t.at_ : Int)) ∧ w.cell? ⟨g, 4, none⟩ = some (.bool t.quoted) ∧ w.cell? ⟨g, 5, none⟩ = some (.bool t.apart) := by
  rcases h with ⟨h, _⟩ | ⟨g, cap, rfl, hc, ht⟩
  · simp at h
  · have := ht 0 (by simp)
    exact ⟨g, cap, rfl, hc, by simpa using this.kind, by simpa using this.text, by simpa using this.num, by simpa using this.at_, by simpa using this.quoted, by simpa using this.apart⟩
theorem RowOf.len {w : World} {v : Value} {l : List Lx.Tok} (h : RowOf w v l) : ∃ ao cap, v = .slice ao l.length cap := by
  rcases h with ⟨h, hv⟩ | ⟨g, cap, hv, _, _⟩
  · exact ⟨none, 0, by rw [hv, h]; rfl⟩
  · exact ⟨_, _, hv⟩

set_option maxRecDepth 100000 in
theorem bare_any (s : ByteArray) (w : World) (hv : Vars w) :
    Calls Tryd.prog 15 #[.string s] w fun e w' => e = .returned (.bool (bare s.data.toList)) ∧ Below w.heap.size w w' := by
  cases ht : Lx.tokens s.data.toList with
  | err c a =>
    have hT := tokens_err hv ht
    have hb : bare s.data.toList = false := by unfold bare; rw [ht]
    rw [hb]
    clear ht hb
    go_enter Tryd.func15, Tryd.ntmps15
    go_wp2_with (go_at_call 10; refine hT.mono ?_; rintro e w1 ⟨fv, rfl, ⟨N, rfl, hN⟩, hb⟩)
    go_ret
    exact ⟨rfl, hb⟩
  | ok l =>
    have hT := tokens_ok hv ht
    by_cases h1 : ∃ t, l = [t]
    · obtain ⟨t, rfl⟩ := h1
      have hbare : bare s.data.toList = (t.kind == 1 && !t.quoted && (t.text == s.data.toList)) := by unfold bare; rw [ht]
      rw [hbare]
      clear ht hbare
      go_enter Tryd.func15, Tryd.ntmps15
      go_wp2_with (go_at_call 10; refine hT.mono ?_; rintro e w1 ⟨v, rfl, hrow, hb⟩; obtain ⟨g, cap, rfl, hcap, t0, t1, t2, t3, t4, t5⟩ := RowOf.one (RowOf.of hrow))
      all_goals (go_ret; refine ⟨ret_bool ?_, hb⟩)
      all_goals (simp [*, ByteArray.toList_eq])
    · have hl : ((l.length : Int) == 1) = false := by
        rw [beq_eq_false_iff_ne]
        intro h
        have h2 : l.length = 1 := by omega
        exact h1 (List.length_eq_one_iff.1 h2)
      have hbare : bare s.data.toList = false := by
        unfold bare; rw [ht]
        match l, h1 with
        | [], _ => rfl
        | [t], h1 => exact absurd ⟨t, rfl⟩ h1
        | _ :: _ :: _, _ => rfl
      rw [hbare]
      clear ht hbare h1
      go_enter Tryd.func15, Tryd.ntmps15
      go_wp2_with (go_at_call 10; refine hT.mono ?_; rintro e w1 ⟨v, rfl, hrow, hb⟩; obtain ⟨ao, cap, rfl⟩ := RowOf.len (RowOf.of hrow))
      go_ret
      exact ⟨ret_bool (by simp), hb⟩
end Go.Proofs.YtjcnhoagccdclaaDoor
