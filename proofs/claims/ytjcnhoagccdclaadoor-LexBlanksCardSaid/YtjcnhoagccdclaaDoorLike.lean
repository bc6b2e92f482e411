/-
  Like: two rows of tokens that are alike but for places and what stands ahead.
-/
import Derived.Test.YtjcnhoagccdclaaDoorLexQ
import Derived.Test.YtjcnhoagccdclaaDoorBlanksL
namespace Go.Proofs.YtjcnhoagccdclaaDoor
open Go.RowKit
open Lx (Byte)

/-- A token's cells from an offset on. -/
structure TokC (w : World) (g b : Nat) (t : Lx.Tok) : Prop where
  kind : w.cell? ⟨g, b, none⟩ = some (.int .i64 t.kind)
  text : w.cell? ⟨g, b + 1, none⟩ = some (.string ⟨t.text.toArray⟩)
  num : w.cell? ⟨g, b + 2, none⟩ = some (.int .i64 t.num)
  at_ : w.cell? ⟨g, b + 3, none⟩ = some (.int .i64 (t.at_ : Int))
  quoted : w.cell? ⟨g, b + 4, none⟩ = some (.bool t.quoted)
  apart : w.cell? ⟨g, b + 5, none⟩ = some (.bool t.apart)
/-- A slice of tokens, wherever it lies. -/
def SliceOf (w : World) (v : Value) (l : List Lx.Tok) : Prop :=
  (l = [] ∧ v = .slice none 0 0) ∨ ∃ (g off cap : Nat), v = .slice (some ⟨g, off, none⟩) l.length cap ∧ l.length ≤ cap ∧ ∀ i (h : i < l.length), TokC w g (off + i * 6) l[i]
theorem SliceOf.len {w : World} {v : Value} {l : List Lx.Tok} (h : SliceOf w v l) : ∃ ao cap, v = .slice ao l.length cap := by
  rcases h with ⟨h, hv⟩ | ⟨g, off, cap, hv, _, _⟩
  · exact ⟨none, 0, by rw [hv, h]; rfl⟩
  · exact ⟨_, _, hv⟩
theorem SliceOf.some_ {w : World} {v : Value} {l : List Lx.Tok} (h : SliceOf w v l) (hl : 0 < l.length) : ∃ (g off cap : Nat), v = .slice (some ⟨g, off, none⟩) l.length cap ∧ l.length ≤ cap ∧ ∀ i (h : i < l.length), TokC w g (off + i * 6) l[i] := by
  rcases h with ⟨h, _⟩ | h
  · subst h; simp at hl
  · exact h
theorem SliceOf.row {w : World} {v : Value} {l : List Lx.Tok} (h : RowOf w v l) : SliceOf w v l := by
  rcases h with h | ⟨g, cap, hv, hc, ht⟩
  · exact .inl h
  · refine .inr ⟨g, 0, cap, hv, hc, fun i hi => ?_⟩
    have := ht i hi
    rw [Nat.zero_add]
    exact ⟨this.kind, this.text, this.num, this.at_, this.quoted, this.apart⟩
theorem TokC.below {w w' : World} {g b : Nat} {t : Lx.Tok} (h : TokC w g b t) (hb : Below w.heap.size w w') : TokC w' g b t := by
  have hc : ∀ {a v}, w.cell? a = some v → w'.cell? a = some v := fun hx => (Chg.of_below (S := fun _ => False) hb).cell hx (fun x => x)
  exact ⟨hc h.kind, hc h.text, hc h.num, hc h.at_, hc h.quoted, hc h.apart⟩
theorem SliceOf.below {w w' : World} {v : Value} {l : List Lx.Tok} (h : SliceOf w v l) (hb : Below w.heap.size w w') : SliceOf w' v l := by
  rcases h with h | ⟨g, off, cap, hv, hc, ht⟩
  · exact .inl h
  · exact .inr ⟨g, off, cap, hv, hc, fun i hi => (ht i hi).below hb⟩
theorem TokC.drewN {w : World} {g b : Nat} {t : Lx.Tok} (h : TokC w g b t) (n : Nat) : TokC (w.drewN n) g b t := ⟨h.kind, h.text, h.num, h.at_, h.quoted, h.apart⟩

theorem like_get {x y : List Lx.Tok} (h : x.map likeTok = y.map likeTok) (i : Nat) (hx : i < x.length) (hy : i < y.length) : y[i].kind = x[i].kind ∧ y[i].text = x[i].text ∧ y[i].num = x[i].num ∧ y[i].quoted = x[i].quoted := by
  have h1 : (x.map likeTok)[i]? = (y.map likeTok)[i]? := by rw [h]
  simp only [List.getElem?_map, List.getElem?_eq_getElem hx, List.getElem?_eq_getElem hy, Option.map_some, Option.some.injEq] at h1
  simp only [likeTok, Lx.Tok.mk.injEq] at h1
  exact ⟨h1.1.symm, h1.2.1.symm, h1.2.2.1.symm, h1.2.2.2.2.1.symm⟩

set_option maxRecDepth 100000 in
set_option maxHeartbeats 4000000 in
theorem like_yes (va vb : Value) (x y : List Lx.Tok) (w : World) (ha : SliceOf w va x) (hb : SliceOf w vb y) (hxy : x.map likeTok = y.map likeTok) (hl : x.length ≤ 40000) :
    Calls Tryd.prog 11 #[va, vb] w fun e w' => e = .returned (.bool true) ∧ ∃ n, w' = w.drewN n := by
  have hlen : y.length = x.length := by have := congrArg List.length hxy; simpa using this.symm
  by_cases h0 : 0 < x.length
  · obtain ⟨g, off, cap, rfl, hcap, hto⟩ := ha.some_ h0
    obtain ⟨g2, off2, cap2, rfl, hcap2, hto2⟩ := hb.some_ (by omega)
    have HX := Lib.hid (And.intro hxy (And.intro hto hto2))
    clear ha hb hxy hto hto2
    rw [hlen] at hcap2 ⊢
    have HL := Lib.hid hlen
    clear hlen
    go_enter Tryd.func11, Tryd.ntmps11
    go_wp2
    go_loopw [5] (fun i wr => ∃ k : Nat, k ≤ x.length ∧ i = .int .i64 k ∧ ∃ m, wr = w.drewN m) (fun i _ => x.length - (intOf i).toNat)
    case atStart => exact ⟨0, Nat.zero_le _, rfl, 0, rfl⟩
    case round =>
      obtain ⟨k, hk, rfl, m, rfl⟩ := hrel
      by_cases hlt : k < x.length
      · have hlt2 : k < y.length := by have := HL.out; omega
        obtain ⟨e1, e2, e3, e4⟩ := like_get HX.out.1 k hlt hlt2
        have hA := HX.out.2.1 k hlt
        have hB := HX.out.2.2 k hlt2
        obtain ⟨a0, a1, a2, a3, a4, a5⟩ := hA
        obtain ⟨b0, b1, b2, b3, b4, b5⟩ := hB
        rw [e1] at b0
        rw [e2] at b1
        rw [e3] at b2
        rw [e4] at b4
        clear e1 e2 e3 e4 a3 a5 b3 b5
        have hk0 : (0 : Int) ≤ (k : Int) := by omega
        have hk1 : (k : Int) < (x.length : Int) := by omega
        go_wp2
        go_quiet (fail)
        go_wp2
        go_roundw
        case rel => exact ⟨k + 1, by omega, by go_num, _, rfl⟩
        case measure => simp [intOf]; omega
      · go_wp2
        go_ret
        exact ⟨rfl, m, rfl⟩
  · have hx0 : x.length = 0 := by omega
    have hy0 : y.length = 0 := by omega
    obtain ⟨ao, cap, rfl⟩ := ha.len
    obtain ⟨bo, cap2, rfl⟩ := hb.len
    rw [hx0, hy0]
    clear ha hb hxy hlen h0 hx0 hy0 hl
    go_enter Tryd.func11, Tryd.ntmps11
    go_wp2
    refine wp_loop_rounds 1 ?_
    rw [rounds_succ]
    go_wp2
    go_ret
    exact ⟨rfl, 0, rfl⟩
end Go.Proofs.YtjcnhoagccdclaaDoor
