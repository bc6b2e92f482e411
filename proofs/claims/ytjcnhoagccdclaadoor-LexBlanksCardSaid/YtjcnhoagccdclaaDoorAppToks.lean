/-
  append of a row of tokens to a slice of tokens that the call has made.
-/
import Derived.Test.YtjcnhoagccdclaaDoorLike
import Derived.Laws.AppendOwnNone
namespace Go.Proofs.YtjcnhoagccdclaaDoor
open Go.RowKit
open Lx (Byte)

/-- A slice of tokens of the call's own. -/
def OwnToks (w : World) (base : Nat) (v : Value) (l : List Lx.Tok) : Prop := w.ownsRow base 29 6 v l.length (l.flatMap tokCells)

theorem flat_len (l : List Lx.Tok) : (l.flatMap tokCells).length = l.length * 6 := by
  induction l with
  | nil => rfl
  | cons t l ih => rw [List.flatMap_cons, List.length_append, ih, List.length_cons]; simp [tokCells]; omega
theorem flat_cell {w : World} {g : Nat} {l : List Lx.Tok} (h : ∀ k (hk : k < l.length), TokAt w g k l[k]) (j : Nat) (u : Value) (hu : (l.flatMap tokCells)[j]? = some u) : w.cell? ⟨g, j, none⟩ = some u := by
  have hj : j < l.length * 6 := by rw [← flat_len]; exact (List.getElem?_eq_some_iff.1 hu).1
  have hk : j / 6 < l.length := by omega
  have hr : j % 6 < 6 := Nat.mod_lt _ (by decide)
  have ht := h (j / 6) hk
  have hg := flat_get l (j / 6) hk (j % 6) hr
  rw [show j / 6 * 6 + j % 6 = j from by omega] at hg
  rw [hg] at hu
  have hjj : j = j / 6 * 6 + j % 6 := by omega
  generalize hq : j / 6 = q at *
  generalize hm : j % 6 = m at *
  subst hjj
  match m, hr with
  | 0, _ => simp only [tokCells, List.getElem?_cons_zero, Option.some.injEq] at hu; subst hu; exact ht.kind
  | 1, _ => simp only [tokCells, List.getElem?_cons_succ, List.getElem?_cons_zero, Option.some.injEq] at hu; subst hu; exact ht.text
  | 2, _ => simp only [tokCells, List.getElem?_cons_succ, List.getElem?_cons_zero, Option.some.injEq] at hu; subst hu; exact ht.num
  | 3, _ => simp only [tokCells, List.getElem?_cons_succ, List.getElem?_cons_zero, Option.some.injEq] at hu; subst hu; exact ht.at_
  | 4, _ => simp only [tokCells, List.getElem?_cons_succ, List.getElem?_cons_zero, Option.some.injEq] at hu; subst hu; exact ht.quoted
  | 5, _ => simp only [tokCells, List.getElem?_cons_succ, List.getElem?_cons_zero, Option.some.injEq] at hu; subst hu; exact ht.apart
theorem tok_info2 : (Tryd.prog.info? 29).map (fun i => (i.zero, i.size, i.bytes)) = some (some (.agg #[.int .i64 0, .string ByteArray.empty, .int .i64 0, .int .i64 0, .bool false, .bool false]), 6, 48) := by kernel_rfl

theorem append_toks {ops : Array Oper} {rest : List Oper} {o : Oper} {a : Act} {Q : Exit → Act → World → Prop} {w : World} (hgd : o.guard = none) (s x : Operand)
    (ho : o.op = .call { callee := .builtin .append, args := #[s, x], argTypes := #[23, 23] })
    (base : Nat) (v : Value) (l : List Lx.Tok) (hs : a.eval s = v) (hown : OwnToks w base v l) (vx : Value) (m : List Lx.Tok) (hx : a.eval x = vx) (hrow : RowOf w vx m)
    (hl : l.length + m.length ≤ 40000) (hbase : base ≤ w.heap.size)
    (h : ∀ v' w', OwnToks w' base v' (l ++ m) → Below base w w' → base ≤ w'.heap.size → wpList Tryd.prog ops Q rest (a.put o.dst v') w') : wpList Tryd.prog ops Q (o :: rest) a w := by
  obtain ⟨i0, hi, hz0, hz1, hz2⟩ := info_parts tok_info2
  rcases hrow with ⟨rfl, rfl⟩ | ⟨g, cap, rfl, hcap, hT⟩
  · exact wpList_append_own_none hgd s x 23 ho base 29 i0 6 Tryd.underlying23 hi v l.length (l.flatMap tokCells) hs hown hx (h v w (by rw [List.append_nil]; exact hown) (Below.refl _ _) hbase)
  · refine wpList_append_own w hgd s x 23 ho base 29 i0 (.agg #[.int .i64 0, .string ByteArray.empty, .int .i64 0, .int .i64 0, .bool false, .bool false]) 6 48 Tryd.underlying23 hi hz0 hz1 hz2 rfl (by decide) v l.length (l.flatMap tokCells) hs hown ⟨g, 0, none⟩ m.length cap (m.flatMap tokCells) hx (flat_len m) ?_ ?_ ?_ ?_ hbase ?_
    · intro j u hu
      have := flat_cell hT j u hu
      rwa [show (⟨g, 0, none⟩ : Addr).add j = ⟨g, j, none⟩ from by unfold Addr.add; split <;> simp_all]
    · intro u hu
      rw [List.mem_flatMap] at hu
      obtain ⟨t, _, hu⟩ := hu
      simp only [tokCells, List.mem_cons, List.not_mem_nil, or_false] at hu
      rcases hu with rfl | rfl | rfl | rfl | rfl | rfl <;> rfl
    · unfold maxLen; omega
    · omega
    · intro v' w' h1 h2 _
      refine h v' w' ?_ (Below.grown (Below.refl _ _) h2 hbase (fun j hj => (hown.lt j hj).1)) (Nat.le_trans hbase h2.size)
      unfold OwnToks
      rw [List.length_append, List.flatMap_append]
      exact h1
theorem OwnToks.slice {w : World} {base : Nat} {v : Value} {l : List Lx.Tok} (h : OwnToks w base v l) : SliceOf w v l := SliceOf.row (RowOf.of h)
end Go.Proofs.YtjcnhoagccdclaaDoor
