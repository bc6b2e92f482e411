/-
  A slice of bytes that the call has made; one byte appended; what it is as a string.
-/
import Derived.Test.YtjcnhoagccdclaaDoorLexQ
import Derived.Laws.OwnMore
import Derived.Laws.IdiomStrings
namespace Go.Proofs.YtjcnhoagccdclaaDoor
open Go.RowKit
open Lx (Byte)

/-- Bytes as cells. -/
def byteCells (l : List Byte) : List Value := l.map fun b => .int .u8 (b.toNat : Int)
/-- A slice of bytes of the call's own. -/
def Bytes (w : World) (base : Nat) (v : Value) (l : List Byte) : Prop := w.ownsRow base 5 1 v l.length (byteCells l)
theorem Bytes.alloc {w : World} {base : Nat} {v : Value} {l : List Byte} (h : Bytes w base v l) (o : Obj) : Bytes (w.alloc o) base v l := World.ownsRow.alloc h o
theorem Bytes.own_lt {w : World} {base : Nat} {v : Value} {l : List Byte} (h : Bytes w base v l) : ∀ j, v.ownBlock = some j → base ≤ j := fun j hj => (h.lt j hj).1

theorem byte_info : (Tryd.prog.info? 5).map (fun i => (i.zero, i.size, i.bytes)) = some (some (.int .u8 0), 1, 1) := by kernel_rfl

/-- append(v, c) for a byte c: the new slice, and what it has turned. -/
theorem append_byte {ops : Array Oper} {rest : List Oper} {o : Oper} {a : Act} {Q : Exit → Act → World → Prop} {w : World} (hgd : o.guard = none) (s x : Operand)
    (ho : o.op = .call { callee := .builtin .append, args := #[s, x], argTypes := #[36, 36] })
    (base : Nat) (v : Value) (l : List Byte) (hs : a.eval s = v) (hown : Bytes w base v l) (g : Nat) (cc : Nat) (c : Byte) (hx : a.eval x = .slice (some ⟨g, 0, none⟩) 1 cc)
    (hc : w.cell? ⟨g, 0, none⟩ = some (.int .u8 (c.toNat : Int))) (hl : l.length + 1 ≤ 140737488355328) (hbase : base ≤ w.heap.size)
    (h : ∀ v' w', Bytes w' base v' (l ++ [c]) → Below base w w' → base ≤ w'.heap.size → wpList Tryd.prog ops Q rest (a.put o.dst v') w') : wpList Tryd.prog ops Q (o :: rest) a w := by
  obtain ⟨i0, hi, hz0, hz1, hz2⟩ := info_parts byte_info
  refine wpList_append_own w hgd s x 36 ho base 5 i0 (.int .u8 0) 1 1 Tryd.underlying36 hi hz0 hz1 hz2 rfl (by decide) v l.length (byteCells l) hs hown ⟨g, 0, none⟩ 1 cc [.int .u8 (c.toNat : Int)] hx rfl ?_ ?_ ?_ ?_ hbase ?_
  · intro j u hu
    cases j with
    | zero => simp only [List.getElem?_cons_zero, Option.some.injEq] at hu; subst hu; exact hc
    | succ j => simp at hu
  · intro u hu
    simp only [List.mem_singleton] at hu
    subst hu; rfl
  · unfold maxLen; omega
  · omega
  · intro v' w' h1 h2 _
    refine h v' w' ?_ (Below.grown (Below.refl _ _) h2 hbase (Bytes.own_lt hown)) (Nat.le_trans hbase h2.size)
    unfold Bytes byteCells
    rw [List.length_append, List.map_append]
    exact h1

/-- string(v) -/
theorem Bytes.form {w : World} {base : Nat} {v : Value} {l : List Byte} (h : Bytes w base v l) (hn : 0 < l.length) : ∃ g n cap, v = .slice (some ⟨g, 0, none⟩) n cap ∧ n = l.length ∧ ∀ j (hj : j < l.length), w.cell? ((⟨g, 0, none⟩ : Addr).add j) = some (.int .u8 (l[j].toNat : Int)) := by
  rcases h.2 with ⟨_, h0⟩ | ⟨g, cap, cur, hv, hg, _⟩
  · omega
  · refine ⟨g, _, cap, hv, rfl, fun j hj => ?_⟩
    have := World.ownsRow.cells h (g := g) (by rw [hv]; rfl) j (.int .u8 (l[j].toNat : Int)) (by simp [byteCells, List.getElem?_eq_getElem hj])
    exact this
theorem bytes_string {w : World} {g cap n : Nat} {l : List Byte} (hn : n = l.length) (hc : ∀ j (hj : j < l.length), w.cell? ((⟨g, 0, none⟩ : Addr).add j) = some (.int .u8 (l[j].toNat : Int))) :
    (convert 36 9 (.slice (some ⟨g, 0, none⟩) n cap)).run Tryd.prog w = .ok (.string ⟨l.toArray⟩) w := by
  subst hn
  exact run_convert_bytes_back w 36 9 5 ⟨g, 0, none⟩ cap l Tryd.underlying36 Tryd.underlying5 Tryd.underlying9 hc
end Go.Proofs.YtjcnhoagccdclaaDoor
