/-
  Words of my own on worlds: what a call may have changed; a cell of a block that is known whole.
-/
import Derived.Test.YtjcnhoagccdclaaDoorProg
import Derived.WalkKit
import Derived.WalkLawsBesides
import Derived.WalkSpells
import Derived.KernelRfl
import Derived.Deep.QuietTactic
import Derived.BigQuiet
import Derived.Outline
import Derived.IntWalk
import Derived.Below
import Derived.OwnWalk
namespace Go.Proofs.YtjcnhoagccdclaaDoor
open Go.RowKit

/-- Of the blocks that there were, those in S alone may be others. -/
structure Chg (S : Nat → Prop) (w w' : World) : Prop where
  os : w'.os = w.os
  tape : w'.tape = w.tape
  output : w'.output = w.output
  size : w.heap.size ≤ w'.heap.size
  block : ∀ k, k < w.heap.size → ¬ S k → w'.heap[k]? = w.heap[k]?

variable {S S' : Nat → Prop} {w w' w1 w2 : World}
theorem Chg.refl (S : Nat → Prop) (w : World) : Chg S w w := ⟨rfl, rfl, rfl, Nat.le_refl _, fun _ _ _ => rfl⟩
theorem Chg.trans (h : Chg S w w1) (k : Chg S w1 w2) : Chg S w w2 :=
  ⟨k.os.trans h.os, k.tape.trans h.tape, k.output.trans h.output, Nat.le_trans h.size k.size, fun i hi hs => (k.block i (Nat.lt_of_lt_of_le hi h.size) hs).trans (h.block i hi hs)⟩
theorem Chg.mono (h : Chg S w w1) (hs : ∀ k, k < w.heap.size → S k → S' k) : Chg S' w w1 :=
  ⟨h.os, h.tape, h.output, h.size, fun i hi hn => h.block i hi fun x => hn (hs i hi x)⟩
theorem Chg.drewN (h : Chg S w w1) (n : Nat) : Chg S w (w1.drewN n) := ⟨h.os, h.tape, h.output, h.size, h.block⟩
theorem Chg.drew (h : Chg S w w1) : Chg S w w1.drew := ⟨h.os, h.tape, h.output, h.size, h.block⟩
theorem Chg.of_below (h : Below w.heap.size w w1) : Chg S w w1 := ⟨h.os, h.tape, h.output, h.size, fun i hi _ => h.block i hi⟩
theorem Chg.below (h : Chg (fun _ => False) w w1) : Below w.heap.size w w1 := ⟨h.os, h.tape, h.output, h.size, fun i hi => h.block i hi (fun x => x)⟩
theorem Chg.of_grown {row : Option Nat} (h : w.grownBy w1 row) (hs : ∀ k, row = some k → S k) : Chg S w w1 :=
  ⟨h.os, h.tape, h.output, h.size, fun i hi hn => h.block i hi (by intro e; exact hn (hs i e.symm))⟩
theorem Chg.alloc (h : Chg S w w1) (o : Obj) : Chg S w (w1.alloc o) :=
  h.trans ⟨rfl, rfl, rfl, by simp, fun k hk _ => Below.heap_alloc w1 o k hk⟩
theorem Chg.setCell (h : Chg S w w1) (a : Addr) (v : Value) (ha : w.heap.size ≤ a.block ∨ S a.block) : Chg S w (w1.setCell a v) := by
  refine ⟨h.os, h.tape, h.output, ?_, fun k hk hn => ?_⟩
  · simpa using h.size
  · rw [Below.heap_setCell w1 a v k (by rintro rfl; rcases ha with ha | ha; · omega
                                        · exact hn ha)]
    exact h.block k hk hn
theorem Chg.then (h : Chg S w w1) (k : Below w.heap.size w1 w2) : Chg S w w2 :=
  ⟨k.os.trans h.os, k.tape.trans h.tape, k.output.trans h.output, Nat.le_trans h.size k.size, fun i hi hs => (k.block i hi).trans (h.block i hi hs)⟩
theorem below_chg {B : Nat} (h : Below B w w1) (hB : B ≤ w1.heap.size) (k : Chg S w1 w2) (hS : ∀ i, S i → B ≤ i) : Below B w w2 :=
  ⟨k.os.trans h.os, k.tape.trans h.tape, k.output.trans h.output, Nat.le_trans h.size k.size, fun i hi => (k.block i (Nat.lt_of_lt_of_le hi hB) (fun s => by have := hS i s; omega)).trans (h.block i hi)⟩
theorem Chg.put {b : Nat} (h : Chg (· = b) w w1) (j : Nat) (v : Value) : Chg (· = b) w (w1.setCell ⟨b, j, none⟩ v) := h.setCell ⟨b, j, none⟩ v (.inr rfl)
theorem Chg.to (h : Chg S w w1) (k : Nat) (hk : k < w.heap.size) (hn : ¬ S k) {o : Obj} (ho : w.heap[k]? = some o) : w1.heap[k]? = some o :=
  (h.block k hk hn).trans ho
theorem lt_of_block {w : World} {k : Nat} {o : Obj} (h : w.heap[k]? = some o) : k < w.heap.size := (Array.getElem?_eq_some_iff.1 h).1
theorem Chg.keeps (h : Chg S w w1) {k : Nat} {o : Obj} (ho : w.heap[k]? = some o) (hn : ¬ S k) : w1.heap[k]? = some o :=
  h.to k (lt_of_block ho) hn ho
theorem Chg.cell (h : Chg S w w1) {a : Addr} {v : Value} (hc : w.cell? a = some v) (hn : ¬ S a.block) : w1.cell? a = some v := by
  have hlt := World.block_lt_of_cell? w a hc
  rw [World.cell?_of_block (w := w) (h.block a.block hlt hn)]; exact hc

/-- A store into a block that is known whole. -/
theorem block_setCell {w : World} {b j : Nat} {cs : Array Value} {t : TypeId} {fr : Nat × Nat} (h : w.heap[b]? = some (.cells cs t fr)) (v : Value) :
    (w.setCell ⟨b, j, none⟩ v).heap[b]? = some (.cells (cs.setIfInBounds j v) t fr) := by
  have hlt := lt_of_block h
  simp only [World.setCell]
  rw [Array.getElem?_modify]
  simp [h]
theorem cell_block {w : World} {b : Nat} {cs : Array Value} {t : TypeId} {fr : Nat × Nat} (h : w.heap[b]? = some (.cells cs t fr)) (j : Nat) :
    w.cell? ⟨b, j, none⟩ = cs[j]? := by simp [World.cell?, h]
theorem free_block {w : World} {b : Nat} {cs : Array Value} {t : TypeId} (h : w.heap[b]? = some (.cells cs t (0, 0))) (j : Nat) :
    w.frozen? ⟨b, j, none⟩ = false := by simp [World.frozen?, h]

theorem quiet_eq {P : Program} {f : FuncId} {args : Array Value} {w : World} {n : Nat} {v : Value}
    (h : Calls P f args (w.drewN n) fun e w' => e = .returned v ∧ w.drewN n = w') : Calls P f args (w.drewN n) fun e w'' => e = .returned v ∧ ∃ m, w'' = w.drewN m :=
  h.mono fun _ _ ⟨he, hm⟩ => ⟨he, n, hm.symm⟩

/- The same, where draws came ahead: the walk writes them as one sum. -/
theorem quiet_same2 {P : Program} {f : FuncId} {args : Array Value} {w : World} {k n : Nat} {v : Value}
    (h : Calls P f args (w.drewN (k + n)) fun e w' => e = .returned v ∧ w' = w.drewN (k + n)) : Calls P f args (w.drewN (k + n)) fun e w'' => e = .returned v ∧ ∃ m, w'' = w.drewN (k + m) :=
  h.mono fun _ _ ⟨he, hm⟩ => ⟨he, n, hm⟩
theorem quiet_eq2 {P : Program} {f : FuncId} {args : Array Value} {w : World} {k n : Nat} {v : Value}
    (h : Calls P f args (w.drewN (k + n)) fun e w' => e = .returned v ∧ w.drewN (k + n) = w') : Calls P f args (w.drewN (k + n)) fun e w'' => e = .returned v ∧ ∃ m, w'' = w.drewN (k + m) :=
  h.mono fun _ _ ⟨he, hm⟩ => ⟨he, n, hm.symm⟩
theorem quiet_of2 {P : Program} {f : FuncId} {args : Array Value} {w : World} {k n : Nat} {v : Value}
    (h : Calls P f args (w.drewN (k + n)) fun e w' => e = .returned v ∧ ∃ m, w' = (w.drewN (k + n)).drewN m) : Calls P f args (w.drewN (k + n)) fun e w'' => e = .returned v ∧ ∃ m, w'' = w.drewN (k + m) :=
  h.mono fun _ _ ⟨he, m, hm⟩ => ⟨he, n + m, by rw [hm, World.drewN_drewN, Nat.add_assoc]⟩

theorem cell_alloc {w : World} {a : Addr} {v : Value} (h : w.cell? a = some v) (o : Obj) : (w.alloc o).cell? a = some v :=
  ((Chg.refl (fun _ => False) w).alloc o).cell h (fun x => x)
theorem frozen_alloc' {w : World} {a : Addr} {v : Value} (h : w.cell? a = some v) (hf : w.frozen? a = false) (o : Obj) : (w.alloc o).frozen? a = false := by
  rw [World.frozen?_of_block (w := w) (Below.heap_alloc w o _ (World.block_lt_of_cell? w a h))]; exact hf
theorem cell_new (w : World) (v : Value) (t : TypeId) : (w.alloc (.cells #[v] t)).cell? ⟨w.heap.size, 0, none⟩ = some v := by
  rw [cell_block (heap_alloc_new w _) 0]; rfl

theorem ret_bool {a b : Bool} (h : a = b) : Ending.returned (.bool a) = Ending.returned (.bool b) := by rw [h]
theorem ret_int {k : IntKind} {a b : Int} (h : a = b) : Ending.returned (.int k a) = Ending.returned (.int k b) := by rw [h]
theorem ret_val {a b : Value} (h : a = b) : Ending.returned a = Ending.returned b := by rw [h]
end Go.Proofs.YtjcnhoagccdclaaDoor
