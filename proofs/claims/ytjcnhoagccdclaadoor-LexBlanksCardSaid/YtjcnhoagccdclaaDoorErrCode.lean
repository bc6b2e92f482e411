/-
  fault.Code and fault.At, of a fault and of nothing.
-/
import Derived.Test.YtjcnhoagccdclaaDoorErrAs
import Derived.Test.YtjcnhoagccdclaaDoorLexC
namespace Go.Proofs.YtjcnhoagccdclaaDoor
open Go.RowKit

/-- What errors.errorType holds. -/
def ErrorTypeAt (w : World) : Prop := w.cell? ⟨0, 0, none⟩ = some (.iface 86 (.agg #[hnd 25]))

theorem code_fault (v : Value) (c a : Int) (w : World) (h : FaultAt w v c a) (hE : ErrorTypeAt w) :
    Calls Tryd.prog 13 #[v] w fun e w' => e = .returned (.int .i64 c) ∧ Below w.heap.size w w' := by
  obtain ⟨N, rfl, hN⟩ := h
  have hlt := lt_of_block hN
  go_enter Tryd.func13, Tryd.ntmps13
  go_wp2_with (go_at_call 21; refine (as_fault ⟨N, 0, none⟩ w.heap.size (.pointer none) _ (heap_alloc_new w _) (cell_alloc hE _)).mono ?_; rintro e w' ⟨rfl, hT', hc⟩; have d0 := cell_block hT' 0; have d1 := cell_block (hc.keeps (((Chg.refl (fun _ => False) w).alloc _).keeps hN (fun x => x)) (by omega)) 0)
  go_ret
  exact ⟨rfl, below_chg ((Below.refl _ _).alloc (Nat.le_refl _) _) (by simp) hc (by rintro i rfl; exact Nat.le_refl _)⟩

theorem code_nil (w : World) : Calls Tryd.prog 13 #[.nilIface] w fun e w' => e = .returned (.int .i64 0) ∧ Below w.heap.size w w' := by
  go_enter Tryd.func13, Tryd.ntmps13
  go_wp2
  go_ret
  exact ⟨rfl, (Below.refl _ _).alloc (Nat.le_refl _) _⟩

theorem at_fault (v : Value) (c a : Int) (w : World) (h : FaultAt w v c a) (hE : ErrorTypeAt w) :
    Calls Tryd.prog 12 #[v] w fun e w' => e = .returned (.int .i64 a) ∧ Below w.heap.size w w' := by
  obtain ⟨N, rfl, hN⟩ := h
  have hlt := lt_of_block hN
  go_enter Tryd.func12, Tryd.ntmps12
  go_wp2_with (go_at_call 21; refine (as_fault ⟨N, 0, none⟩ w.heap.size (.pointer none) _ (heap_alloc_new w _) (cell_alloc hE _)).mono ?_; rintro e w' ⟨rfl, hT', hc⟩; have d0 := cell_block hT' 0; have d1 := cell_block (hc.keeps (((Chg.refl (fun _ => False) w).alloc _).keeps hN (fun x => x)) (by omega)) 1)
  go_ret
  exact ⟨rfl, below_chg ((Below.refl _ _).alloc (Nat.le_refl _) _) (by simp) hc (by rintro i rfl; exact Nat.le_refl _)⟩

theorem as_nil (x : Value) (w : World) : Calls Tryd.prog 21 #[.nilIface, x] w fun e w' => e = .returned (.bool false) ∧ w = w' := by
  go_enter Tryd.func21, Tryd.ntmps21
  go_wp2
  go_ret
  exact ⟨rfl, rfl⟩
theorem at_nil (w : World) : Calls Tryd.prog 12 #[.nilIface] w fun e w' => e = .returned (.int .i64 0) ∧ Below w.heap.size w w' := by
  go_enter Tryd.func12, Tryd.ntmps12
  go_wp2_with (go_at_call 21; refine (as_nil _ _).mono ?_; rintro e w' ⟨rfl, rfl⟩)
  go_ret
  exact ⟨rfl, (Below.refl _ _).alloc (Nat.le_refl _) _⟩
end Go.Proofs.YtjcnhoagccdclaaDoor
