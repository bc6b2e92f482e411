/-
  A slice of strings among the arguments.
-/
import Derived.Test.YtjcnhoagccdclaaDoorCardKit
import Derived.Test.YtjcnhoagccdclaaDoorBlanksW
import Derived.SliceStrings
namespace Go.Proofs.YtjcnhoagccdclaaDoor
open Go.ChangeShapes Go.WideShapes Go.ChangeAt Go.RowKit

theorem cells_string : Tryd.prog.cellsOf 9 = 1 := by kernel_rfl
theorem bytes_string_ : Tryd.prog.bytesOf 9 = 16 := by kernel_rfl

theorem weights_all {H : Type} {e : TypeId} {ss : List ByteArray} {s : ByteArray} (h : s ∈ ss) : s.data.toList.length ∈ DataW.weightsAll Tryd.prog e (strs (H := H) ss) := by
  induction ss with
  | nil => simp at h
  | cons x r ih =>
    show _ ∈ (DataW.lit (.string x.data.toList) : DataW H).weights Tryd.prog e ++ DataW.weightsAll Tryd.prog e (strs r)
    rw [List.mem_append]
    rcases List.mem_cons.1 h with rfl | h
    · left; simp [DataW.weights]
    · exact .inr (ih h)

set_option maxRecDepth 100000 in
theorem open_strs {H : Type} {enc : TypeId × Value → H} {W : World} {v : Value} {base : Nat} {d : DataW H} {ps : List MemPlace} {ts : List TypeId} {ds : List (DataW H)} {j : Nat} (hval : Value.okWide Tryd.prog W .any base 32 v)
    (h : DataW.Trod enc Tryd.prog W 0 (fun _ => true) true 32 v d ps) (hsz : (DataW.weightsEach Tryd.prog ts ds).all (· ≤ reachBytes) = true) (ht : ts[j]? = some 32) (hd : ds[j]? = some d) : ∃ bs, StrsAt W v bs := by
  obtain ⟨a0, len, cap, rfl⟩ := okWide_slice Tryd.underlying32 hval
  obtain ⟨fuel, hf⟩ := h
  rcases open_strings Tryd.underlying32 Tryd.underlying9 cells_string hf with ⟨hcs, _⟩ | ⟨a, len', cap', ss, hcs, _, hl, hm, hz, hx, hcell, _⟩
  · simp [Value.cells] at hcs
    obtain ⟨rfl, rfl, rfl⟩ := hcs
    exact ⟨[], .inl ⟨rfl, none, 0, rfl⟩⟩
  · simp [Value.cells] at hcs
    obtain ⟨rfl, rfl, rfl⟩ := hcs
    simp only [Prod.mk.injEq] at hx
    obtain ⟨rfl, rfl⟩ := hx
    simp only [if_true] at hz
    by_cases hl0 : len = 0
    · subst hl0
      exact ⟨[], .inl ⟨rfl, _, _, rfl⟩⟩
    · obtain ⟨b, off, spot⟩ := a
      have hspot : spot = none := by simpa [Addr.add] using World.cell?_spot (hcell 0 (by omega))
      subst hspot
      have hlen : (ss.take len).length = len := by rw [List.length_take]; omega
      refine ⟨ss.take len, .inr ⟨b, off, cap, by rw [hlen], by rw [hlen]; omega, by rw [hlen]; exact hl, ?_, ?_, ?_⟩⟩
      · have := sized_slice hsz ht hd Tryd.underlying32
        rw [bytes_string_] at this
        simp only [strs, List.length_map, List.length_take, List.length_drop, reachBytes] at this
        rw [hlen]; omega
      · intro i hi
        rw [hlen] at hi
        have := hcell i (by omega)
        rw [show (⟨b, off, none⟩ : Addr).add i = ⟨b, off + i, none⟩ from by unfold Addr.add; split <;> simp_all] at this
        rw [this, List.getElem_take]
        congr 2
        rw [List.getD, List.getElem?_eq_getElem (by omega)]; rfl
      · intro s hs
        have hw := List.all_eq_true.1 hsz _ (DataW.weights_mem_each ht hd s.data.toList.length (by
          simp only [DataW.weights, Tryd.underlying32, List.mem_cons, List.mem_append]
          exact .inr (.inl (weights_all hs))))
        have h2 : s.data.toList.length = s.size := by simp
        rw [h2, decide_eq_true_eq] at hw
        simpa [reachBytes] using hw
end Go.Proofs.YtjcnhoagccdclaaDoor
