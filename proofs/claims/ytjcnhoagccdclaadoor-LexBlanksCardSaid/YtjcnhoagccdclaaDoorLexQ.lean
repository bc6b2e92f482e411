/-
  What a row of this seat gives of the package variables; a world that meets it.
-/
import Derived.Test.YtjcnhoagccdclaaDoorLexP
import Derived.Test.YtjcnhoagccdclaaDoorRows
import Derived.Stop.LaidErr
import Derived.LaidHandle
import Derived.ProofKit
import Derived.LaidMore
import Derived.OpenShut
import Derived.Stop.Joined
import Derived.Deep.DeepHandedRow
import Derived.ChangeSame
namespace Go.Proofs.YtjcnhoagccdclaaDoor
open Go.ChangeShapes Go.WideShapes Go.ChangeAt Go.RowKit

theorem vOwn : ownKnob Tryd.prog.godebug = none := by kernel_rfl
theorem vET : Tryd.prog.globalNamed "errors.errorType" = some 0 := by kernel_rfl
theorem vRT : (Tryd.prog.cutTypes.find? (·.1 == "internal/reflectlite.rtype")).map (·.2) = some 86 := by kernel_rfl
theorem vRow : ((List.range Tryd.prog.types.size).filter fun t => Tryd.prog.rowNamed t [101, 114, 114, 111, 114]) = [25] := by kernel_rfl
theorem vHandle : typeHandle Tryd.prog 25 = hnd 25 := by kernel_rfl
theorem vRange : Tryd.prog.globalNamed "strconv.ErrRange" = some 1 := by kernel_rfl
theorem vRangeT : (Tryd.prog.globals[1]?).map (·.type) = some 25 := by kernel_rfl
theorem vC1 : Tryd.prog.cellsOf 126 = 1 := by kernel_rfl
theorem vC2 : Tryd.prog.cellsOf 9 = 1 := by kernel_rfl
theorem vStar : "*" ++ "errors.errorString" = "*errors.errorString" := by decide
theorem vRowE (u : TypeId) (h : Tryd.prog.typeName? 3 u = some "*errors.errorString") : u = 124 :=
  typeName_ptr_named (nm := "errors.errorString") (by rw [vStar]; kernel_rfl) (by kernel_rfl) (by decide) u (by rw [vStar]; exact h)

/-- The list of every row of this seat. -/
def laidL : List (String × DataW Unit) := [("math/bits.deBruijn32tab", Rows.laid_math_bits_deBruijn32tab), ("math/bits.deBruijn64tab", Rows.laid_math_bits_deBruijn64tab), ("internal/strconv.uint64pow10", Rows.laid_internal_strconv_uint64pow10), ("errors.errorType", Rows.laid_errors_errorType), ("strconv.ErrRange", Rows.laid_strconv_ErrRange), ("strconv.ErrSyntax", Rows.laid_strconv_ErrSyntax)]

theorem vars_of {W : World} (h : laidMetH Tryd.prog laidL W) (hS : W.ShapedOpen Tryd.prog) : Vars W := by
  have h' : laidMet Tryd.prog [("math/bits.deBruijn32tab", Rows.laid_math_bits_deBruijn32tab), ("math/bits.deBruijn64tab", Rows.laid_math_bits_deBruijn64tab), ("internal/strconv.uint64pow10", Rows.laid_internal_strconv_uint64pow10), ("strconv.ErrRange", Rows.laid_strconv_ErrRange), ("strconv.ErrSyntax", Rows.laid_strconv_ErrSyntax)] W ∧ handlesMet Tryd.prog [("errors.errorType", Rows.laid_errors_errorType)] W := h
  refine ⟨?_, ?_, ?_⟩
  · obtain ⟨a0, s0, hv0, -, -, -⟩ := laid_sentinel h'.1.tail.tail.tail vRange vRangeT Tryd.underlying25 vRowE Tryd.underlying124 Tryd.underlying126 rfl rfl Tryd.underlying9 vC1 vC2
    exact ⟨a0, by simpa using World.var?_cell vRange hv0 0⟩
  · obtain ⟨m, hm⟩ := Go.Proofs.cell_of_shapedOpen_int (zero := #[.int .i64 0]) (t := 3) (g := 2) hS (of_decide_eq_true (by kernel_rfl)) (by kernel_rfl) rfl (by kernel_rfl) (by kernel_rfl) Tryd.underlying3
    exact ⟨m, hm⟩
  · obtain ⟨name, u, ty, e1, e2, e3, e4, e5⟩ := h'.2 _ (List.mem_singleton.2 rfl)
    have en : name = [101, 114, 114, 111, 114] := (Option.some.inj e1).symm
    subst en
    obtain rfl := Option.some.inj (vRT.symm.trans e2)
    have hm : ty ∈ (List.range Tryd.prog.types.size).filter fun t => Tryd.prog.rowNamed t [101, 114, 114, 111, 114] := List.mem_filter.2 ⟨List.mem_range.2 e3, e4⟩
    rw [vRow] at hm
    obtain rfl := List.mem_singleton.1 hm
    rw [vHandle] at e5
    unfold ErrorTypeAt
    simpa using World.var?_cell vET e5 0

/-- The row's post where the call has turned no block that there was. -/
theorem post_under {H : Type} {enc : TypeId × Value → H} {P : Program} {f : Func} {s : ChangeSpec} {apart fresh handsOn again : Bool} {W W' : World} {args : Array Value} {v : Value} {ds gs : List (DataW H)} {before pa pv : List MemPlace}
    (hW : DataW.Whole enc P f.params.toList s.vars apart W args.toList ds gs before) (hb : Below W.heap.size W W')
    (hr : ∀ (b : Nat) (sp : Nat → Bool) (hd : Bool), DataW.TrodAll enc P W' b sp hd f.resultTypes.toList (v.resultList f.resultTypes.size) (s.fn H (ds ++ gs)).results [])
    (ha : ∀ sp : Nat → Bool, (∀ p ∈ before, sp p.block = true) → DataW.TrodAll enc P W' 0 sp true f.params.toList args.toList (s.fn H (ds ++ gs)).args pa)
    (hv : ∀ sp : Nat → Bool, (∀ p ∈ before, sp p.block = true) → DataW.TrodVars enc P W' sp s.vars (s.fn H (ds ++ gs)).vars pv) (hp : before = pa ++ pv)
    (ho : ∀ (j : Nat) (t : TypeId) (r : Value), f.resultTypes[j]? = some t → (v.resultList f.resultTypes.size)[j]? = some r → Value.okWide P W' .any 0 t r) :
    s.post enc P f apart fresh handsOn again W args v W' := by
  subst hp
  have hlt := fun p (h : p ∈ pa ++ pv) => hW.lt p h
  have hs : ∀ p ∈ pa ++ pv, decide (p.block < W.heap.size) = true := fun p h => decide_eq_true (hlt p h)
  obtain ⟨_, _, _, _, _, hz, hn⟩ := id hW
  refine ⟨ds, gs, _, [], pa, pv, hW, hr _ _ _, ha _ hs, hv _ hs, World.keptBut_mono (fun p hp => ⟨hp, by simpa using hp⟩) (hb.frame (· ∈ pa ++ pv)), fun _ => ?_⟩
  refine ⟨ho, _, _, _, ⟨[] ++ pa, pv, trodAll_append (ha _ fun _ _ => rfl) (hr _ _ _), hv _ fun _ _ => rfl, rfl, fun b off h => ?_, fun h => ?_⟩, fun p h _ => ?_⟩
  · have h' : MemPlace.cell b off ∈ pa ++ pv := by simpa using h
    rw [hb.frozen (hlt _ h')]; exact hz b off h'
  · simpa using hn h
  · simpa using h

/-- The heap that the door's own run leaves meets the list. -/
theorem door_met (os : Os) (args : Array Value) : laidMetH Tryd.prog laidL ((World.doorLaid Tryd.prog 400 os).forCall (fun _ _ => 0) ⟨#[], args, []⟩).memory :=
  laidMetH_of_parts3 (fuel := 8) (laidMet_of_run' 8 (by kernel_rfl) (by kernel_rfl)) (by kernel_rfl) (by kernel_rfl)
end Go.Proofs.YtjcnhoagccdclaaDoor
