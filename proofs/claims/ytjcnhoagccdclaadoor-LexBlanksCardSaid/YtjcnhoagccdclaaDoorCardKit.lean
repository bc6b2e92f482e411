/-
  From a law's walk to its row's post, whatever its arguments: what a call that turns no old block hands back.
-/
import Derived.Test.YtjcnhoagccdclaaDoorLexQ
import Derived.Carry
import Derived.ReadAgain
import Derived.SizedLaws
namespace Go.Proofs.YtjcnhoagccdclaaDoor
open Go.ChangeShapes Go.WideShapes Go.ChangeAt Go.RowKit

theorem trodAll_below {H : Type} {enc : TypeId × Value → H} (hl : laidOutB Tryd.prog = true) {W W' : World} (hb : Below W.heap.size W W') {sp : Nat → Bool} :
    ∀ {ts : List TypeId} {vs : List Value} {ds : List (DataW H)} {ps : List MemPlace}, (∀ t ∈ ts, Tryd.prog.readableRec t = true ∧ t < Tryd.prog.types.size) →
      DataW.TrodAll enc Tryd.prog W 0 (fun _ => true) true ts vs ds ps → (∀ x ∈ ps, x.block < W.heap.size) → (∀ x ∈ ps, sp x.block = true) → DataW.TrodAll enc Tryd.prog W' 0 sp true ts vs ds ps
  | [], [], [], _, _, h, _, _ => h
  | _ :: _, _ :: _, _ :: _, _, hT, ⟨p, q, h1, h2, e⟩, hlt, hs => by
    subst e
    refine ⟨p, q, ?_, ?_, rfl⟩
    · exact WideElems.Trod_stays hl (hT _ (List.mem_cons_self)).1 (hT _ (List.mem_cons_self)).2 h1 (fun x hx => hb.same (hlt x (List.mem_append_left _ hx))) (fun x hx => hs x (List.mem_append_left _ hx))
    · exact trodAll_below hl hb (fun t ht => hT t (List.mem_cons_of_mem _ ht)) h2 (fun x hx => hlt x (List.mem_append_right _ hx)) (fun x hx => hs x (List.mem_append_right _ hx))

theorem laidOut : laidOutB Tryd.prog = true := by kernel_rfl

set_option maxRecDepth 100000 in
/-- A law's post: true, and the arguments as they were. -/
theorem law_post {H : Type} {enc : TypeId × Value → H} {f : Func} {s : ChangeSpec} {apart fresh handsOn again : Bool} {W W' : World} {args : Array Value} {ds gs : List (DataW H)} {before : List MemPlace}
    (hts : (f.params.toList.all fun t => Tryd.prog.readableRec t && decide (t < Tryd.prog.types.size)) = true) (hv : s.vars = []) (hr : f.resultTypes = #[4])
    (hfn : s.fn H ds = { results := [.lit (.bool true)], args := ds })
    (hW : DataW.Whole enc Tryd.prog f.params.toList s.vars apart W args.toList ds gs before) (hb : Below W.heap.size W W') :
    s.post enc Tryd.prog f apart fresh handsOn again W args (.bool true) W' := by
  have hW' := hW
  obtain ⟨p, q, hA, hV, rfl, hfz, hnd⟩ := hW
  rw [hv] at hV
  obtain ⟨rfl, rfl⟩ := trodVars_none hV
  have hlt := fun x (h : x ∈ p) => hW'.lt x (List.mem_append_left _ h)
  have e : s.fn H (ds ++ []) = { results := [.lit (.bool true)], args := ds } := by rw [List.append_nil]; exact hfn
  refine post_under (pa := p) (pv := []) hW' hb ?_ ?_ ?_ rfl ?_
  · intro _ _ _
    rw [e, hr]
    exact trodAll_cons_mk (shut_bool Tryd.underlying4 _) trodAll_mk0
  · intro sp hsp
    rw [e]
    refine trodAll_below laidOut hb ?_ hA hlt (fun x hx => hsp x (List.mem_append_left _ hx))
    intro t ht
    have h := List.all_eq_true.1 hts t ht
    rw [Bool.and_eq_true, decide_eq_true_eq] at h
    exact h
  · intro sp hsp
    rw [e, hv]; exact rfl
  · exact ok_one hr rfl (okWide_bool_mk Tryd.underlying4 _)
end Go.Proofs.YtjcnhoagccdclaaDoor
