/-
  errors.As, where the error is a fault and the target a place for one.
-/
import Derived.Test.YtjcnhoagccdclaaDoorErrIs
namespace Go.Proofs.YtjcnhoagccdclaaDoor
open Go.RowKit Go.Extern.Stop Go.Stop Go.Extern

/-- The handle of a type. -/
abbrev hnd (t : Nat) : Value := .pointer (some ⟨7, t, none⟩)

theorem as_ofPP (w : World) : (Rtype.ofHandle (hnd 53)).run Tryd.prog w = .ok 53 w := by kernel_rfl
theorem as_ofP (w : World) : (Rtype.ofHandle (hnd 51)).run Tryd.prog w = .ok 51 w := by kernel_rfl
theorem as_packPP (s : String) (w : World) : (Rtype.noPack s 53).run Tryd.prog w = .ok () w := by kernel_rfl
theorem as_packP (s : String) (w : World) : (Rtype.noPack s 51).run Tryd.prog w = .ok () w := by kernel_rfl
theorem as_mkPP (a : Addr) (w : World) : (ReflectliteValue.mk 53 a 0).run Tryd.prog w = .ok (.agg #[hnd 53, .pointer (some a), .int .u64 150]) w := by kernel_rfl
theorem as_mkP (a : Addr) (w : World) : (ReflectliteValue.mk 51 a 0).run Tryd.prog w = .ok (.agg #[hnd 51, .pointer (some a), .int .u64 150]) w := by kernel_rfl
theorem as_mkPA (a : Addr) (w : World) : (ReflectliteValue.mk 51 a ReflectliteValue.flagAddr).run Tryd.prog w = .ok (.agg #[hnd 51, .pointer (some a), .int .u64 406]) w := by kernel_rfl

/-- reflectlite.ValueOf(&f), and of an error. -/
theorem as_valueOfPP (b : Addr) (w : World) : (ReflectliteValue.unpack (.iface 53 (.pointer (some b)))).run Tryd.prog w =
    .ok (.agg #[hnd 53, .pointer (some ⟨w.heap.size, 0, none⟩), .int .u64 150]) (w.alloc (.cells #[.pointer (some b)] 53)) := by kernel_rfl
theorem as_valueOfP (b : Addr) (w : World) : (ReflectliteValue.unpack (.iface 51 (.pointer (some b)))).run Tryd.prog w =
    .ok (.agg #[hnd 51, .pointer (some ⟨w.heap.size, 0, none⟩), .int .u64 150]) (w.alloc (.cells #[.pointer (some b)] 51)) := by kernel_rfl
theorem as_method (z : Sem Value) (f : TypeId → Addr → Nat → Nat → Sem Value) (x : Value) (t : TypeId) (a : Addr) (fl : Nat) (P : Program) (w : World) (h : (ReflectliteValue.parts x).run P w = .ok (some (t, a, fl)) w) :
    (ReflectliteValue.method z f #[x]).run P w = (f t a fl (fl % 32)).run P w := by
  have e : ReflectliteValue.method z f #[x] = (do match ← ReflectliteValue.parts x with | none => z | some (t, a, fl) => f t a fl (fl % 32)) := rfl
  rw [e]; simp [go_sem, h]
theorem as_partsPP (a : Addr) (w : World) : (ReflectliteValue.parts (.agg #[hnd 53, .pointer (some a), .int .u64 150])).run Tryd.prog w = .ok (some (53, a, 150)) w := by kernel_rfl
theorem as_partsP (a : Addr) (w : World) : (ReflectliteValue.parts (.agg #[hnd 51, .pointer (some a), .int .u64 150])).run Tryd.prog w = .ok (some (51, a, 150)) w := by kernel_rfl
theorem as_partsPA (a : Addr) (w : World) : (ReflectliteValue.parts (.agg #[hnd 51, .pointer (some a), .int .u64 406])).run Tryd.prog w = .ok (some (51, a, 406)) w := by kernel_rfl
theorem as_isNil (a b : Addr) (w : World) (h : w.cell? a = some (.pointer (some b))) :
    (ReflectliteValue.method (ReflectliteValue.valueError "reflectlite.Value.IsNil" 0) ReflectliteValue.isNil #[.agg #[hnd 53, .pointer (some a), .int .u64 150]]).run Tryd.prog w = .ok (.bool false) w := by
  rw [as_method _ _ _ _ _ _ _ _ (as_partsPP a w)]
  simp [ReflectliteValue.isNil, go_sem, h]
theorem as_elem (a b : Addr) (w : World) (h : w.cell? a = some (.pointer (some b))) :
    (ReflectliteValue.method (ReflectliteValue.valueError "reflectlite.Value.Elem" 0) ReflectliteValue.elem #[.agg #[hnd 53, .pointer (some a), .int .u64 150]]).run Tryd.prog w = .ok (.agg #[hnd 51, .pointer (some b), .int .u64 406]) w := by
  have he : (Rtype.elem? 53).run Tryd.prog w = .ok (some 51) w := by kernel_rfl
  rw [as_method _ _ _ _ _ _ _ _ (as_partsPP a w)]
  simp [ReflectliteValue.elem, go_sem, h, he, as_mkPA]
theorem as_set (a b c : Addr) (v0 : Value) (w : World) (h : w.cell? b = some (.pointer (some c))) (h0 : w.cell? a = some v0) (hf : w.frozen? a = false) :
    (ReflectliteValue.set #[.agg #[hnd 51, .pointer (some a), .int .u64 406], .agg #[hnd 51, .pointer (some b), .int .u64 150]]).run Tryd.prog w = .ok (.tuple #[]) (w.setCell a (.pointer (some c))) := by
  have hd : (Rtype.directlyAssignable 51 51).run Tryd.prog w = .ok true w := by kernel_rfl
  have e : ∀ v x, ReflectliteValue.set #[v, x] = (do
    let (some (dst, a, fl), some (src, b, _)) := (← ReflectliteValue.parts v, ← ReflectliteValue.parts x)
      | unsupported (.noEntry "extern/(internal/reflectlite.Value).Set.zeroValue")
    if fl / ReflectliteValue.flagAddr % 2 == 0 then unsupported (.noEntry "extern/(internal/reflectlite.Value).Set.unaddressable")
    let val ← loadVar src b
    if ← Rtype.directlyAssignable dst src then storeVar dst a val
    else if ← Rtype.implements dst src then
      if (← Rtype.kind src) == 20 then
        match val with
        | .nilIface => unsupported (.noEntry "extern/reflectlite: a nil value of one interface type handed on as a value of another")
        | _ => storeVar dst a val
      else storeVar dst a (.iface src val)
    else panicString ("reflectlite.Set: value of type " ++ (← Rtype.spelt src) ++ " is not assignable to type " ++ (← Rtype.spelt dst))
    pure (.tuple #[])) := fun _ _ => rfl
  rw [e]
  simp [go_sem, as_partsPA, as_partsP, ReflectliteValue.flagAddr, h, hd, storeVar, storeCells, h0, hf]

/-! What the looks at types give. -/
theorem as_typeOfP (v : Value) (w : World) : (ReflectliteType.typeOf #[.iface 51 v]).run Tryd.prog w = .ok (.iface 86 (.agg #[hnd 51])) w := by kernel_rfl
theorem as_typePP (a : Addr) (w : World) : (ReflectliteValue.methodAny (ReflectliteValue.valueError "reflectlite.Value.Type" 0) (fun t _ _ _ => ReflectliteType.toType t) #[.agg #[hnd 53, .pointer (some a), .int .u64 150]]).run Tryd.prog w = .ok (.iface 86 (.agg #[hnd 53])) w := by kernel_rfl
theorem as_mKind (t : Nat) (w : World) : (Go.method 269 86 (.agg #[hnd t]) "Kind").run Tryd.prog w = .ok (97, hnd t) w := by kernel_rfl
theorem as_mElem (v : Value) (w : World) : (Go.method 269 86 v "Elem").run Tryd.prog w = .ok (109, v) w := by kernel_rfl
theorem as_mImplements (v : Value) (w : World) : (Go.method 269 86 v "Implements").run Tryd.prog w = .ok (110, v) w := by kernel_rfl
theorem as_mAssignableTo (v : Value) (w : World) : (Go.method 269 86 v "AssignableTo").run Tryd.prog w = .ok (107, v) w := by kernel_rfl
theorem as_kindPP (w : World) : (ReflectliteType.abiMethod (fun t => (fun (a : Nat) => Value.int .u8 (a : Int)) <$> Rtype.kind t) #[hnd 53]).run Tryd.prog w = .ok (.int .u8 22) w := by kernel_rfl
theorem as_kindP (w : World) : (ReflectliteType.abiMethod (fun t => (fun (a : Nat) => Value.int .u8 (a : Int)) <$> Rtype.kind t) #[hnd 51]).run Tryd.prog w = .ok (.int .u8 22) w := by kernel_rfl
theorem as_elemT (w : World) : (ReflectliteType.method ReflectliteType.elem #[.agg #[hnd 53]]).run Tryd.prog w = .ok (.iface 86 (.agg #[hnd 51])) w := by kernel_rfl
theorem as_implements (w : World) : (ReflectliteType.relation "Implements" ReflectliteType.implements_ #[.agg #[hnd 51], .iface 86 (.agg #[hnd 25])]).run Tryd.prog w = .ok (.bool true) w := by kernel_rfl
theorem as_assignable (w : World) : (ReflectliteType.relation "AssignableTo" ReflectliteType.assignableTo #[.agg #[hnd 51], .iface 86 (.agg #[hnd 51])]).run Tryd.prog w = .ok (.bool true) w := by kernel_rfl

set_option maxRecDepth 100000 in
/-- errors.as: a fault is at once what is wanted. -/
theorem as_inner (N : Addr) (tb v1 : Nat) (v0 : Value) (w : World) (h1 : w.cell? ⟨v1, 0, none⟩ = some (.pointer (some ⟨tb, 0, none⟩))) (hT : w.heap[tb]? = some (.cells #[v0] 51 (0, 0))) :
    Calls Tryd.prog 38 #[.iface 51 (.pointer (some N)), .iface 53 (.pointer (some ⟨tb, 0, none⟩)), .agg #[hnd 53, .pointer (some ⟨v1, 0, none⟩), .int .u64 150], .iface 86 (.agg #[hnd 51])] w
      fun e w' => e = .returned (.bool true) ∧ w'.heap[tb]? = some (.cells #[.pointer (some N)] 51 (0, 0)) ∧ Chg (· = tb) w w' := by
  have h0 : w.cell? ⟨tb, 0, none⟩ = some v0 := by rw [cell_block hT 0]; rfl
  have hf : w.frozen? ⟨tb, 0, none⟩ = false := free_block hT 0
  have h47 := @run_callFunc_extern Tryd.prog 47 _ ReflectliteType.typeOf Tryd.func47 (by kernel_rfl) (by kernel_rfl) (by kernel_rfl) (by kernel_rfl)
  have h107 := @run_callFunc_extern Tryd.prog 107 _ (ReflectliteType.relation "AssignableTo" ReflectliteType.assignableTo) Tryd.func107 (by kernel_rfl) (by kernel_rfl) (by kernel_rfl) (by kernel_rfl)
  have h48 := @run_callFunc_extern Tryd.prog 48 _ (ReflectliteValue.method (ReflectliteValue.valueError "reflectlite.Value.Elem" 0) ReflectliteValue.elem) Tryd.func48 (by kernel_rfl) (by kernel_rfl) (by kernel_rfl) (by kernel_rfl)
  have h35 := @run_callFunc_extern Tryd.prog 35 _ (fun args => ReflectliteValue.unpack (args.getD 0 (.tuple #[]))) Tryd.func35 (by kernel_rfl) (by kernel_rfl) (by kernel_rfl) (by kernel_rfl)
  have h49 := @run_callFunc_extern Tryd.prog 49 _ ReflectliteValue.set Tryd.func49 (by kernel_rfl) (by kernel_rfl) (by kernel_rfl) (by kernel_rfl)
  have f1 := as_typeOfP
  have f2 := as_mAssignableTo
  have f3 := as_assignable
  have f4 := fun o => as_elem ⟨v1, 0, none⟩ ⟨tb, 0, none⟩ (w.alloc o) (cell_alloc h1 o)
  have f5 := as_valueOfP N
  have f6 := fun o => as_set ⟨tb, 0, none⟩ ⟨w.heap.size + 1, 0, none⟩ N v0 ((w.alloc o).alloc (.cells #[.pointer (some N)] 51)) (by have h9 := cell_new (w.alloc o) (.pointer (some N)) 51; rw [show (w.alloc o).heap.size = w.heap.size + 1 from by simp] at h9; exact h9) (cell_alloc (cell_alloc h0 o) _) (frozen_alloc' (cell_alloc h0 o) (frozen_alloc' h0 hf o) _)
  go_enter Tryd.func38, Tryd.ntmps38
  go_wp2
  refine wp_loop_rounds 1 ?_
  rw [rounds_succ]
  go_wp2
  go_ret
  refine ⟨rfl, ?_, (((Chg.refl (· = tb) w).alloc _).alloc _).put 0 _⟩
  rw [block_setCell ((((Chg.refl (fun _ => False) w).alloc _).alloc _).keeps hT (fun x => x))]; rfl

set_option maxRecDepth 100000 in
/-- errors.As, of a fault, for a place for one. -/
theorem as_fault (N : Addr) (tb : Nat) (v0 : Value) (w : World) (hT : w.heap[tb]? = some (.cells #[v0] 51 (0, 0)))
    (hE : w.cell? ⟨0, 0, none⟩ = some (.iface 86 (.agg #[hnd 25]))) :
    Calls Tryd.prog 21 #[.iface 51 (.pointer (some N)), .iface 53 (.pointer (some ⟨tb, 0, none⟩))] w
      fun e w' => e = .returned (.bool true) ∧ w'.heap[tb]? = some (.cells #[.pointer (some N)] 51 (0, 0)) ∧ Chg (· = tb) w w' := by
  have h35 := @run_callFunc_extern Tryd.prog 35 _ (fun args => ReflectliteValue.unpack (args.getD 0 (.tuple #[]))) Tryd.func35 (by kernel_rfl) (by kernel_rfl) (by kernel_rfl) (by kernel_rfl)
  have h36 := @run_callFunc_extern Tryd.prog 36 _ (ReflectliteValue.methodAny (ReflectliteValue.valueError "reflectlite.Value.Type" 0) (fun t _ _ _ => ReflectliteType.toType t)) Tryd.func36 (by kernel_rfl) (by kernel_rfl) (by kernel_rfl) (by kernel_rfl)
  have h37 := @run_callFunc_extern Tryd.prog 37 _ (ReflectliteValue.method (ReflectliteValue.valueError "reflectlite.Value.IsNil" 0) ReflectliteValue.isNil) Tryd.func37 (by kernel_rfl) (by kernel_rfl) (by kernel_rfl) (by kernel_rfl)
  have h97 := @run_callFunc_extern Tryd.prog 97 _ (ReflectliteType.abiMethod fun t => do pure (.int .u8 (← Rtype.kind t))) Tryd.func97 (by kernel_rfl) (by kernel_rfl) (by kernel_rfl) (by kernel_rfl)
  have h109 := @run_callFunc_extern Tryd.prog 109 _ (ReflectliteType.method ReflectliteType.elem) Tryd.func109 (by kernel_rfl) (by kernel_rfl) (by kernel_rfl) (by kernel_rfl)
  have h110 := @run_callFunc_extern Tryd.prog 110 _ (ReflectliteType.relation "Implements" ReflectliteType.implements_) Tryd.func110 (by kernel_rfl) (by kernel_rfl) (by kernel_rfl) (by kernel_rfl)
  have f1 := as_valueOfPP ⟨tb, 0, none⟩
  have f2 := as_typePP
  have f3 := as_mKind
  have f4 := as_mElem
  have f5 := as_mImplements
  have f6 := as_kindPP
  have f7 := as_kindP
  have f8 := as_elemT
  have f9 := as_implements
  have f10 := fun o => as_isNil ⟨w.heap.size, 0, none⟩ ⟨tb, 0, none⟩ ((w.alloc (.cells #[.pointer (some ⟨tb, 0, none⟩)] 53)).alloc o) (cell_alloc (cell_new w _ _) o)
  have g1 := fun o1 o2 => cell_alloc (cell_alloc hE o1) o2
  go_enter Tryd.func21, Tryd.ntmps21
  go_wp2_with (go_at_call 38; refine (as_inner N tb w.heap.size v0 _ (cell_alloc (cell_new w _ _) _) (((Chg.refl (fun _ => False) w).alloc _).alloc _ |>.keeps hT (fun x => x))).mono ?_; rintro e w' ⟨rfl, hT', hc⟩)
  go_ret
  exact ⟨rfl, hT', (((Chg.refl _ _).alloc _).alloc _).trans hc⟩

end Go.Proofs.YtjcnhoagccdclaaDoor
