/-
  LexJoins: the walk.
-/
import Derived.Test.YtjcnhoagccdclaaDoorLike
import Derived.Test.YtjcnhoagccdclaaDoorPlacesW
import Derived.Test.YtjcnhoagccdclaaDoorAloneW
import Derived.Test.YtjcnhoagccdclaaDoorAppToks
namespace Go.Proofs.YtjcnhoagccdclaaDoor
open Go.RowKit
open Lx (Byte)

theorem RowOf.gen {w : World} {v : Value} {l : List Lx.Tok} (h : RowOf w v l) : ∃ ao cap, v = .slice ao l.length cap ∧ l.length ≤ cap ∧ ∀ k (h : k < l.length), ∃ g, ao = some ⟨g, 0, none⟩ ∧ TokAt w g k l[k] := by
  rcases h with ⟨h, hv⟩ | ⟨g, cap, hv, hc, ht⟩
  · subst h; exact ⟨none, 0, hv, Nat.le_refl _, fun k h => by simp at h⟩
  · exact ⟨_, cap, hv, hc, fun k h => ⟨g, rfl, ht k h⟩⟩
theorem like_joined {x y y' : List Lx.Tok} {d : Nat} (h : y'.map bareTok = (y.map (moved d)).map bareTok) : (x ++ y').map likeTok = (x ++ y).map likeTok := by
  rw [List.map_append, List.map_append]
  congr 1
  have h1 := congrArg (List.map likeTok) h
  rw [List.map_map, List.map_map, List.map_map] at h1
  exact h1
theorem joined_at {x y y' : List Lx.Tok} {d : Nat} (h : y'.map bareTok = (y.map (moved d)).map bareTok) (k : Nat) (hk : k < y.length) (hl : y'.length = y.length) {hz : x.length + k < (x ++ y').length} : ((x ++ y')[x.length + k]).at_ = y[k].at_ + d := by
  have hk' : k < y'.length := by omega
  have h1 : (y'.map bareTok)[k]? = ((y.map (moved d)).map bareTok)[k]? := by rw [h]
  simp only [List.getElem?_map, List.getElem?_eq_getElem hk, List.getElem?_eq_getElem hk', Option.map_some, Option.some.injEq] at h1
  have h2 := congrArg Lx.Tok.at_ h1
  rw [List.getElem_append_right (by omega)]
  simpa [bareTok, moved] using h2
theorem ba_app (a b : ByteArray) : (a ++ b).data.toList = a.data.toList ++ b.data.toList := by simp
theorem join_list (a b : ByteArray) : (a ++ ⟨#[10]⟩ ++ b).data.toList = a.data.toList ++ 10 :: b.data.toList := by rw [ba_app, ba_app, List.append_assoc]; rfl

set_option maxRecDepth 100000 in
set_option maxHeartbeats 4000000 in
theorem joins_long (a b : ByteArray) (ha : a.size ≤ 140737488351232) (hb : b.size ≤ 140737488351232) (w : World) (hv : Vars w) (hl : 16000 < a.size + b.size) :
    Calls Tryd.prog 8 #[.string a, .string b] w fun e w' => e = .returned (.bool true) ∧ Below w.heap.size w w' := by
  have hl1 : (16000 : Int) < (a.size : Int) + (b.size : Int) := by omega
  go_enter Tryd.func8, Tryd.ntmps8
  go_wp2_with fail
  refine (alive_any _ hv).mono ?_
  rintro e w1 ⟨rfl, hb1⟩
  go_wp2
  go_ret
  exact ⟨rfl, hb1⟩

set_option maxRecDepth 100000 in
set_option maxHeartbeats 4000000 in
/-- The first text fails: whatever the second. -/
theorem joins_err (a b : ByteArray) (w : World) (hv : Vars w) (hl : a.size + b.size ≤ 16000) {c k : Nat} (ht : Lx.tokens a.data.toList = .err c k) :
    Calls Tryd.prog 8 #[.string a, .string b] w fun e w' => e = .returned (.bool true) ∧ Below w.heap.size w w' := by
  have hl1 : (a.size : Int) + (b.size : Int) ≤ 16000 := by omega
  have HT := Lib.hid ht
  clear ht
  cases hy : Lx.tokens b.data.toList with
  | err c2 k2 =>
    have HY := Lib.hid hy
    clear hy
    go_enter Tryd.func8, Tryd.ntmps8
    go_wp2_with fail
    refine (alive_any _ hv).mono ?_
    rintro e w1 ⟨rfl, hb1⟩
    have hv1 := hv.below hb1
    go_wp2_with fail
    refine (tokens_err hv1 HT.out).mono ?_
    rintro e w2 ⟨fv, rfl, ⟨N, rfl, hN⟩, hb2⟩
    have hv2 := hv1.below hb2
    go_wp2_with fail
    refine (tokens_err hv2 HY.out).mono ?_
    rintro e w3 ⟨fv2, rfl, hN2, hb3⟩
    go_wp2
    go_ret
    exact ⟨rfl, below_step (below_step hb1 hb2 hb1.size) hb3 (Nat.le_trans hb1.size hb2.size)⟩
  | ok y =>
    have HY := Lib.hid hy
    clear hy
    go_enter Tryd.func8, Tryd.ntmps8
    go_wp2_with fail
    refine (alive_any _ hv).mono ?_
    rintro e w1 ⟨rfl, hb1⟩
    have hv1 := hv.below hb1
    go_wp2_with fail
    refine (tokens_err hv1 HT.out).mono ?_
    rintro e w2 ⟨fv, rfl, ⟨N, rfl, hN⟩, hb2⟩
    have hv2 := hv1.below hb2
    go_wp2_with fail
    refine (tokens_ok hv2 HY.out).mono ?_
    rintro e w3 ⟨v, rfl, hr, hb3⟩
    go_wp2
    go_ret
    exact ⟨rfl, below_step (below_step hb1 hb2 hb1.size) hb3 (Nat.le_trans hb1.size hb2.size)⟩

/-- Is a token the name that is a point? -/
def isDot (t : Lx.Tok) : Bool := t.kind == 1 && (t.text == [46] && !t.quoted)
theorem isDot_iff {t : Lx.Tok} : isDot t = true ↔ dotName t.kind t.text t.quoted := by
  simp [isDot, dotName]

set_option maxRecDepth 100000 in
set_option maxHeartbeats 40000000 in
/-- The second text fails. -/
theorem joins_fail (a b : ByteArray) (w : World) (hv : Vars w) (hl : a.size + b.size ≤ 16000) {x : List Lx.Tok} (ht : Lx.tokens a.data.toList = .ok x) {c2 k2 : Nat} (hy : Lx.tokens b.data.toList = .err c2 k2) :
    Calls Tryd.prog 8 #[.string a, .string b] w fun e w' => e = .returned (.bool true) ∧ Below w.heap.size w w' := by
  have hl1 : (a.size : Int) + (b.size : Int) ≤ 16000 := by omega
  have hxl : x.length ≤ 16384 := by have := tokens_count ht; omega
  have hk2 : k2 ≤ 16384 := by have := tokens_fault hy; simp at this; omega
  have HZ := Lib.hid (fun hd => tokens_join_err ht hd hy (by rw [List.length_append, List.length_cons, Array.length_toList, Array.length_toList, ByteArray.size_data, ByteArray.size_data]; omega))
  have HT := Lib.hid ht
  clear ht
  have HY := Lib.hid hy
  clear hy
  go_enter Tryd.func8, Tryd.ntmps8
  go_wp2_with fail
  refine (alive_any _ hv).mono ?_
  rintro e w1 ⟨rfl, hb1⟩
  have hv1 := hv.below hb1
  go_wp2_with fail
  refine (tokens_ok hv1 HT.out).mono ?_
  rintro e w2 ⟨v, rfl, hr, hb2⟩
  have hv2 := hv1.below hb2
  go_wp2_with fail
  refine (tokens_err hv2 HY.out).mono ?_
  rintro e w3 ⟨fv2, rfl, ⟨N, rfl, hN⟩, hb3⟩
  have hf : FaultAt w3 (.iface 51 (.pointer (some ⟨N, 0, none⟩))) c2 k2 := ⟨N, rfl, hN⟩
  obtain ⟨ao, cap, rfl, hcap, hto⟩ := RowOf.gen (RowOf.of hr)
  have HTO := Lib.hid hto
  clear hr hto
  have hb13 : Below w.heap.size w w3 := below_step (below_step hb1 hb2 hb1.size) hb3 (Nat.le_trans hb1.size hb2.size)
  have hv3 := hv2.below hb3
  have HB3 := Lib.hid hb3
  clear hb1 hb2 hb3
  go_wp2
  go_loopw [36] (fun i wr => ∃ k : Nat, k ≤ x.length ∧ i = .int .i64 k ∧ Below w3.heap.size w3 wr ∧ ∀ j (h : j < x.length), j < k → ¬ dotName x[j].kind x[j].text x[j].quoted) (fun i _ => x.length - (intOf i).toNat)
  case atStart => exact ⟨0, Nat.zero_le _, rfl, Below.refl _ _, fun j _ h => by omega⟩
  case round =>
    obtain ⟨k, hk, rfl, hbr, hnd⟩ := hrel
    have HND := Lib.hid hnd
    clear hnd
    have hbs := hbr.size
    by_cases hlt : k < x.length
    · obtain ⟨g, hao, hT⟩ := HTO.out k hlt
      subst hao
      obtain ⟨t, ht⟩ : ∃ t, x[k] = t := ⟨_, rfl⟩
      rw [ht] at hT
      have HTK := Lib.hid ht
      clear ht
      obtain ⟨c0, c1, c2, c3, c4, c5⟩ := (hT.below HB3.out).below hbr
      clear hT
      have hg := World.block_lt_of_cell? _ _ c0
      simp only at hg
      go_wp2
      all_goals first
        | (go_ret; exact ⟨rfl, below_step hb13 (hbr.alloc (Nat.le_of_lt (by omega)) _) hb13.size⟩)
        | (go_ret; exact ⟨rfl, below_step hb13 (hbr.alloc (by omega) _) hb13.size⟩)
        | (have hd : ¬ dotName t.kind t.text t.quoted := by first | exact not_dot1 (by assumption) | exact not_dot2 (by assumption) | exact not_dot3 (by assumption)
           have HD := Lib.hid hd
           clear hd
           go_roundw
           case rel =>
             refine ⟨k + 1, by omega, by go_num, hbr.alloc (by omega) _, fun j hj hjk => ?_⟩
             by_cases hjk2 : j < k
             · exact HND.out j hj hjk2
             · obtain rfl : j = k := by omega
               rw [HTK.out]; exact HD.out
           case measure => simp [intOf]; omega)
    · have hkx : k = x.length := by omega
      have hnd : ∀ t ∈ x, ¬ dotName t.kind t.text t.quoted := by
        intro t ht
        obtain ⟨j, hj, rfl⟩ := List.getElem_of_mem ht
        exact HND.out j hj (by omega)
      have HX := Lib.hid (And.intro hkx hnd)
      clear hkx hnd
      go_wp2_with fail
      have hvr := hv3.below hbr
      have hz := HZ.out HX.out.2
      rw [← join_list, Array.length_toList, ByteArray.size_data] at hz
      have HZ2 := Lib.hid hz
      clear hz
      refine (tokens_err hvr HZ2.out).mono ?_
      rintro e w4 ⟨fv3, rfl, hf3, hb4⟩
      have hv4 := hvr.below hb4
      have hf4 := (hf.below hbr).below hb4
      have hb14 := below_step (below_step hb13 hbr hb13.size) hb4 (Nat.le_trans hb13.size hbr.size)
      rw [show ((k2 + (a.size + 1) : Nat) : Int) = (k2 : Int) + (a.size : Int) + 1 from by omega] at hf3
      go_wp2_with fail
      refine (code_fault _ _ _ _ hf3 hv4.err).mono ?_
      rintro e w5 ⟨rfl, hb5⟩
      have hv5 := hv4.below hb5
      go_wp2_with fail
      refine (code_fault _ _ _ _ (hf4.below hb5) hv5.err).mono ?_
      rintro e w6 ⟨rfl, hb6⟩
      have hv6 := hv5.below hb6
      go_wp2_with fail
      refine (at_fault _ _ _ _ ((hf3.below hb5).below hb6) hv6.err).mono ?_
      rintro e w7 ⟨rfl, hb7⟩
      have hv7 := hv6.below hb7
      go_wp2_with fail
      refine (at_fault _ _ _ _ (((hf4.below hb5).below hb6).below hb7) hv7.err).mono ?_
      rintro e w8 ⟨rfl, hb8⟩
      go_wp2
      go_ret
      have hz3 := hb13.size
      have hz4 := hbr.size
      have hz5 := hb4.size
      have hz6 := hb5.size
      have hz7 := hb6.size
      have hz8 := hb7.size
      exact ⟨rfl, below_step (below_step (below_step (below_step hb14 hb5 (by omega)) hb6 (by omega)) hb7 (by omega)) hb8 (by omega)⟩
set_option maxRecDepth 100000 in
set_option maxHeartbeats 40000000 in
/-- Both texts have tokens. -/
theorem joins_both (a b : ByteArray) (w : World) (hv : Vars w) (hl : a.size + b.size ≤ 16000) {x : List Lx.Tok} (ht : Lx.tokens a.data.toList = .ok x) {y : List Lx.Tok} (hy : Lx.tokens b.data.toList = .ok y) :
    Calls Tryd.prog 8 #[.string a, .string b] w fun e w' => e = .returned (.bool true) ∧ Below w.heap.size w w' := by
  have hl1 : (a.size : Int) + (b.size : Int) ≤ 16000 := by omega
  have hxl : x.length ≤ 16384 := by have := tokens_count ht; omega
  have hyl : y.length ≤ 16384 := by have := tokens_count hy; omega
  have HZ := Lib.hid (fun hd => tokens_join_ok ht hd hy (by rw [List.length_append, List.length_cons, Array.length_toList, Array.length_toList, ByteArray.size_data, ByteArray.size_data]; omega))
  have HT := Lib.hid ht
  clear ht
  have HY := Lib.hid hy
  clear hy
  go_enter Tryd.func8, Tryd.ntmps8
  go_wp2_with fail
  refine (alive_any _ hv).mono ?_
  rintro e w1 ⟨rfl, hb1⟩
  have hv1 := hv.below hb1
  go_wp2_with fail
  refine (tokens_ok hv1 HT.out).mono ?_
  rintro e w2 ⟨v, rfl, hr, hb2⟩
  have hv2 := hv1.below hb2
  go_wp2_with fail
  refine (tokens_ok hv2 HY.out).mono ?_
  rintro e w3 ⟨vy, rfl, hry, hb3⟩
  have hry0 := RowOf.of hry
  obtain ⟨bo, ycap, rfl, hycap, hyto⟩ := RowOf.gen hry0
  have HY0 := Lib.hid (And.intro hry0 hyto)
  clear hry hry0 hyto
  have hrx0 := Lib.hid ((RowOf.of hr).below hb3)
  obtain ⟨ao, cap, rfl, hcap, hto⟩ := RowOf.gen (RowOf.of hr)
  have HTO := Lib.hid hto
  clear hr hto
  have hb13 : Below w.heap.size w w3 := below_step (below_step hb1 hb2 hb1.size) hb3 (Nat.le_trans hb1.size hb2.size)
  have hv3 := hv2.below hb3
  have HB3 := Lib.hid hb3
  clear hb1 hb2 hb3
  go_wp2
  go_loopw [36] (fun i wr => ∃ k : Nat, k ≤ x.length ∧ i = .int .i64 k ∧ Below w3.heap.size w3 wr ∧ ∀ j (h : j < x.length), j < k → ¬ dotName x[j].kind x[j].text x[j].quoted) (fun i _ => x.length - (intOf i).toNat)
  case atStart => exact ⟨0, Nat.zero_le _, rfl, Below.refl _ _, fun j _ h => by omega⟩
  case round =>
    obtain ⟨k, hk, rfl, hbr, hnd⟩ := hrel
    have HND := Lib.hid hnd
    clear hnd
    have hbs := hbr.size
    by_cases hlt : k < x.length
    · obtain ⟨g, hao, hT⟩ := HTO.out k hlt
      subst hao
      obtain ⟨t, ht⟩ : ∃ t, x[k] = t := ⟨_, rfl⟩
      rw [ht] at hT
      have HTK := Lib.hid ht
      clear ht
      obtain ⟨c0, c1, c2, c3, c4, c5⟩ := (hT.below HB3.out).below hbr
      clear hT
      have hg := World.block_lt_of_cell? _ _ c0
      simp only at hg
      go_wp2
      all_goals first
        | (go_ret; exact ⟨rfl, below_step hb13 (hbr.alloc (Nat.le_of_lt (by omega)) _) hb13.size⟩)
        | (go_ret; exact ⟨rfl, below_step hb13 (hbr.alloc (by omega) _) hb13.size⟩)
        | (have hd : ¬ dotName t.kind t.text t.quoted := by first | exact not_dot1 (by assumption) | exact not_dot2 (by assumption) | exact not_dot3 (by assumption)
           have HD := Lib.hid hd
           clear hd
           go_roundw
           case rel =>
             refine ⟨k + 1, by omega, by go_num, hbr.alloc (by omega) _, fun j hj hjk => ?_⟩
             by_cases hjk2 : j < k
             · exact HND.out j hj hjk2
             · obtain rfl : j = k := by omega
               rw [HTK.out]; exact HD.out
           case measure => simp [intOf]; omega)
    · have hkx : k = x.length := by omega
      have hnd : ∀ t ∈ x, ¬ dotName t.kind t.text t.quoted := by
        intro t ht
        obtain ⟨j, hj, rfl⟩ := List.getElem_of_mem ht
        exact HND.out j hj (by omega)
      have HX := Lib.hid (And.intro hkx hnd)
      clear hkx hnd
      go_wp2_with fail
      have hvr := hv3.below hbr
      obtain ⟨y', hz, hzy⟩ := HZ.out HX.out.2
      rw [← join_list] at hz
      have HZ2 := Lib.hid (And.intro hz hzy)
      clear hz hzy
      refine (tokens_ok hvr HZ2.out.1).mono ?_
      rintro e w4 ⟨vz, rfl, hrz, hb4⟩
      have hb14 := below_step (below_step hb13 hbr hb13.size) hb4 (Nat.le_trans hb13.size hbr.size)
      have hyy : y'.length = y.length := by have := congrArg List.length HZ2.out.2; simpa using this
      have hzrow := RowOf.of hrz
      have hzl : (x ++ y').length = x.length + y.length := by rw [List.length_append, hyy]
      obtain ⟨zo, zcap, rfl, hzcap, hzto⟩ := RowOf.gen hzrow
      rw [hzl] at hzcap
      have HZ3 := Lib.hid (And.intro hzrow (And.intro hzto (And.intro hyy hzl)))
      rw [hzl]
      clear hrz hzrow hzto hyy hzl
      have hbr4 := below_step hbr hb4 hbr.size
      have HBX := Lib.hid (And.intro hb13 (And.intro hbr hb4))
      clear hb13 hbr hb4
      go_wp2
      go_loopw [99] (fun i wr => ∃ k : Nat, k ≤ y.length ∧ i = .int .i64 k ∧ ∃ m, wr = w4.drewN m) (fun i _ => y.length - (intOf i).toNat)
      case atStart => exact ⟨0, Nat.zero_le _, rfl, 0, rfl⟩
      case round =>
        obtain ⟨k', hk', rfl, m, rfl⟩ := hrel
        by_cases hlt' : k' < y.length
        · obtain ⟨g2, hbo, hTy⟩ := HY0.out.2 k' hlt'
          subst hbo
          obtain ⟨g3, hzo, hTz⟩ := HZ3.out.2.1 (x.length + k') (by rw [HZ3.out.2.2.2]; omega)
          subst hzo
          have c3 := ((hTy.below HBX.out.2.1).below HBX.out.2.2).at_
          have z3 := hTz.at_
          rw [joined_at HZ2.out.2 k' hlt' HZ3.out.2.2.1] at z3
          clear hTy hTz
          have hat : y[k'].at_ ≤ 16384 := by
            have h1 := ((tokens_places HY.out).2.1 k' hlt').lt
            have h2 := (tokens_count HY.out).2
            omega
          obtain ⟨at9, hat9⟩ : ∃ n, y[k'].at_ = n := ⟨_, rfl⟩
          rw [hat9] at c3 z3 hat
          clear hat9
          rw [show a.data.toList.length = a.size from by simp, show ((at9 + (a.size + 1) : Nat) : Int) = (at9 : Int) + (a.size : Int) + 1 from by omega] at z3
          have hk0 : (0 : Int) ≤ (k' : Int) := by omega
          have hk1 : (k' : Int) < (y.length : Int) := by omega
          have hk2 : (0 : Int) ≤ (x.length : Int) + (k' : Int) := by omega
          have hk3 : (x.length : Int) + (k' : Int) < (x.length : Int) + (y.length : Int) := by omega
          go_wp2
          go_quiet (fail)
          go_wp2
          go_roundw
          case rel => exact ⟨k' + 1, by omega, by go_num, _, rfl⟩
          case measure => simp [intOf]; omega
        · have hq := HZ3.out.1
          have hlike := Lib.hid (fun (ww : World) (v : Value) (hw : Below w4.heap.size w4 ww) (hs : SliceOf ww v (x ++ y)) => like_yes (.slice zo (x.length + y.length) zcap) v (x ++ y') (x ++ y) ww ((SliceOf.row (by rw [← HZ3.out.2.2.2]; exact hq)).below hw) hs (like_joined HZ2.out.2) (by rw [HZ3.out.2.2.2]; omega))
          clear hq
          refine wp_letter (R := fun w5 => Below w4.heap.size w4 w5) (below_drewN (Below.refl _ _) _) ?_
          intro w5 hb45
          have hzz := hb45.size
          go_wp2_with (first | (at_builtin; refine append_toks (by rfl) _ _ (by rfl) w5.heap.size _ _ (by rfl) (by exact hown1) _ y (by rfl) (by exact (((HY0.out.1.below HBX.out.2.1).below HBX.out.2.2).below hb45).below (Below.trans ((Below.refl _ _).alloc (Nat.le_refl _) _) hgb1)) (by rw [List.nil_append]; omega) (by omega) ?_; intro v2 w7 hown2 hgb2 hz2) | (at_builtin; (refine append_toks (by rfl) _ _ (by rfl) w5.heap.size _ [] (by rfl) (by exact World.ownsRow_lit w5 #[] 0 (Nat.le_refl _) (by decide) rfl) _ x (by rfl) (by exact (((hrx0.out.below HBX.out.2.1).below HBX.out.2.2).below hb45).below ((Below.refl _ _).alloc (Nat.le_refl _) _)) (by simp; omega) (by simp) ?_; intro v1 w6 hown1 hgb1 hz1)))
          have hb56 := Below.trans (Below.trans ((Below.refl w5.heap.size w5).alloc (Nat.le_refl _) _) hgb1) hgb2
          have hb47 : Below w4.heap.size w4 w7 := below_step hb45 hb56 hzz
          have hs2 : SliceOf w7 v2 (x ++ y) := by have := OwnToks.slice hown2; rwa [List.nil_append] at this
          refine (hlike.out w7 v2 hb47 hs2).mono ?_
          rintro e w8 ⟨rfl, n8, rfl⟩
          go_wp2
          go_ret
          exact ⟨rfl, below_drewN (below_step hb14 hb47 hb14.size) _⟩

theorem joins_walk (a : ByteArray) (ha : a.size ≤ 140737488351232) (b : ByteArray) (hb : b.size ≤ 140737488351232) (w : World) (hv : Vars w) :
    Calls Tryd.prog 8 #[.string a, .string b] w fun e w' => e = .returned (.bool true) ∧ Below w.heap.size w w' := by
  by_cases hl : a.size + b.size ≤ 16000
  · cases hx : Lx.tokens a.data.toList with
    | err c k => exact joins_err a b w hv hl hx
    | ok x =>
      cases hy : Lx.tokens b.data.toList with
      | err c k => exact joins_fail a b w hv hl hx hy
      | ok y => exact joins_both a b w hv hl hx hy
  · exact joins_long a b ha hb w hv (by omega)
end Go.Proofs.YtjcnhoagccdclaaDoor
