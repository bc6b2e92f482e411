/-
  LexAlone: the walk.
-/
import Derived.Test.YtjcnhoagccdclaaDoorLike
import Derived.Test.YtjcnhoagccdclaaDoorPlacesW
namespace Go.Proofs.YtjcnhoagccdclaaDoor
open Go.RowKit
open Lx (Byte)

set_option maxRecDepth 100000 in
set_option maxHeartbeats 4000000 in
theorem alone_err (text : ByteArray) (k : Int) (w : World) (hv : Vars w) {c a : Nat} (ht : Lx.tokens text.data.toList = .err c a) :
    Calls Tryd.prog 3 #[.string text, .int .i64 k] w fun e w' => e = .returned (.bool true) ∧ Below w.heap.size w w' := by
  have hT := fun wx hv => tokens_err (w := wx) hv ht
  clear ht
  have HT := Lib.hid hT
  clear hT
  go_enter Tryd.func3, Tryd.ntmps3
  go_wp2_with fail
  refine (alive_any _ hv).mono ?_
  rintro e w1 ⟨rfl, hb1⟩
  have hv1 := hv.below hb1
  go_wp2_with fail
  refine (HT.out _ hv1).mono ?_
  rintro e w2 ⟨fv, rfl, ⟨N, rfl, hN⟩, hb2⟩
  go_wp2
  go_ret
  exact ⟨rfl, below_step hb1 hb2 hb1.size⟩

set_option maxRecDepth 100000 in
set_option maxHeartbeats 4000000 in
theorem alone_nil (text : ByteArray) (k : Int) (w : World) (hv : Vars w) (ht : Lx.tokens text.data.toList = .ok []) :
    Calls Tryd.prog 3 #[.string text, .int .i64 k] w fun e w' => e = .returned (.bool true) ∧ Below w.heap.size w w' := by
  have hT := fun wx hv => tokens_ok (w := wx) hv ht
  clear ht
  have HT := Lib.hid hT
  clear hT
  go_enter Tryd.func3, Tryd.ntmps3
  go_wp2_with fail
  refine (alive_any _ hv).mono ?_
  rintro e w1 ⟨rfl, hb1⟩
  have hv1 := hv.below hb1
  go_wp2_with fail
  refine (HT.out _ hv1).mono ?_
  rintro e w2 ⟨v, rfl, hr, hb2⟩
  obtain ⟨ao, cap, rfl⟩ := (RowOf.of hr).len
  clear hr
  go_wp2
  go_ret
  exact ⟨rfl, below_step hb1 hb2 hb1.size⟩

theorem part_list {s : ByteArray} {a e : Nat} (h : a ≤ e) : (s.extract a e).data.toList = (s.data.toList.drop a).take (e - a) := by
  obtain ⟨n, rfl⟩ : ∃ n, e = a + n := ⟨e - a, by omega⟩
  rw [cut_val, Nat.add_sub_cancel_left]
theorem not_dot1 {k : Int} {x : List Byte} {q : Bool} (h : ¬ k = 1) : ¬ dotName k x q := fun d => h d.1
theorem not_dot2 {k : Int} {x : List Byte} {q : Bool} (h : ¬ x = [46]) : ¬ dotName k x q := fun d => h d.2.1
theorem not_dot3 {k : Int} {x : List Byte} {q : Bool} (h : (!q) = false) : ¬ dotName k x q := fun d => by simp [d.2.2] at h

/-- What the tokens of a part are: the one token, at its beginning. -/
theorem part_tokens {text : ByteArray} {l : List Lx.Tok} (ht : Lx.tokens text.data.toList = .ok l) {j : Nat} (hj : j < l.length) {t : Lx.Tok} (htj : l[j] = t) (hd : ¬ dotName t.kind t.text t.quoted) {e : Nat}
    (he : e = if h : j + 1 < l.length then l[j + 1].at_ else text.size) : Lx.tokens (text.extract t.at_ e).data.toList = .ok [⟨t.kind, t.text, t.num, 0, t.quoted, true⟩] := by
  have := tokens_alone ht j hj (by rw [htj]; exact hd) (e := e) (by rw [he]; simp)
  rw [htj] at this
  rw [part_list this.1]
  exact this.2.2

theorem below_then {w w1 w2 : World} (h : Below w.heap.size w w1) (k : Below w1.heap.size w1 w2) : Below w.heap.size w w2 := below_step h k h.size
theorem one_slice {w : World} {g cap : Nat} {l : List Lx.Tok} (h : ∀ i (h : i < l.length), TokAt w g i l[i]) {j : Nat} (hj : j < l.length) {t : Lx.Tok} (ht : l[j] = t) (hc : l.length ≤ cap) : SliceOf w (.slice (some ⟨g, j * 6, none⟩) 1 (cap - j)) [t] := by
  refine .inr ⟨g, j * 6, cap - j, rfl, by simp only [List.length_singleton]; omega, fun i hi => ?_⟩
  have hi0 : i = 0 := by simpa using hi
  subst hi0
  have := h j hj
  rw [ht] at this
  exact ⟨this.kind, this.text, this.num, this.at_, this.quoted, this.apart⟩

set_option maxRecDepth 100000 in
set_option maxHeartbeats 40000000 in
theorem alone_in (text : ByteArray) (j : Nat) (w : World) (hv : Vars w) {l : List Lx.Tok} (ht : Lx.tokens text.data.toList = .ok l) (hj : j < l.length) :
    Calls Tryd.prog 3 #[.string text, .int .i64 (j : Int)] w fun e w' => e = .returned (.bool true) ∧ Below w.heap.size w w' := by
  have hT := fun wx hv => tokens_ok (w := wx) hv ht
  have htl : text.size ≤ 16384 := by have := (tokens_ok_iff.1 ht).1; simp at this; omega
  have hll : l.length ≤ 16384 := by have := tokens_count ht; omega
  have HPL := Lib.hid (tokens_places ht)
  have HT0 := Lib.hid ht
  clear ht
  have HT := Lib.hid hT
  clear hT
  have hj1 : (j : Int) < (l.length : Int) := by omega
  have hj0 : (0 : Int) ≤ (j : Int) := by omega
  go_enter Tryd.func3, Tryd.ntmps3
  go_wp2_with fail
  refine (alive_any _ hv).mono ?_
  rintro e w1 ⟨rfl, hb1⟩
  have hv1 := hv.below hb1
  go_wp2_with fail
  refine (HT.out _ hv1).mono ?_
  rintro e w2 ⟨v, rfl, hr, hb2⟩
  have hv2 := hv1.below hb2
  obtain ⟨g, cap, rfl, hcap, hto⟩ := (RowOf.of hr).at_ (by omega)
  have HTO := Lib.hid hto
  have hbw : Below w.heap.size w w2 := below_step hb1 hb2 hb1.size
  clear hr hb1 hb2
  obtain ⟨t, htj⟩ : ∃ t, l[j]'hj = t := ⟨_, rfl⟩
  have hc := hto j hj
  clear hto
  rw [htj] at hc
  have hpl : t.at_ < text.size := by have := (HPL.out.2.1 j hj).lt; rw [htj] at this; simpa using this
  have HTJ := Lib.hid htj
  clear htj
  obtain ⟨c0, c1, c2, c3, c4, c5⟩ := hc
  by_cases hn : j + 1 < l.length
  · obtain ⟨u, hu⟩ : ∃ u, l[j + 1]'hn = u := ⟨_, rfl⟩
    have n3 : w2.cell? ⟨g, (j + 1) * 6 + 3, none⟩ = some (.int .i64 (u.at_ : Int)) := by have := (HTO.out (j + 1) hn).at_; rw [hu] at this; exact this
    have hu1 : t.at_ ≤ u.at_ := by have := (HPL.out.2.2 j hn).lt; rw [hu, HTJ.out] at this; omega
    have hu2 : u.at_ ≤ text.size := by have := (HPL.out.2.1 (j + 1) hn).lt; rw [hu] at this; simp at this; omega
    have HU := Lib.hid hu
    clear hu
    have hn1 : ((j : Int)) + 1 < (l.length : Int) := by omega
    go_wp2_with fail
    all_goals first
      | (go_ret; exact ⟨rfl, hbw⟩)
      | (have hd : ¬ dotName t.kind t.text t.quoted := by first | exact not_dot1 (by assumption) | exact not_dot2 (by assumption) | exact not_dot3 (by assumption)
         have hP := Lib.hid (part_tokens HT0.out hj HTJ.out hd (e := u.at_) (by rw [dif_pos hn]; exact congrArg Lx.Tok.at_ HU.out.symm))
         clear hd
         refine (tokens_ok hv2 hP.out).mono ?_
         rintro e w3 ⟨v, rfl, hr, hb3⟩
         have hs := SliceOf.row (RowOf.of hr)
         obtain ⟨g2, cap2, rfl, hcap2, d0, d1, d2, d3, d4, d5⟩ := RowOf.one (RowOf.of hr)
         have hlk := Lib.hid (fun ww (hw : Below w3.heap.size w3 ww) => like_yes (.slice (some ⟨g2, 0, none⟩) 1 cap2) (.slice (some ⟨g, j * 6, none⟩) 1 (cap - j)) [⟨t.kind, t.text, t.num, 0, t.quoted, true⟩] [t] ww (hs.below hw) (SliceOf.below (one_slice HTO.out hj HTJ.out hcap) (below_then hb3 hw)) rfl (by simp))
         clear hr hs
         go_wp2_with fail
         refine (hlk.out _ (Below.refl _ _)).mono ?_
         rintro e w4 ⟨rfl, n, rfl⟩
         go_wp2
         go_ret
         exact ⟨rfl, below_drewN (below_step hbw hb3 hbw.size) _⟩)
  · have hn1 : ¬ ((j : Int)) + 1 < (l.length : Int) := by omega
    have hpl1 : t.at_ ≤ text.size := by omega
    go_wp2_with fail
    all_goals first
      | (go_ret; exact ⟨rfl, hbw⟩)
      | (have hd : ¬ dotName t.kind t.text t.quoted := by first | exact not_dot1 (by assumption) | exact not_dot2 (by assumption) | exact not_dot3 (by assumption)
         have hP := Lib.hid (part_tokens HT0.out hj HTJ.out hd (e := text.size) (by rw [dif_neg hn]))
         clear hd
         refine (tokens_ok hv2 hP.out).mono ?_
         rintro e w3 ⟨v, rfl, hr, hb3⟩
         have hs := SliceOf.row (RowOf.of hr)
         obtain ⟨g2, cap2, rfl, hcap2, d0, d1, d2, d3, d4, d5⟩ := RowOf.one (RowOf.of hr)
         have hlk := Lib.hid (fun ww (hw : Below w3.heap.size w3 ww) => like_yes (.slice (some ⟨g2, 0, none⟩) 1 cap2) (.slice (some ⟨g, j * 6, none⟩) 1 (cap - j)) [⟨t.kind, t.text, t.num, 0, t.quoted, true⟩] [t] ww (hs.below hw) (SliceOf.below (one_slice HTO.out hj HTJ.out hcap) (below_then hb3 hw)) rfl (by simp))
         clear hr hs
         go_wp2_with fail
         refine (hlk.out _ (Below.refl _ _)).mono ?_
         rintro e w4 ⟨rfl, n, rfl⟩
         go_wp2
         go_ret
         exact ⟨rfl, below_drewN (below_step hbw hb3 hbw.size) _⟩)

set_option maxRecDepth 100000 in
set_option maxHeartbeats 40000000 in
theorem alone_neg (text : ByteArray) (k : Int) (w : World) (hv : Vars w) {l : List Lx.Tok} (ht : Lx.tokens text.data.toList = .ok l) (hj : 0 < l.length) (hk : k < 0) :
    Calls Tryd.prog 3 #[.string text, .int .i64 k] w fun e w' => e = .returned (.bool true) ∧ Below w.heap.size w w' := by
  have hT := fun wx hv => tokens_ok (w := wx) hv ht
  have htl : text.size ≤ 16384 := by have := (tokens_ok_iff.1 ht).1; simp at this; omega
  have hll : l.length ≤ 16384 := by have := tokens_count ht; omega
  have HPL := Lib.hid (tokens_places ht)
  have HT0 := Lib.hid ht
  clear ht
  have HT := Lib.hid hT
  clear hT
  have hl0 : (0 : Int) < (l.length : Int) := by omega
  go_enter Tryd.func3, Tryd.ntmps3
  go_wp2_with fail
  refine (alive_any _ hv).mono ?_
  rintro e w1 ⟨rfl, hb1⟩
  have hv1 := hv.below hb1
  go_wp2_with fail
  refine (HT.out _ hv1).mono ?_
  rintro e w2 ⟨v, rfl, hr, hb2⟩
  have hv2 := hv1.below hb2
  obtain ⟨g, cap, rfl, hcap, hto⟩ := (RowOf.of hr).at_ (by omega)
  have HTO := Lib.hid hto
  have hbw : Below w.heap.size w w2 := below_step hb1 hb2 hb1.size
  clear hr hb1 hb2
  obtain ⟨t, htj⟩ : ∃ t, l[0]'hj = t := ⟨_, rfl⟩
  have hc := hto 0 hj
  clear hto
  rw [htj] at hc
  have hpl : t.at_ < text.size := by have := (HPL.out.2.1 0 hj).lt; rw [htj] at this; simpa using this
  have HTJ := Lib.hid htj
  clear htj
  have c0 : w2.cell? ⟨g, 0, none⟩ = some (.int .i64 t.kind) := hc.kind
  have c1 : w2.cell? ⟨g, 1, none⟩ = some (.string ⟨t.text.toArray⟩) := hc.text
  have c3 : w2.cell? ⟨g, 3, none⟩ = some (.int .i64 (t.at_ : Int)) := hc.at_
  have c4 : w2.cell? ⟨g, 4, none⟩ = some (.bool t.quoted) := hc.quoted
  clear hc
  by_cases hn : 0 + 1 < l.length
  · obtain ⟨u, hu⟩ : ∃ u, l[0 + 1]'hn = u := ⟨_, rfl⟩
    have n3 : w2.cell? ⟨g, 9, none⟩ = some (.int .i64 (u.at_ : Int)) := by have := (HTO.out (0 + 1) hn).at_; rw [hu] at this; exact this
    have hu1 : t.at_ ≤ u.at_ := by have := (HPL.out.2.2 0 hn).lt; rw [hu, HTJ.out] at this; omega
    have hu2 : u.at_ ≤ text.size := by have := (HPL.out.2.1 (0 + 1) hn).lt; rw [hu] at this; simp at this; omega
    have HU := Lib.hid hu
    clear hu
    have hn1 : ((0 : Int)) + 1 < (l.length : Int) := by omega
    go_wp2_with fail
    all_goals first
      | (go_ret; exact ⟨rfl, hbw⟩)
      | (have hd : ¬ dotName t.kind t.text t.quoted := by first | exact not_dot1 (by assumption) | exact not_dot2 (by assumption) | exact not_dot3 (by assumption)
         have hP := Lib.hid (part_tokens HT0.out hj HTJ.out hd (e := u.at_) (by rw [dif_pos hn]; exact congrArg Lx.Tok.at_ HU.out.symm))
         clear hd
         refine (tokens_ok hv2 hP.out).mono ?_
         rintro e w3 ⟨v, rfl, hr, hb3⟩
         have hs := SliceOf.row (RowOf.of hr)
         obtain ⟨g2, cap2, rfl, hcap2, d0, d1, d2, d3, d4, d5⟩ := RowOf.one (RowOf.of hr)
         have hlk := Lib.hid (fun ww (hw : Below w3.heap.size w3 ww) => like_yes (.slice (some ⟨g2, 0, none⟩) 1 cap2) (.slice (some ⟨g, 0, none⟩) 1 (cap - 0)) [⟨t.kind, t.text, t.num, 0, t.quoted, true⟩] [t] ww (hs.below hw) (SliceOf.below (one_slice HTO.out hj HTJ.out hcap) (below_then hb3 hw)) rfl (by simp))
         clear hr hs
         go_wp2_with fail
         refine (hlk.out _ (Below.refl _ _)).mono ?_
         rintro e w4 ⟨rfl, n, rfl⟩
         go_wp2
         go_ret
         exact ⟨rfl, below_drewN (below_step hbw hb3 hbw.size) _⟩)
  · have hn1 : ¬ ((0 : Int)) + 1 < (l.length : Int) := by omega
    have hpl1 : t.at_ ≤ text.size := by omega
    go_wp2_with fail
    all_goals first
      | (go_ret; exact ⟨rfl, hbw⟩)
      | (have hd : ¬ dotName t.kind t.text t.quoted := by first | exact not_dot1 (by assumption) | exact not_dot2 (by assumption) | exact not_dot3 (by assumption)
         have hP := Lib.hid (part_tokens HT0.out hj HTJ.out hd (e := text.size) (by rw [dif_neg hn]))
         clear hd
         refine (tokens_ok hv2 hP.out).mono ?_
         rintro e w3 ⟨v, rfl, hr, hb3⟩
         have hs := SliceOf.row (RowOf.of hr)
         obtain ⟨g2, cap2, rfl, hcap2, d0, d1, d2, d3, d4, d5⟩ := RowOf.one (RowOf.of hr)
         have hlk := Lib.hid (fun ww (hw : Below w3.heap.size w3 ww) => like_yes (.slice (some ⟨g2, 0, none⟩) 1 cap2) (.slice (some ⟨g, 0, none⟩) 1 (cap - 0)) [⟨t.kind, t.text, t.num, 0, t.quoted, true⟩] [t] ww (hs.below hw) (SliceOf.below (one_slice HTO.out hj HTJ.out hcap) (below_then hb3 hw)) rfl (by simp))
         clear hr hs
         go_wp2_with fail
         refine (hlk.out _ (Below.refl _ _)).mono ?_
         rintro e w4 ⟨rfl, n, rfl⟩
         go_wp2
         go_ret
         exact ⟨rfl, below_drewN (below_step hbw hb3 hbw.size) _⟩)

set_option maxRecDepth 100000 in
set_option maxHeartbeats 40000000 in
theorem alone_big (text : ByteArray) (k : Int) (w : World) (hv : Vars w) {l : List Lx.Tok} (ht : Lx.tokens text.data.toList = .ok l) (hj : 0 < l.length) (hk0 : 0 ≤ k) (hk : (l.length : Int) ≤ k) :
    Calls Tryd.prog 3 #[.string text, .int .i64 k] w fun e w' => e = .returned (.bool true) ∧ Below w.heap.size w w' := by
  have hT := fun wx hv => tokens_ok (w := wx) hv ht
  have htl : text.size ≤ 16384 := by have := (tokens_ok_iff.1 ht).1; simp at this; omega
  have hll : l.length ≤ 16384 := by have := tokens_count ht; omega
  have HPL := Lib.hid (tokens_places ht)
  have HT0 := Lib.hid ht
  clear ht
  have HT := Lib.hid hT
  clear hT
  have hl0 : (0 : Int) < (l.length : Int) := by omega
  go_enter Tryd.func3, Tryd.ntmps3
  go_wp2_with fail
  refine (alive_any _ hv).mono ?_
  rintro e w1 ⟨rfl, hb1⟩
  have hv1 := hv.below hb1
  go_wp2_with fail
  refine (HT.out _ hv1).mono ?_
  rintro e w2 ⟨v, rfl, hr, hb2⟩
  have hv2 := hv1.below hb2
  obtain ⟨g, cap, rfl, hcap, hto⟩ := (RowOf.of hr).at_ (by omega)
  have HTO := Lib.hid hto
  have hbw : Below w.heap.size w w2 := below_step hb1 hb2 hb1.size
  clear hr hb1 hb2
  obtain ⟨t, htj⟩ : ∃ t, l[0]'hj = t := ⟨_, rfl⟩
  have hc := hto 0 hj
  clear hto
  rw [htj] at hc
  have hpl : t.at_ < text.size := by have := (HPL.out.2.1 0 hj).lt; rw [htj] at this; simpa using this
  have HTJ := Lib.hid htj
  clear htj
  have c0 : w2.cell? ⟨g, 0, none⟩ = some (.int .i64 t.kind) := hc.kind
  have c1 : w2.cell? ⟨g, 1, none⟩ = some (.string ⟨t.text.toArray⟩) := hc.text
  have c3 : w2.cell? ⟨g, 3, none⟩ = some (.int .i64 (t.at_ : Int)) := hc.at_
  have c4 : w2.cell? ⟨g, 4, none⟩ = some (.bool t.quoted) := hc.quoted
  clear hc
  by_cases hn : 0 + 1 < l.length
  · obtain ⟨u, hu⟩ : ∃ u, l[0 + 1]'hn = u := ⟨_, rfl⟩
    have n3 : w2.cell? ⟨g, 9, none⟩ = some (.int .i64 (u.at_ : Int)) := by have := (HTO.out (0 + 1) hn).at_; rw [hu] at this; exact this
    have hu1 : t.at_ ≤ u.at_ := by have := (HPL.out.2.2 0 hn).lt; rw [hu, HTJ.out] at this; omega
    have hu2 : u.at_ ≤ text.size := by have := (HPL.out.2.1 (0 + 1) hn).lt; rw [hu] at this; simp at this; omega
    have HU := Lib.hid hu
    clear hu
    have hn1 : ((0 : Int)) + 1 < (l.length : Int) := by omega
    go_wp2_with fail
    all_goals first
      | (go_ret; exact ⟨rfl, hbw⟩)
      | (have hd : ¬ dotName t.kind t.text t.quoted := by first | exact not_dot1 (by assumption) | exact not_dot2 (by assumption) | exact not_dot3 (by assumption)
         have hP := Lib.hid (part_tokens HT0.out hj HTJ.out hd (e := u.at_) (by rw [dif_pos hn]; exact congrArg Lx.Tok.at_ HU.out.symm))
         clear hd
         refine (tokens_ok hv2 hP.out).mono ?_
         rintro e w3 ⟨v, rfl, hr, hb3⟩
         have hs := SliceOf.row (RowOf.of hr)
         obtain ⟨g2, cap2, rfl, hcap2, d0, d1, d2, d3, d4, d5⟩ := RowOf.one (RowOf.of hr)
         have hlk := Lib.hid (fun ww (hw : Below w3.heap.size w3 ww) => like_yes (.slice (some ⟨g2, 0, none⟩) 1 cap2) (.slice (some ⟨g, 0, none⟩) 1 (cap - 0)) [⟨t.kind, t.text, t.num, 0, t.quoted, true⟩] [t] ww (hs.below hw) (SliceOf.below (one_slice HTO.out hj HTJ.out hcap) (below_then hb3 hw)) rfl (by simp))
         clear hr hs
         go_wp2_with fail
         refine (hlk.out _ (Below.refl _ _)).mono ?_
         rintro e w4 ⟨rfl, n, rfl⟩
         go_wp2
         go_ret
         exact ⟨rfl, below_drewN (below_step hbw hb3 hbw.size) _⟩)
  · have hn1 : ¬ ((0 : Int)) + 1 < (l.length : Int) := by omega
    have hpl1 : t.at_ ≤ text.size := by omega
    go_wp2_with fail
    all_goals first
      | (go_ret; exact ⟨rfl, hbw⟩)
      | (have hd : ¬ dotName t.kind t.text t.quoted := by first | exact not_dot1 (by assumption) | exact not_dot2 (by assumption) | exact not_dot3 (by assumption)
         have hP := Lib.hid (part_tokens HT0.out hj HTJ.out hd (e := text.size) (by rw [dif_neg hn]))
         clear hd
         refine (tokens_ok hv2 hP.out).mono ?_
         rintro e w3 ⟨v, rfl, hr, hb3⟩
         have hs := SliceOf.row (RowOf.of hr)
         obtain ⟨g2, cap2, rfl, hcap2, d0, d1, d2, d3, d4, d5⟩ := RowOf.one (RowOf.of hr)
         have hlk := Lib.hid (fun ww (hw : Below w3.heap.size w3 ww) => like_yes (.slice (some ⟨g2, 0, none⟩) 1 cap2) (.slice (some ⟨g, 0, none⟩) 1 (cap - 0)) [⟨t.kind, t.text, t.num, 0, t.quoted, true⟩] [t] ww (hs.below hw) (SliceOf.below (one_slice HTO.out hj HTJ.out hcap) (below_then hb3 hw)) rfl (by simp))
         clear hr hs
         go_wp2_with fail
         refine (hlk.out _ (Below.refl _ _)).mono ?_
         rintro e w4 ⟨rfl, n, rfl⟩
         go_wp2
         go_ret
         exact ⟨rfl, below_drewN (below_step hbw hb3 hbw.size) _⟩)

theorem alone_walk (text : ByteArray) (_ : text.size ≤ 140737488351232) (k : Int) (_ : (Lit.int .i64 k).wf = true) (w : World) (hv : Vars w) :
    Calls Tryd.prog 3 #[.string text, .int .i64 k] w fun e w' => e = .returned (.bool true) ∧ Below w.heap.size w w' := by
  cases ht : Lx.tokens text.data.toList with
  | err c a => exact alone_err text k w hv ht
  | ok l =>
    by_cases hl : 0 < l.length
    · by_cases h0 : k < 0
      · exact alone_neg text k w hv ht hl h0
      · by_cases h1 : (l.length : Int) ≤ k
        · exact alone_big text k w hv ht hl (by omega) h1
        · obtain ⟨j, rfl⟩ : ∃ j : Nat, k = j := ⟨k.toNat, by omega⟩
          exact alone_in text j w hv ht (by omega)
    · have : l = [] := List.eq_nil_of_length_eq_zero (by omega)
      subst this
      exact alone_nil text k w hv ht
end Go.Proofs.YtjcnhoagccdclaaDoor
