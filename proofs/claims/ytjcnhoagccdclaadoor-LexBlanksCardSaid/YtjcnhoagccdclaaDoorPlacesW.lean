/-
  LexPlaces: the walk.
-/
import Derived.Test.YtjcnhoagccdclaaDoorLexQ
import Derived.Test.YtjcnhoagccdclaaDoorPlacesL
namespace Go.Proofs.YtjcnhoagccdclaaDoor
open Go.RowKit
open Lx (Byte)

theorem at_of_get {s : ByteArray} {i : Nat} {c : Byte} {h : i < s.size} (e : s.data.toList[i]? = some c) : s[i] = c := by
  obtain ⟨h', e'⟩ := List.getElem?_eq_some_iff.1 e
  exact e'

theorem below_drewN {B : Nat} {a w : World} (h : Below B a w) (n : Nat) : Below B a (w.drewN n) := ⟨h.os, h.tape, h.output, h.size, h.block⟩
theorem toks_count {p : Nat} {first : Bool} {s : List Byte} {l : List Lx.Tok} (h : Toks p first s l) : l.length ≤ s.length := by
  induction h with
  | done => exact Nat.zero_le _
  | more h1 h2 h3 h4 h5 ih =>
    have := tok_len (skip_stands h1) h3
    simp only [List.length_drop, List.length_cons] at *
    omega
theorem tokens_count {s : List Byte} {l : List Lx.Tok} (h : Lx.tokens s = .ok l) : l.length ≤ s.length ∧ s.length ≤ 16384 := ⟨toks_count (tokens_ok_iff.1 h).2, (tokens_ok_iff.1 h).1⟩

theorem wp_letter {P : Program} {c : Code} {Q : Exit → Act → World → Prop} {a : Act} {w : World} {R : World → Prop} (hR : R w) (h : ∀ w3, R w3 → c.wp P Q a w3) : c.wp P Q a w := h w hR

set_option maxRecDepth 100000 in
set_option maxHeartbeats 4000000 in
theorem places_err (text : ByteArray) (w : World) (hv : Vars w) {c a : Nat} (ht : Lx.tokens text.data.toList = .err c a) :
    Calls Tryd.prog 5 #[.string text] w fun e w' => e = .returned (.bool true) ∧ Below w.heap.size w w' := by
  have hle : (a : Int) ≤ text.size := by have := tokens_fault ht; simp at this; omega
  have ha0 : (0 : Int) ≤ (a : Int) := by omega
  have hT := fun wx hv => tokens_err (w := wx) hv ht
  clear ht
  have HT := Lib.hid hT
  clear hT
  go_enter Tryd.func5, Tryd.ntmps5
  go_wp2_with fail
  refine (alive_any _ hv).mono ?_
  rintro e w1 ⟨rfl, hb1⟩
  have hv1 := hv.below hb1
  go_wp2_with fail
  refine (HT.out _ hv1).mono ?_
  rintro e w2 ⟨fv, rfl, hf, hb2⟩
  have hv2 := hv1.below hb2
  obtain ⟨N, rfl, hN⟩ := hf
  have hf : FaultAt w2 (.iface 51 (.pointer (some ⟨N, 0, none⟩))) c a := ⟨N, rfl, hN⟩
  go_wp2_with fail
  refine (at_fault _ c a _ hf hv2.err).mono ?_
  rintro e w3 ⟨rfl, hb3⟩
  go_wp2
  go_ret
  exact ⟨rfl, below_step (below_step hb1 hb2 hb1.size) hb3 (Nat.le_trans hb1.size hb2.size)⟩

set_option maxRecDepth 100000 in
set_option maxHeartbeats 4000000 in
theorem places_nil (text : ByteArray) (w : World) (hv : Vars w) (ht : Lx.tokens text.data.toList = .ok []) :
    Calls Tryd.prog 5 #[.string text] w fun e w' => e = .returned (.bool true) ∧ Below w.heap.size w w' := by
  have hT := fun wx hv => tokens_ok (w := wx) hv ht
  clear ht
  have HT := Lib.hid hT
  clear hT
  go_enter Tryd.func5, Tryd.ntmps5
  go_wp2_with fail
  refine (alive_any _ hv).mono ?_
  rintro e w1 ⟨rfl, hb1⟩
  have hv1 := hv.below hb1
  go_wp2_with fail
  refine (HT.out _ hv1).mono ?_
  rintro e w2 ⟨v, rfl, hr, hb2⟩
  rcases RowOf.of hr with ⟨_, rfl⟩ | ⟨g, cap, rfl, _, _⟩
  all_goals (
    clear hr
    go_wp2
    refine wp_loop_rounds 1 ?_
    rw [rounds_succ]
    go_wp2
    go_ret
    exact ⟨rfl, below_step hb1 hb2 hb1.size⟩)

set_option maxRecDepth 100000 in
set_option maxHeartbeats 40000000 in
theorem places_some (text : ByteArray) (w : World) (hv : Vars w) {l : List Lx.Tok} (ht : Lx.tokens text.data.toList = .ok l) (hl : 0 < l.length) :
    Calls Tryd.prog 5 #[.string text] w fun e w' => e = .returned (.bool true) ∧ Below w.heap.size w w' := by
  have HP := Lib.hid (tokens_places ht)
  have hT := fun wx hv => tokens_ok (w := wx) hv ht
  have htl : text.size ≤ 16384 := by have := (tokens_ok_iff.1 ht).1; simp at this; omega
  have hll : l.length ≤ 16384 := by have := tokens_count ht; omega
  clear ht
  have HT := Lib.hid hT
  clear hT
  go_enter Tryd.func5, Tryd.ntmps5
  go_wp2_with fail
  refine (alive_any _ hv).mono ?_
  rintro e w1 ⟨rfl, hb1⟩
  have hv1 := hv.below hb1
  go_wp2_with fail
  refine (HT.out _ hv1).mono ?_
  rintro e w2 ⟨v, rfl, hr, hb2⟩
  obtain ⟨g, cap, rfl, hcap, hto⟩ := (RowOf.of hr).at_ hl
  have HTO := Lib.hid hto
  have hbw : Below w.heap.size w w2 := below_step hb1 hb2 hb1.size
  clear hr hto hb1 hb2
  go_wp2
  go_loopw [35] (fun i wr => ∃ k : Nat, k ≤ l.length ∧ i = .int .i64 k ∧ Below w2.heap.size w2 wr) (fun i _ => l.length - (intOf i).toNat)
  case atStart => exact ⟨0, Nat.zero_le _, rfl, Below.refl _ _⟩
  case round =>
    obtain ⟨k, hk, rfl, hbr⟩ := hrel
    by_cases hlt : k < l.length
    · obtain ⟨t, ht⟩ : ∃ t, l[k] = t := ⟨_, rfl⟩
      have hto := (HTO.out k hlt).below hbr
      have hP := HP.out.2.1 k hlt
      rw [ht] at hto hP
      have HT2 := Lib.hid ht
      clear ht
      obtain ⟨c0, c1, c2, c3, c4, c5⟩ := hto
      have hg := World.block_lt_of_cell? _ _ c0
      simp only at hg
      go_wp2
      refine wp_letter (R := fun w4 => TAt w4 wr.heap.size (.int .i64 t.kind) (.string ⟨t.text.toArray⟩) (.int .i64 t.num) (.int .i64 (t.at_ : Int)) (.bool t.quoted) (.bool t.apart) ∧ Below w2.heap.size w2 w4) ⟨heap_alloc_new wr _, hbr.alloc hbr.size _⟩ ?_
      rintro w4 ⟨hT4, hb4⟩
      clear c0 c1 c2 c3 c4 c5
      obtain ⟨t0, t1, t2, t3, t4, t5⟩ := hT4.cells
      have hlt4 := lt_of_block hT4
      have hB0 : t.at_ < text.size := by have := hP.lt; simpa using this
      have hB : decide (text.size ≤ t.at_) = false := by simpa using hB0
      have hA : decide ((t.at_ : Int) < 0) = false := by simp
      by_cases hk0 : k = 0
      · have hC : decide (0 < k) = false := by simp [hk0]
        have hD : ((k : Int) == 0) = true := by simp [hk0]
        have hE : t.apart = true := by
          have := HT2.out
          subst hk0
          cases l with
          | nil => simp at hlt
          | cons x r => exact HP.out.1 t r (by rw [← this]; rfl)
        rw [hE] at t5
        have HK0 := Lib.hid (And.intro hk0 hE)
        clear hk0 hE
        go_quiet (fail)
        cases hq : t.quoted with
        | true =>
          obtain ⟨hQ1, hQ2⟩ := hP.quote hq
          have e39 : text[t.at_]'(by omega) = 39 := at_of_get hQ1
          have e39a : ((((text[t.at_]'(by omega)).toNat : Int)) == 39) = true := (byte_eq _ 39 (by omega)).2 e39
          have e39b : ((((text[t.at_]'(by omega)).toNat : Int)) != 39) = false := by rw [bne, e39a]; rfl
          rw [hq] at t4
          rw [hQ2] at t0
          have HQ := Lib.hid (And.intro hq (And.intro hQ1 (And.intro hQ2 e39)))
          clear hq hQ1 hQ2 e39
          go_wp2
          go_roundw
          case rel => exact ⟨k + 1, by omega, by go_num, below_drewN hb4 _⟩
          case measure => simp [intOf]; omega
        | false =>
          obtain ⟨hT1, hT2, hT3⟩ := hP.text hq
          simp only [Array.length_toList, ByteArray.size_data] at hT2
          have hF : ((t.text.length : Int) == 0) = false := by rw [beq_eq_false_iff_ne]; omega
          have hG : decide ((text.size : Int) - (t.at_ : Int) < (t.text.length : Int)) = false := by rw [decide_eq_false_iff_not]; omega
          have hH : text.extract t.at_ (t.at_ + t.text.length) = ⟨t.text.toArray⟩ := by rw [cut_val, hT3]
          rw [hq] at t4
          have HQ := Lib.hid (And.intro hq hT3)
          clear hq hT3
          go_wp2
          go_quiet (fail)
          go_wp2
          by_cases hn : k + 1 < l.length
          · obtain ⟨u, hu⟩ : ∃ u, l[k + 1] = u := ⟨_, rfl⟩
            have hto := ((HTO.out (k + 1) hn).below hb4)
            have hpair := HP.out.2.2 k hn
            rw [hu] at hto hpair
            rw [HT2.out] at hpair
            have HU := Lib.hid hu
            clear hu
            have u5 := hto.apart
            have u3 := hto.at_
            have hI : decide ((k : Int) + 1 < (l.length : Int)) = true := by rw [decide_eq_true_iff]; omega
            have hI' : decide (k + 1 < l.length) = true := by simpa using hn
            have hJ : (u.apart == ((u.at_ : Int) == (t.at_ : Int) + (t.text.length : Int))) = false := by
              obtain ⟨j1, j2⟩ := hpair.apart HQ.out.1
              rw [j1]
              by_cases hx : t.at_ + t.text.length < u.at_
              · rw [decide_eq_true hx, show ((u.at_ : Int) == (t.at_ : Int) + (t.text.length : Int)) = false from by rw [beq_eq_false_iff_ne]; omega]; rfl
              · rw [decide_eq_false hx, show ((u.at_ : Int) == (t.at_ : Int) + (t.text.length : Int)) = true from by rw [beq_iff_eq]; omega]; rfl
            clear hto hpair
            go_quiet (fail)
            go_wp2
            go_roundw
            case rel => exact ⟨k + 1, by omega, by go_num, below_drewN hb4 _⟩
            case measure => simp [intOf]; omega
          · have hI : decide ((k : Int) + 1 < (l.length : Int)) = false := by rw [decide_eq_false_iff_not]; omega
            have hI' : decide (k + 1 < l.length) = false := by simpa using hn
            go_quiet (fail)
            go_wp2
            go_roundw
            case rel => exact ⟨k + 1, by omega, by go_num, below_drewN hb4 _⟩
            case measure => simp [intOf]; omega
      · have hC : decide (0 < k) = true := by simp; omega
        have hD : ((k : Int) == 0) = false := by rw [beq_eq_false_iff_ne]; omega
        obtain ⟨x, hx⟩ : ∃ x, l[k - 1]'(by omega) = x := ⟨_, rfl⟩
        have hto := ((HTO.out (k - 1) (by omega)).below hb4)
        have hpair := HP.out.2.2 (k - 1) (by omega)
        rw [hx] at hto hpair
        have x3 := hto.at_
        have hK : decide (t.at_ ≤ x.at_) = false := by
          have := hpair.lt
          rw [show l[k - 1 + 1]'(by omega) = l[k] from by congr 1; omega, HT2.out] at this
          simpa using this
        have HX := Lib.hid hx
        clear hx hto hpair
        have HK0 := Lib.hid hk0
        go_quiet (fail)
        cases hq : t.quoted with
        | true =>
          obtain ⟨hQ1, hQ2⟩ := hP.quote hq
          have e39 : text[t.at_]'(by omega) = 39 := at_of_get hQ1
          have e39a : ((((text[t.at_]'(by omega)).toNat : Int)) == 39) = true := (byte_eq _ 39 (by omega)).2 e39
          have e39b : ((((text[t.at_]'(by omega)).toNat : Int)) != 39) = false := by rw [bne, e39a]; rfl
          rw [hq] at t4
          rw [hQ2] at t0
          have HQ := Lib.hid (And.intro hq (And.intro hQ1 (And.intro hQ2 e39)))
          clear hq hQ1 hQ2 e39
          go_wp2
          go_roundw
          case rel => exact ⟨k + 1, by omega, by go_num, below_drewN hb4 _⟩
          case measure => simp [intOf]; omega
        | false =>
          obtain ⟨hT1, hT2, hT3⟩ := hP.text hq
          simp only [Array.length_toList, ByteArray.size_data] at hT2
          have hF : ((t.text.length : Int) == 0) = false := by rw [beq_eq_false_iff_ne]; omega
          have hG : decide ((text.size : Int) - (t.at_ : Int) < (t.text.length : Int)) = false := by rw [decide_eq_false_iff_not]; omega
          have hH : text.extract t.at_ (t.at_ + t.text.length) = ⟨t.text.toArray⟩ := by rw [cut_val, hT3]
          rw [hq] at t4
          have HQ := Lib.hid (And.intro hq hT3)
          clear hq hT3
          go_wp2
          go_quiet (fail)
          go_wp2
          by_cases hn : k + 1 < l.length
          · obtain ⟨u, hu⟩ : ∃ u, l[k + 1] = u := ⟨_, rfl⟩
            have hto := ((HTO.out (k + 1) hn).below hb4)
            have hpair := HP.out.2.2 k hn
            rw [hu] at hto hpair
            rw [HT2.out] at hpair
            have HU := Lib.hid hu
            clear hu
            have u5 := hto.apart
            have u3 := hto.at_
            have hI : decide ((k : Int) + 1 < (l.length : Int)) = true := by rw [decide_eq_true_iff]; omega
            have hI' : decide (k + 1 < l.length) = true := by simpa using hn
            have hJ : (u.apart == ((u.at_ : Int) == (t.at_ : Int) + (t.text.length : Int))) = false := by
              obtain ⟨j1, j2⟩ := hpair.apart HQ.out.1
              rw [j1]
              by_cases hx : t.at_ + t.text.length < u.at_
              · rw [decide_eq_true hx, show ((u.at_ : Int) == (t.at_ : Int) + (t.text.length : Int)) = false from by rw [beq_eq_false_iff_ne]; omega]; rfl
              · rw [decide_eq_false hx, show ((u.at_ : Int) == (t.at_ : Int) + (t.text.length : Int)) = true from by rw [beq_iff_eq]; omega]; rfl
            clear hto hpair
            go_quiet (fail)
            go_wp2
            go_roundw
            case rel => exact ⟨k + 1, by omega, by go_num, below_drewN hb4 _⟩
            case measure => simp [intOf]; omega
          · have hI : decide ((k : Int) + 1 < (l.length : Int)) = false := by rw [decide_eq_false_iff_not]; omega
            have hI' : decide (k + 1 < l.length) = false := by simpa using hn
            go_quiet (fail)
            go_wp2
            go_roundw
            case rel => exact ⟨k + 1, by omega, by go_num, below_drewN hb4 _⟩
            case measure => simp [intOf]; omega
    · go_wp2
      go_ret
      exact ⟨rfl, below_step hbw hbr hbw.size⟩

theorem places_walk (text : ByteArray) (w : World) (hv : Vars w) :
    Calls Tryd.prog 5 #[.string text] w fun e w' => e = .returned (.bool true) ∧ Below w.heap.size w w' := by
  cases ht : Lx.tokens text.data.toList with
  | err c a => exact places_err text w hv ht
  | ok l =>
    by_cases hl : 0 < l.length
    · exact places_some text w hv ht hl
    · have : l = [] := List.eq_nil_of_length_eq_zero (by omega)
      subst this
      exact places_nil text w hv ht
end Go.Proofs.YtjcnhoagccdclaaDoor
