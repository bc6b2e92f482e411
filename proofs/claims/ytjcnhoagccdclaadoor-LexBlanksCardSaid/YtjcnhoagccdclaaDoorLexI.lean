/-
  The scan object of lex: the walk over a number.
-/
import Derived.Test.YtjcnhoagccdclaaDoorLexH
import Derived.StillTailTactics
import Derived.Deep.RegionWith
import Derived.Lib.AtoiErrMem
namespace Go.Proofs.YtjcnhoagccdclaaDoor
open Go.RowKit
open Lx (Byte)

theorem NumberPost.ok_of {b : Nat} {text : ByteArray} {p n : Nat} {i : Int} {v : Value} {w w' : World} (hn : Lx.number (text.data.toList.drop p) = .ok (i, n)) (h1 : ScanAt w' b text (p + n) v) (h2 : Chg (· = b) w w') :
    NumberPost b text p v w (.returned (.tuple #[.int .i64 i, .nilIface])) w' := by
  unfold NumberPost; rw [hn]; exact ⟨rfl, h1, h2⟩
theorem NumberPost.err_of {b : Nat} {text : ByteArray} {p c a : Nat} {v fv : Value} {w w' : World} (hn : Lx.number (text.data.toList.drop p) = .err c a) {q : Int} (h1 : FaultAt w' fv c q) (hq : q = (p + a : Nat)) (h2 : Chg (· = b) w w') {r : Nat} (h3 : ScanAt w' b text r v) (hr1 : p ≤ r) (hr2 : r ≤ text.size) :
    NumberPost b text p v w (.returned (.tuple #[.int .i64 0, fv])) w' := by
  unfold NumberPost; rw [hn]; exact ⟨fv, rfl, hq ▸ h1, h2, r, hr1, hr2, h3⟩

/-- strconv.ParseInt of digits. -/
theorem parse_ok (s : ByteArray) (hs : s.size ≤ 20000) (n : Int) (h : Lib.parseIntB 64 s.data.toList = .ok n) (w : World) :
    Calls Tryd.prog 42 #[.string s, .int .i64 10, .int .i64 64] w fun e w' => e = .returned (.tuple #[.int .i64 n, .nilIface]) ∧ Below w.heap.size w w' := by
  refine (Tryd.strconv_ParseInt_10_at64_ok s (by omega) n h w).mono ?_
  rintro e w' ⟨he, hw⟩
  refine ⟨he, ?_⟩
  rcases hw with rfl | ⟨t, rfl⟩
  · exact Below.refl _ _
  · exact Lib.bytesWorld_below _ _ _
theorem parse_range (s : ByteArray) (hs : s.size ≤ 20000) (h : Lib.parseIntB 64 s.data.toList = .range) (b : Addr) (w : World) (hr : w.cell? ⟨1, 0, none⟩ = some (.iface 124 (.pointer (some b)))) :
    Calls Tryd.prog 42 #[.string s, .int .i64 10, .int .i64 64] w fun e w' => ∃ (n : Int) (N : Nat), e = .returned (.tuple #[.int .i64 n, .iface 111 (.pointer (some ⟨N, 0, none⟩))]) ∧ w'.cell? ⟨N, 2, none⟩ = some (.iface 124 (.pointer (some b))) ∧ Below w.heap.size w w' := by
  refine (Tryd.strconv_ParseInt_10_at64_range s (by omega) h _ w hr (.inr ⟨_, _, rfl⟩)).mono ?_
  rintro e w' ⟨N, he, _, hN, hb⟩
  exact ⟨_, N, he, by rw [cell_block hN 2]; rfl, hb⟩

theorem ErrRangeAt.chg {w w' : World} {b : Nat} (h : ErrRangeAt w) (hc : Chg (· = b) w w') (hb : b ≠ 1) : ErrRangeAt w' := by
  obtain ⟨er, hr⟩ := h
  exact ⟨er, hc.cell hr (fun x => hb x.symm)⟩

set_option maxRecDepth 100000 in
set_option maxHeartbeats 4000000 in
theorem number_any (b : Nat) (text : ByteArray) (p : Nat) (v : Value) (w : World) (h : ScanAt w b text p v) (hp : p < text.size) (hs : text.size ≤ 20000) (hd : Lx.digit text[p] = true)
    (hr : ErrRangeAt w) (hb : b ≠ 1) :
    Calls Tryd.prog 32 #[.pointer (some ⟨b, 0, none⟩)] w (NumberPost b text p v w) := by
  obtain ⟨c0, c1, c2, f0, f1, f2⟩ := h.cells
  have hP0 := fun wx h => peek0 b text p v wx h hp hs
  obtain ⟨d, hd'⟩ : ∃ d, (text.data.toList.drop p).getD 1 0 = d := ⟨_, rfl⟩
  have hP1 := fun wx h => peek1 b text p v wx h (by omega) hs d hd'
  have Hd := Lib.hid hd'
  clear hd'
  have HD := Lib.hid hd
  clear hd
  by_cases hcode : text[p] = 48 ∧ d = 39
  · have e48 : (((text[p].toNat : Int)) == 48) = true := (byte_eq _ 48 (by omega)).2 hcode.1
    have e39 : (((d.toNat : Int)) == 39) = true := (byte_eq _ 39 (by omega)).2 hcode.2
    have hnum := number_code text p hp hcode.1 (Hd.out.trans hcode.2)
    have hp2 : p + 2 ≤ text.size := by
      by_cases h2 : p + 1 < text.size
      · omega
      · have h3 := Hd.out
        rw [hcode.2, List.getD_eq_getElem?_getD, List.getElem?_eq_none (by simp; omega)] at h3
        exact absurd h3 (by decide)
    have hC := fun wx h => code_any b text p v wx h hp2 hs
    clear hcode hr
    unfold CodePost at hC
    rw [← hnum] at hC
    cases hN : Lx.number (text.data.toList.drop p) with
    | ok x =>
      rw [hN] at hC
      have HN := Lib.hid hN
      clear hN hnum
      go_enter Tryd.func32, Tryd.ntmps32
      go_wp2_with (first | (go_at_call_has 23 (Value.int .i64 0); refine (hP0 _ (by exact h)).mono ?_; rintro e w' ⟨rfl, n2, rfl⟩) | (go_at_call_has 23 (Value.int .i64 1); refine (hP1 _ (by exact h)).mono ?_; rintro e w' ⟨rfl, n3, rfl⟩) | (go_at_call 41; refine (hC _ (by exact h)).mono ?_; rintro e w1 ⟨rfl, hsc1, hch1⟩))
      all_goals go_ret2
      unfold NumberPost
      rw [HN.out]
      exact ⟨rfl, hsc1, ((Chg.refl (· = b) w).drewN _).trans hch1⟩
    | err c a =>
      rw [hN] at hC
      have HN := Lib.hid hN
      clear hN hnum
      go_enter Tryd.func32, Tryd.ntmps32
      go_wp2_with (first | (go_at_call_has 23 (Value.int .i64 0); refine (hP0 _ (by exact h)).mono ?_; rintro e w' ⟨rfl, n2, rfl⟩) | (go_at_call_has 23 (Value.int .i64 1); refine (hP1 _ (by exact h)).mono ?_; rintro e w' ⟨rfl, n3, rfl⟩) | (go_at_call 41; refine (hC _ (by exact h)).mono ?_; rintro e w1 ⟨fv, rfl, hf1, hch1, hsc1⟩))
      all_goals go_ret2
      unfold NumberPost
      rw [HN.out]
      exact ⟨fv, rfl, hf1, ((Chg.refl (· = b) w).drewN _).trans hch1, p + 2, by omega, hp2, hsc1⟩
  · have Hcode := Lib.hid hcode
    have hle : Lx.run Lx.digit (text.data.toList.drop p) ≤ text.size - p := by
      have := Lx.run_le Lx.digit (text.data.toList.drop p); simpa using this
    have hpos : 0 < Lx.run Lx.digit (text.data.toList.drop p) := by
      rw [run_drop_yes text p hp HD.out]; omega
    have hnum := number_plain text p hp (by rw [Hd.out]; exact hcode)
    have hpd := parse_digits ((text.data.toList.drop p).take (Lx.run Lx.digit (text.data.toList.drop p))) (by
      intro h0
      have := congrArg List.length h0
      simp at this
      omega) (run_all _ _)
    rw [← extract_part] at hnum hpd
    have hW := fun wx h => while_any Lx.digit 31 enters_digit digit_any b text p v wx h (by omega) hs
    generalize hn : Lx.run Lx.digit (text.data.toList.drop p) = n at *
    have Hn := Lib.hid hn
    clear hn
    have hx0 : (0 : Int) ≤ p := by omega
    have hx1 : (p : Int) ≤ (p : Int) + n := by omega
    have hx2 : (p : Int) + n ≤ text.size := by omega
    have hx3 : ((p : Int) + n).toNat = p + n := by omega
    by_cases h48 : text[p] = 48
    · have e48 : (((text[p].toNat : Int)) == 48) = true := (byte_eq _ 48 (by omega)).2 h48
      have e39 : (((d.toNat : Int)) == 39) = false := byte_ne _ 39 (by omega) (fun x => hcode ⟨h48, x⟩)
      clear h48 hcode
      by_cases hv : Lx.worth 0 (text.extract p (p + n)).data.toList ≤ 9223372036854775807
      · have hok := parse_ok (text.extract p (p + n)) (by simp; omega) _ (hpd.1 hv)
        rw [if_pos hv] at hnum
        have hrr := fun wx hc => ErrRangeAt.chg (w' := wx) hr hc hb
        have Hrr := Lib.hid hrr
        clear hrr
        have Hnum := Lib.hid hnum
        clear hnum hpd hr hv
        go_enter Tryd.func32, Tryd.ntmps32
        go_wp2_with (first | (go_at_call_has 23 (Value.int .i64 0); refine (hP0 _ (by exact h)).mono ?_; rintro e w' ⟨rfl, n2, rfl⟩) | (go_at_call_has 23 (Value.int .i64 1); refine (hP1 _ (by exact h)).mono ?_; rintro e w' ⟨rfl, n3, rfl⟩) | (go_at_call 25; refine (hW _ (by exact h)).mono ?_; rintro e w1 ⟨rfl, hsc1, hch1⟩; obtain ⟨d0, d1, d2, g0, g1, g2⟩ := hsc1.cells))
        go_region_with (go_at_call 42; refine (hok _).mono ?_; rintro e w2 ⟨rfl, hbl2⟩)
        all_goals (have hch2 := (((Chg.refl (· = b) w).drewN _).trans hch1).drew.trans (Chg.of_below hbl2); obtain ⟨er, hr2⟩ := Hrr.out _ hch2)
        all_goals go_wp2_with (go_at_call 43; refine (is_nil _ _).mono ?_; rintro e w3 ⟨rfl, rfl⟩)
        all_goals go_ret2
        all_goals exact NumberPost.ok_of (by rw [← extract_part]; exact Hnum.out) (ScanAt.below (w := w1.drew) hsc1 hbl2) hch2
      · have Hok := Lib.hid (hpd.2 hv)
        rw [if_neg hv] at hnum
        have hrr := fun wx hc => ErrRangeAt.chg (w' := wx) hr hc hb
        have Hrr := Lib.hid hrr
        clear hrr
        have Hnum := Lib.hid hnum
        clear hnum hpd hr hv
        go_enter Tryd.func32, Tryd.ntmps32
        go_wp2_with (first | (go_at_call_has 23 (Value.int .i64 0); refine (hP0 _ (by exact h)).mono ?_; rintro e w' ⟨rfl, n2, rfl⟩) | (go_at_call_has 23 (Value.int .i64 1); refine (hP1 _ (by exact h)).mono ?_; rintro e w' ⟨rfl, n3, rfl⟩) | (go_at_call 25; refine (hW _ (by exact h)).mono ?_; rintro e w1 ⟨rfl, hsc1, hch1⟩; obtain ⟨d0, d1, d2, g0, g1, g2⟩ := hsc1.cells))
        obtain ⟨er, hr1⟩ := Hrr.out _ (((Chg.refl (· = b) w).drewN _).trans hch1)
        have hok := fun wx h => parse_range (text.extract p (p + n)) (by simp; omega) Hok.out er wx h
        go_region_with (go_at_call 42; refine (hok _ (by exact hr1)).mono ?_; rintro e w2 ⟨N, pb, rfl, hpb, hbl2⟩)
        all_goals (have hch2 := (((Chg.refl (· = b) w).drewN _).trans hch1).drew.trans (Chg.of_below hbl2); have hr2 : w2.cell? ⟨1, 0, none⟩ = some (.iface 124 (.pointer (some er))) := (hbl2.cell (p := ⟨1, 0, none⟩) (by have := World.block_lt_of_cell? _ _ hr1; simpa using this)).trans hr1)
        all_goals go_wp2_with (first | (go_at_call 43; refine (is_num _ _ _ (by exact hpb)).mono ?_; rintro e w3 ⟨rfl, rfl⟩) | (go_at_call 17; refine (new_any 83 _ (by decide) _).mono ?_; rintro e w' ⟨fv, rfl, hf, hbl3⟩))
        all_goals go_ret2
        all_goals exact NumberPost.err_of Hnum.out hf (by omega) (hch2.trans (Chg.of_below hbl3)) (ScanAt.below (ScanAt.below (w := w1.drew) hsc1 hbl2) hbl3) (by omega) (by omega)
    · have e48 : (((text[p].toNat : Int)) == 48) = false := byte_ne _ 48 (by omega) h48
      clear h48 hcode
      by_cases hv : Lx.worth 0 (text.extract p (p + n)).data.toList ≤ 9223372036854775807
      · have hok := parse_ok (text.extract p (p + n)) (by simp; omega) _ (hpd.1 hv)
        rw [if_pos hv] at hnum
        have hrr := fun wx hc => ErrRangeAt.chg (w' := wx) hr hc hb
        have Hrr := Lib.hid hrr
        clear hrr
        have Hnum := Lib.hid hnum
        clear hnum hpd hr hv
        go_enter Tryd.func32, Tryd.ntmps32
        go_wp2_with (first | (go_at_call_has 23 (Value.int .i64 0); refine (hP0 _ (by exact h)).mono ?_; rintro e w' ⟨rfl, n2, rfl⟩) | (go_at_call_has 23 (Value.int .i64 1); refine (hP1 _ (by exact h)).mono ?_; rintro e w' ⟨rfl, n3, rfl⟩) | (go_at_call 25; refine (hW _ (by exact h)).mono ?_; rintro e w1 ⟨rfl, hsc1, hch1⟩; obtain ⟨d0, d1, d2, g0, g1, g2⟩ := hsc1.cells))
        go_region_with (go_at_call 42; refine (hok _).mono ?_; rintro e w2 ⟨rfl, hbl2⟩)
        all_goals (have hch2 := (((Chg.refl (· = b) w).drewN _).trans hch1).drew.trans (Chg.of_below hbl2); obtain ⟨er, hr2⟩ := Hrr.out _ hch2)
        all_goals go_wp2_with (go_at_call 43; refine (is_nil _ _).mono ?_; rintro e w3 ⟨rfl, rfl⟩)
        all_goals go_ret2
        all_goals exact NumberPost.ok_of (by rw [← extract_part]; exact Hnum.out) (ScanAt.below (w := w1.drew) hsc1 hbl2) hch2
      · have Hok := Lib.hid (hpd.2 hv)
        rw [if_neg hv] at hnum
        have hrr := fun wx hc => ErrRangeAt.chg (w' := wx) hr hc hb
        have Hrr := Lib.hid hrr
        clear hrr
        have Hnum := Lib.hid hnum
        clear hnum hpd hr hv
        go_enter Tryd.func32, Tryd.ntmps32
        go_wp2_with (first | (go_at_call_has 23 (Value.int .i64 0); refine (hP0 _ (by exact h)).mono ?_; rintro e w' ⟨rfl, n2, rfl⟩) | (go_at_call_has 23 (Value.int .i64 1); refine (hP1 _ (by exact h)).mono ?_; rintro e w' ⟨rfl, n3, rfl⟩) | (go_at_call 25; refine (hW _ (by exact h)).mono ?_; rintro e w1 ⟨rfl, hsc1, hch1⟩; obtain ⟨d0, d1, d2, g0, g1, g2⟩ := hsc1.cells))
        obtain ⟨er, hr1⟩ := Hrr.out _ (((Chg.refl (· = b) w).drewN _).trans hch1)
        have hok := fun wx h => parse_range (text.extract p (p + n)) (by simp; omega) Hok.out er wx h
        go_region_with (go_at_call 42; refine (hok _ (by exact hr1)).mono ?_; rintro e w2 ⟨N, pb, rfl, hpb, hbl2⟩)
        all_goals (have hch2 := (((Chg.refl (· = b) w).drewN _).trans hch1).drew.trans (Chg.of_below hbl2); have hr2 : w2.cell? ⟨1, 0, none⟩ = some (.iface 124 (.pointer (some er))) := (hbl2.cell (p := ⟨1, 0, none⟩) (by have := World.block_lt_of_cell? _ _ hr1; simpa using this)).trans hr1)
        all_goals go_wp2_with (first | (go_at_call 43; refine (is_num _ _ _ (by exact hpb)).mono ?_; rintro e w3 ⟨rfl, rfl⟩) | (go_at_call 17; refine (new_any 83 _ (by decide) _).mono ?_; rintro e w' ⟨fv, rfl, hf, hbl3⟩))
        all_goals go_ret2
        all_goals exact NumberPost.err_of Hnum.out hf (by omega) (hch2.trans (Chg.of_below hbl3)) (ScanAt.below (ScanAt.below (w := w1.drew) hsc1 hbl2) hbl3) (by omega) (by omega)
end Go.Proofs.YtjcnhoagccdclaaDoor
