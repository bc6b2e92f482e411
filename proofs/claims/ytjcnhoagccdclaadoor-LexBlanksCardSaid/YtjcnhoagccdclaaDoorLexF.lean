/-
  The scan object of lex: the walk over a name in quotes.
-/
import Derived.Test.YtjcnhoagccdclaaDoorLexE
namespace Go.Proofs.YtjcnhoagccdclaaDoor
open Go.RowKit
open Lx (Byte)

/-- What quoted answers: the name, or a fault. -/
def QuotedPost (b : Nat) (text : ByteArray) (p : Nat) (v : Value) (w : World) (e : Ending) (w' : World) : Prop :=
  match Lx.quoted 1 (text.data.toList.drop (p + 1)) with
  | .ok x => e = .returned (.tuple #[.string ⟨x.1.toArray⟩, .nilIface]) ∧ ScanAt w' b text (p + x.2) v ∧ Chg (· = b) w w'
  | .err c a => ∃ fv, e = .returned (.tuple #[.string ⟨#[]⟩, fv]) ∧ FaultAt w' fv c (p + a : Nat) ∧ Chg (· = b) w w'

theorem QuotedPost.ok_of {b : Nat} {text : ByteArray} {p n : Nat} {l : List Byte} {v : Value} {w w' : World} (hn : Lx.quoted 1 (text.data.toList.drop (p + 1)) = .ok (l, n)) (h1 : ScanAt w' b text (p + n) v) (h2 : Chg (· = b) w w') :
    QuotedPost b text p v w (.returned (.tuple #[.string ⟨l.toArray⟩, .nilIface])) w' := by
  unfold QuotedPost; rw [hn]; exact ⟨rfl, h1, h2⟩
theorem QuotedPost.err_of {b : Nat} {text : ByteArray} {p c a : Nat} {v fv : Value} {w w' : World} (hn : Lx.quoted 1 (text.data.toList.drop (p + 1)) = .err c a) {q : Int} (h1 : FaultAt w' fv c q) (hq : q = (p + a : Nat)) (h2 : Chg (· = b) w w') :
    QuotedPost b text p v w (.returned (.tuple #[.string ⟨#[]⟩, fv])) w' := by
  unfold QuotedPost; rw [hn]; exact ⟨fv, rfl, hq ▸ h1, h2⟩

theorem u8_ge (a : Byte) : decide ((32 : Byte) ≤ a) = decide ((32 : Int) ≤ (a.toNat : Int)) := by rw [u8_le]; rfl
theorem u8_le126 (a : Byte) : decide (a ≤ (126 : Byte)) = decide ((a.toNat : Int) ≤ (126 : Int)) := by rw [u8_le]; rfl

set_option maxRecDepth 100000 in
set_option maxHeartbeats 1000000 in
theorem quoted_any (b : Nat) (text : ByteArray) (p : Nat) (v : Value) (w : World) (h : ScanAt w b text p v) (hp : p < text.size) (hs : text.size ≤ 20000) :
    Calls Tryd.prog 33 #[.pointer (some ⟨b, 0, none⟩)] w (QuotedPost b text p v w) := by
  obtain ⟨c0, c1, c2, f0, f1, f2⟩ := h.cells
  have hbw := lt_of_block h
  go_enter Tryd.func33, Tryd.ntmps33
  go_wp2
  clear c0 c1 c2 f0 f1 f2
  go_loopw [] (fun wr => ∃ q l, QuoteAt text p q l ∧ ScanAt wr b text q v ∧ Lib.IsBuilderF 80 5 w.heap.size w.heap.size (Lib.byteCells l) wr ∧ Chg (· = b) w wr) (fun wr => text.size - placeOf wr b)
  case atStart =>
    refine ⟨p + 1, [], QuoteAt.start text p hp, ?_, ?_, ?_⟩
    · exact ((Chg.refl (fun k => k = b + 1) _).alloc _).keeps (h.put (p + 1)) (by omega)
    · have h1 := Lib.fresh_isBuilder 80 5 (w.setCell ⟨b, 1, none⟩ (.int .i64 ((p : Int) + 1)))
      rw [show (w.setCell ⟨b, 1, none⟩ (.int .i64 ((p : Int) + 1))).heap.size = w.heap.size from by simp] at h1
      exact Lib.IsBuilderF.of h1
    · exact ((Chg.refl (· = b) w).put 1 _).alloc _
  case round =>
    obtain ⟨q, l, hq, hsc, hbld, hch⟩ := hrel
    have hqs := hq.2.2.1
    have hpq := hq.2.1
    have hll := hq.1
    have Hq := Lib.hid hq
    clear hq
    obtain ⟨c0, c1, c2, f0, f1, f2⟩ := hsc.cells
    have hsz := hch.size
    by_cases hlt : q < text.size
    · have hend : decide (text.size ≤ q) = false := by simpa using hlt
      have hE := ended_any b text q v
      rw [hend] at hE
      have hP0 := fun wx h => peek0 b text q v wx h hlt hs
      obtain ⟨d, hd⟩ : ∃ d, (text.data.toList.drop q).getD 1 0 = d := ⟨_, rfl⟩
      have hP1 := fun wx h => peek1 b text q v wx h (by omega) hs d hd
      have Hd := Lib.hid hd
      clear hd
      by_cases h39 : text[q] = 39
      · have e39 : (((text[q].toNat : Int)) == 39) = true := (byte_eq _ 39 (by omega)).2 h39
        have H39 := Lib.hid h39
        clear h39
        by_cases d39 : d = 39
        · have e2 : (((d.toNat : Int)) == 39) = true := (byte_eq _ 39 (by omega)).2 d39
          have e3 : (((d.toNat : Int)) != 39) = false := by rw [bne, e2]; rfl
          have D39 := Lib.hid d39
          clear d39
          have hq2 := (getD_is text q 39 (by decide) (Hd.out.trans D39.out)).1
          go_wp2_with (first | (go_at_call 19; refine (hE _ (by exact hsc)).mono ?_; rintro e w' ⟨rfl, n1, rfl⟩) | (go_at_call_has 23 (Value.int .i64 0); refine (hP0 _ (by exact hsc)).mono ?_; rintro e w' ⟨rfl, n2, rfl⟩) | (go_at_call_has 23 (Value.int .i64 1); refine (hP1 _ (by exact hsc)).mono ?_; rintro e w' ⟨rfl, n3, rfl⟩) | (go_at_call 45; refine (wb_any w.heap.size w.heap.size l text[q] _ (by exact builder_chg hbld (((Chg.refl _ _).drewN _).put 1 _) hbw) (by omega) (by simp; omega)).mono ?_; rintro e w1 ⟨rfl, hbu, hb1⟩; have hsc1 : ScanAt w1 b text (q + 1) v := (hb1.block b hbw).trans (by exact (hsc.drewN _).put (q + 1)); obtain ⟨d0, d1, d2, g0, g1, g2⟩ := hsc1.cells))
          go_roundw
          case rel =>
            refine ⟨q + 2, l ++ [text[q]], Hq.out.step 2 text[q] (by omega) (by omega) ?_, ?_, builder_chg hbu ((Chg.refl _ _).put 1 _) hbw, ?_⟩
            · rw [quoted_dbl text q _ hlt H39.out (Hd.out.trans D39.out), H39.out]
            · exact hsc1.put (q + 2)
            · exact (((hch.drewN _).put 1 _).then hb1).put 1 _
          case measure => rw [placeOf_of hsc, placeOf_put hsc1 (q + 2) _ (by omega)]; omega
        · have e2 : (((d.toNat : Int)) == 39) = false := byte_ne _ 39 (by omega) d39
          have e3 : (((d.toNat : Int)) != 39) = true := by rw [bne, e2]; rfl
          have D39 := Lib.hid d39
          clear d39
          go_wp2_with (first | (go_at_call 19; refine (hE _ (by exact hsc)).mono ?_; rintro e w' ⟨rfl, n1, rfl⟩) | (go_at_call_has 23 (Value.int .i64 0); refine (hP0 _ (by exact hsc)).mono ?_; rintro e w' ⟨rfl, n2, rfl⟩) | (go_at_call_has 23 (Value.int .i64 1); refine (hP1 _ (by exact hsc)).mono ?_; rintro e w' ⟨rfl, n3, rfl⟩) | (go_at_call 44; refine (Tryd.Builder_String_any_k w.heap.size w.heap.size l _ (by exact builder_chg hbld (((Chg.refl _ _).drewN _).put 1 _) hbw) (by simp; omega)).mono ?_; rintro e w1 ⟨rfl, hbu, hb1, _⟩))
          all_goals go_ret2
          refine QuotedPost.ok_of (n := q - p + 1) (by rw [Hq.out.fin (quoted_close text q _ hlt H39.out (fun x => D39.out (Hd.out.symm.trans x)))]; simp [Lx.Res.map]) ?_ (((hch.drewN _).put 1 _).then hb1)
          rw [show p + (q - p + 1) = q + 1 from by omega]
          exact (hb1.block b hbw).trans ((hsc.drewN _).put (q + 1))
      · have e39 : (((text[q].toNat : Int)) == 39) = false := byte_ne _ 39 (by omega) h39
        have H39 := Lib.hid h39
        clear h39
        by_cases h92 : text[q] = 92
        · have e92 : (((text[q].toNat : Int)) == 92) = true := (byte_eq _ 92 (by omega)).2 h92
          have e92' : (((text[q].toNat : Int)) != 92) = false := by rw [bne, e92]; rfl
          have H92 := Lib.hid h92
          have e4 : decide ((32 : Int) ≤ (text[q].toNat : Int)) = true := by rw [← u8_ge, h92]; decide
          have e5 : decide ((text[q].toNat : Int) ≤ (126 : Int)) = true := by rw [← u8_le126, h92]; decide
          clear h92
          by_cases hq1 : q + 1 < text.size
          · cases hx : Lx.esc text[q + 1] with
            | none =>
              have hES := fun wx h => escape_no b text q v p wx h hs hq1 hx
              have HX := Lib.hid hx
              clear hx
              go_wp2_with (first | (go_at_call 19; refine (hE _ (by exact hsc)).mono ?_; rintro e w' ⟨rfl, n1, rfl⟩) | (go_at_call_has 23 (Value.int .i64 0); refine (hP0 _ (by exact hsc)).mono ?_; rintro e w' ⟨rfl, n2, rfl⟩) | (go_at_call_has 23 (Value.int .i64 1); refine (hP1 _ (by exact hsc)).mono ?_; rintro e w' ⟨rfl, n3, rfl⟩) | (go_at_call 46; refine (hES _ (by exact hsc)).mono ?_; rintro e w1 ⟨fv, rfl, hf, hsc1, hc1⟩; obtain ⟨N, hfv, hfN⟩ := hf; subst hfv))
              all_goals go_ret2
              exact QuotedPost.err_of (c := 82) (a := q - p) (by rw [Hq.out.fin (quoted_esc text q _ hlt H92.out hq1), HX.out]; simp [Lx.Res.map]) ⟨N, rfl, hfN⟩ (by omega) ((hch.drewN _).trans hc1)
            | some x =>
              have hES := fun wx h => escape_yes b text q v p wx h hs hq1 x hx
              have HX := Lib.hid hx
              clear hx
              go_wp2_with (first | (go_at_call 19; refine (hE _ (by exact hsc)).mono ?_; rintro e w' ⟨rfl, n1, rfl⟩) | (go_at_call_has 23 (Value.int .i64 0); refine (hP0 _ (by exact hsc)).mono ?_; rintro e w' ⟨rfl, n2, rfl⟩) | (go_at_call_has 23 (Value.int .i64 1); refine (hP1 _ (by exact hsc)).mono ?_; rintro e w' ⟨rfl, n3, rfl⟩) | (go_at_call 46; refine (hES _ (by exact hsc)).mono ?_; rintro e w2 ⟨rfl, hsc2, hc2⟩) | (go_at_call 45; refine (wb_any w.heap.size w.heap.size l x _ (by exact (builder_chg (builder_chg hbld ((Chg.refl _ _).drewN _) hbw) hc2 hbw)) (by omega) (by have h9 := hc2.size; simp at h9; omega)).mono ?_; rintro e w1 ⟨rfl, hbu, hb1⟩; have hsc1 : ScanAt w1 b text (q + 2) v := (hb1.block b hbw).trans (by exact hsc2); obtain ⟨d0, d1, d2, g0, g1, g2⟩ := hsc1.cells))
              go_roundw
              case rel =>
                refine ⟨q + 2, l ++ [x], Hq.out.step 2 x (by omega) (by omega) ?_, hsc1, hbu, ((hch.drewN _).trans hc2).then hb1⟩
                rw [quoted_esc text q _ hlt H92.out hq1, HX.out]
              case measure => rw [placeOf_of hsc, placeOf_of hsc1]; omega
          · have hES := fun wx h => escape_end b text q v p wx h hs (by omega)
            go_wp2_with (first | (go_at_call 19; refine (hE _ (by exact hsc)).mono ?_; rintro e w' ⟨rfl, n1, rfl⟩) | (go_at_call_has 23 (Value.int .i64 0); refine (hP0 _ (by exact hsc)).mono ?_; rintro e w' ⟨rfl, n2, rfl⟩) | (go_at_call_has 23 (Value.int .i64 1); refine (hP1 _ (by exact hsc)).mono ?_; rintro e w' ⟨rfl, n3, rfl⟩) | (go_at_call 46; refine (hES _ (by exact hsc)).mono ?_; rintro e w1 ⟨fv, rfl, hf, hsc1, hc1⟩; obtain ⟨N, hfv, hfN⟩ := hf; subst hfv))
            all_goals go_ret2
            exact QuotedPost.err_of (c := 81) (a := 0) (by rw [Hq.out.fin (quoted_escend text q _ (by omega) H92.out)]; simp [Lx.Res.map]) ⟨N, rfl, hfN⟩ (by omega) ((hch.drewN _).trans hc1)
        · have e92 : (((text[q].toNat : Int)) == 92) = false := byte_ne _ 92 (by omega) h92
          have e92' : (((text[q].toNat : Int)) != 92) = true := by rw [bne, e92]; rfl
          have H92 := Lib.hid h92
          clear h92
          by_cases hr : 32 ≤ text[q] ∧ text[q] ≤ 126
          · have e4 : decide ((32 : Int) ≤ (text[q].toNat : Int)) = true := by rw [← u8_ge]; simpa using hr.1
            have e5 : decide ((text[q].toNat : Int) ≤ (126 : Int)) = true := by rw [← u8_le126]; simpa using hr.2
            have HR := Lib.hid hr
            clear hr
            go_wp2_with (first | (go_at_call 19; refine (hE _ (by exact hsc)).mono ?_; rintro e w' ⟨rfl, n1, rfl⟩) | (go_at_call_has 23 (Value.int .i64 0); refine (hP0 _ (by exact hsc)).mono ?_; rintro e w' ⟨rfl, n2, rfl⟩) | (go_at_call_has 23 (Value.int .i64 1); refine (hP1 _ (by exact hsc)).mono ?_; rintro e w' ⟨rfl, n3, rfl⟩) | (go_at_call 45; refine (wb_any w.heap.size w.heap.size l text[q] _ (by exact (builder_chg hbld ((Chg.refl _ _).drewN _) hbw)) (by omega) (by simp; omega)).mono ?_; rintro e w1 ⟨rfl, hbu, hb1⟩; have hsc1 : ScanAt w1 b text q v := (hb1.block b hbw).trans (by exact hsc); obtain ⟨d0, d1, d2, g0, g1, g2⟩ := hsc1.cells))
            go_roundw
            case rel =>
              refine ⟨q + 1, l ++ [text[q]], Hq.out.step 1 text[q] (by omega) (by omega) ?_, ?_, builder_chg hbu ((Chg.refl _ _).put 1 _) hbw, ((hch.drewN _).then hb1).put 1 _⟩
              · rw [quoted_plain text q _ hlt H39.out H92.out HR.out]
              · exact hsc1.put (q + 1)
            case measure => rw [placeOf_of hsc, placeOf_put hsc1 (q + 1) _ (by omega)]; omega
          · have HR := Lib.hid hr
            by_cases hr1 : 32 ≤ text[q]
            · have e4 : decide ((32 : Int) ≤ (text[q].toNat : Int)) = true := by rw [← u8_ge]; simpa using hr1
              have e5 : decide ((text[q].toNat : Int) ≤ (126 : Int)) = false := by rw [← u8_le126]; simpa using fun x => hr ⟨hr1, x⟩
              clear hr hr1
              go_wp2_with (first | (go_at_call 19; refine (hE _ (by exact hsc)).mono ?_; rintro e w' ⟨rfl, n1, rfl⟩) | (go_at_call_has 23 (Value.int .i64 0); refine (hP0 _ (by exact hsc)).mono ?_; rintro e w' ⟨rfl, n2, rfl⟩) | (go_at_call_has 23 (Value.int .i64 1); refine (hP1 _ (by exact hsc)).mono ?_; rintro e w' ⟨rfl, n3, rfl⟩) | (go_at_call 17; refine (new_any 80 _ (by decide) _).mono ?_; rintro e w' ⟨fv, rfl, hf, hb⟩))
              all_goals go_ret2
              exact QuotedPost.err_of (c := 80) (a := q - p) (by rw [Hq.out.fin (quoted_bad text q _ hlt H39.out H92.out HR.out)]; simp [Lx.Res.map]) hf (by omega) ((hch.drewN _).then (hb.mono hsz))
            · have e4 : decide ((32 : Int) ≤ (text[q].toNat : Int)) = false := by rw [← u8_ge]; simpa using hr1
              clear hr hr1
              go_wp2_with (first | (go_at_call 19; refine (hE _ (by exact hsc)).mono ?_; rintro e w' ⟨rfl, n1, rfl⟩) | (go_at_call_has 23 (Value.int .i64 0); refine (hP0 _ (by exact hsc)).mono ?_; rintro e w' ⟨rfl, n2, rfl⟩) | (go_at_call_has 23 (Value.int .i64 1); refine (hP1 _ (by exact hsc)).mono ?_; rintro e w' ⟨rfl, n3, rfl⟩) | (go_at_call 17; refine (new_any 80 _ (by decide) _).mono ?_; rintro e w' ⟨fv, rfl, hf, hb⟩))
              all_goals go_ret2
              exact QuotedPost.err_of (c := 80) (a := q - p) (by rw [Hq.out.fin (quoted_bad text q _ hlt H39.out H92.out HR.out)]; simp [Lx.Res.map]) hf (by omega) ((hch.drewN _).then (hb.mono hsz))
    · have hend : decide (text.size ≤ q) = true := by simpa using hlt
      have hE := ended_any b text q v
      rw [hend] at hE
      go_wp2_with (first | (go_at_call 19; refine (hE _ (by exact hsc)).mono ?_; rintro e w' ⟨rfl, n1, rfl⟩) | (go_at_call 17; refine (new_any 81 _ (by decide) _).mono ?_; rintro e w' ⟨fv, rfl, hf, hb⟩))
      all_goals go_ret2
      exact QuotedPost.err_of (c := 81) (a := 0) (by rw [Hq.out.fin (quoted_end text q _ (by omega))]; simp [Lx.Res.map]) hf (by omega) ((hch.drewN _).then (hb.mono hsz))
end Go.Proofs.YtjcnhoagccdclaaDoor
