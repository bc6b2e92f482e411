/-
  The scan object of lex: 0' and a byte.
-/
import Derived.Test.YtjcnhoagccdclaaDoorLexF
namespace Go.Proofs.YtjcnhoagccdclaaDoor
open Go.RowKit
open Lx (Byte)

/-- What code answers, at a place p where 0' stands. -/
def CodePost (b : Nat) (text : ByteArray) (p : Nat) (v : Value) (w : World) (e : Ending) (w' : World) : Prop :=
  match Lx.code (text.data.toList.drop (p + 2)) with
  | .ok x => e = .returned (.tuple #[.int .i64 x.1, .nilIface]) ∧ ScanAt w' b text (p + x.2) v ∧ Chg (· = b) w w'
  | .err c a => ∃ fv, e = .returned (.tuple #[.int .i64 0, fv]) ∧ FaultAt w' fv c (p + a : Nat) ∧ Chg (· = b) w w' ∧ ScanAt w' b text (p + 2) v
theorem CodePost.ok_of {b : Nat} {text : ByteArray} {p n : Nat} {i : Int} {v : Value} {w w' : World} (hn : Lx.code (text.data.toList.drop (p + 2)) = .ok (i, n)) {j : Int} (hj : j = i) (h1 : ScanAt w' b text (p + n) v) (h2 : Chg (· = b) w w') :
    CodePost b text p v w (.returned (.tuple #[.int .i64 j, .nilIface])) w' := by
  subst hj; unfold CodePost; rw [hn]; exact ⟨rfl, h1, h2⟩
theorem CodePost.err_of {b : Nat} {text : ByteArray} {p c a : Nat} {v fv : Value} {w w' : World} (hn : Lx.code (text.data.toList.drop (p + 2)) = .err c a) {q : Int} (h1 : FaultAt w' fv c q) (hq : q = (p + a : Nat)) (h2 : Chg (· = b) w w') (h3 : ScanAt w' b text (p + 2) v) :
    CodePost b text p v w (.returned (.tuple #[.int .i64 0, fv])) w' := by
  unfold CodePost; rw [hn]; exact ⟨fv, rfl, hq ▸ h1, h2, h3⟩

theorem code_end (s : ByteArray) (q : Nat) (h : s.size ≤ q) : Lx.code (s.data.toList.drop q) = .err 81 0 := by
  rw [List.drop_of_length_le (by simpa using h)]; rfl
theorem code_esc (s : ByteArray) (q : Nat) (h : q < s.size) (hc : s[q] = 92) (h1 : q + 1 < s.size) :
    Lx.code (s.data.toList.drop q) = match Lx.esc s[q + 1] with | some x => .ok (x.toNat, 4) | none => .err 82 2 := by
  rw [drop_cons s q h, drop_cons s (q + 1) h1, Lx.code]; simp [hc]; rfl
theorem code_escend (s : ByteArray) (q : Nat) (h : q + 1 = s.size) (hc : s[q] = 92) : Lx.code (s.data.toList.drop q) = .err 81 0 := by
  rw [drop_cons s q (by omega), List.drop_of_length_le (by simp; omega)]; simp [Lx.code, hc]
theorem code_qend (s : ByteArray) (q : Nat) (h : q + 1 = s.size) (hc : s[q] = 39) : Lx.code (s.data.toList.drop q) = .err 81 0 := by
  rw [drop_cons s q (by omega), List.drop_of_length_le (by simp; omega)]; simp [Lx.code, hc]
theorem code_dbl (s : ByteArray) (q : Nat) (h : q < s.size) (hc : s[q] = 39) (hd : (s.data.toList.drop q).getD 1 0 = 39) : Lx.code (s.data.toList.drop q) = .ok (39, 4) := by
  obtain ⟨h1, h2⟩ := getD_is s q 39 (by decide) hd
  rw [drop_cons s q h, drop_cons s (q + 1) h1, Lx.code]; simp [hc, h2 h1]
theorem code_lone (s : ByteArray) (q : Nat) (h : q + 1 < s.size) (hc : s[q] = 39) (hd : (s.data.toList.drop q).getD 1 0 ≠ 39) : Lx.code (s.data.toList.drop q) = .err 80 2 := by
  rw [getD_drop s q 1 h] at hd
  rw [drop_cons s q (by omega), drop_cons s (q + 1) h, Lx.code]; simp [hc, hd]
theorem code_plain (s : ByteArray) (q : Nat) (h : q < s.size) (hc : s[q] ≠ 39) (hd : s[q] ≠ 92) (hr : 32 ≤ s[q] ∧ s[q] ≤ 126) : Lx.code (s.data.toList.drop q) = .ok (s[q].toNat, 3) := by
  rw [drop_cons s q h, Lx.code.eq_def]; simp only [hc, hd, if_false, hr, and_self, if_true]
theorem code_bad (s : ByteArray) (q : Nat) (h : q < s.size) (hc : s[q] ≠ 39) (hd : s[q] ≠ 92) (hr : ¬ (32 ≤ s[q] ∧ s[q] ≤ 126)) : Lx.code (s.data.toList.drop q) = .err 80 2 := by
  rw [drop_cons s q h, Lx.code.eq_def]; simp only [hc, hd, if_false, hr]

theorem peek0_end (b : Nat) (text : ByteArray) (p : Nat) (v : Value) (w : World) (h : ScanAt w b text p v) (hp : p = text.size) (hs : text.size ≤ 20000) :
    Calls Tryd.prog 23 #[.pointer (some ⟨b, 0, none⟩), .int .i64 0] w fun e w' => e = .returned (.int .u8 0) ∧ ∃ n, w' = w.drewN n := by
  have h1 := peek_any b text p v 0 w h (by omega) hs (by omega)
  rw [List.drop_of_length_le (by simp; omega)] at h1
  exact h1

theorem u8_lt32 (a : Byte) : decide ((a.toNat : Int) < 32) = !decide ((32 : Byte) ≤ a) := by rw [u8_ge, ← decide_not, decide_eq_decide]; omega
theorem u8_gt126 (a : Byte) : decide ((126 : Int) < (a.toNat : Int)) = !decide (a ≤ (126 : Byte)) := by rw [u8_le126, ← decide_not, decide_eq_decide]; omega

theorem wrap64_u8 (c : Byte) : wrap64 (c.toNat : Int) = (c.toNat : Int) := by
  have := c.toNat_lt
  unfold wrap64; omega

set_option maxRecDepth 100000 in
set_option maxHeartbeats 1000000 in
theorem code_any (b : Nat) (text : ByteArray) (p : Nat) (v : Value) (w : World) (h : ScanAt w b text p v) (hp : p + 2 ≤ text.size) (hs : text.size ≤ 20000) :
    Calls Tryd.prog 41 #[.pointer (some ⟨b, 0, none⟩)] w (CodePost b text p v w) := by
  obtain ⟨c0, c1, c2, f0, f1, f2⟩ := h.cells
  have hsc := h.put (p + 2)
  by_cases hlt : p + 2 < text.size
  · have hend : decide (text.size ≤ p + 2) = false := by simpa using hlt
    have hE := ended_any b text (p + 2) v
    rw [hend] at hE
    have hP0 := fun wx h => peek0 b text (p + 2) v wx h hlt hs
    obtain ⟨d, hd⟩ : ∃ d, (text.data.toList.drop (p + 2)).getD 1 0 = d := ⟨_, rfl⟩
    have hP1 := fun wx h => peek1 b text (p + 2) v wx h (by omega) hs d hd
    have Hd := Lib.hid hd
    clear hd
    have hP : p < 20000 := by omega
    by_cases h39 : text[p + 2] = 39
    · have e39 : (((text[p + 2].toNat : Int)) == 39) = true := (byte_eq _ 39 (by omega)).2 h39
      have e92 : (((text[p + 2].toNat : Int)) == 92) = false := byte_ne _ 92 (by omega) (by rw [h39]; decide)
      have H39 := Lib.hid h39
      clear h39
      by_cases hq1 : p + 2 + 1 < text.size
      · have hq2 : ((p : Int) + 2 + 1) < (text.size : Int) := by omega
        by_cases d39 : d = 39
        · have e2 : (((d.toNat : Int)) == 39) = true := (byte_eq _ 39 (by omega)).2 d39
          have e3 : (((d.toNat : Int)) != 39) = false := by rw [bne, e2]; rfl
          have e4 : decide ((text[p + 2].toNat : Int) < 32) = false := by rw [u8_lt32, H39.out]; decide
          have e5 : decide ((126 : Int) < (text[p + 2].toNat : Int)) = false := by rw [u8_gt126, H39.out]; decide
          have D39 := Lib.hid d39
          clear d39
          go_enter Tryd.func41, Tryd.ntmps41
          go_wp2_with (first | (go_at_call_has 23 (Value.int .i64 0); refine (hP0 _ (by exact hsc)).mono ?_; rintro e w' ⟨rfl, n2, rfl⟩))
          go_quiet ((go_at_call 19; exact quiet_of2 (hE _ (by exact hsc))))
          go_wp2_with (first | (go_at_call_has 23 (Value.int .i64 1); refine (hP1 _ (by exact hsc)).mono ?_; rintro e w' ⟨rfl, n3, rfl⟩))
          all_goals go_ret2
          exact CodePost.ok_of (n := 4) (i := 39) (code_dbl text (p + 2) hlt H39.out (Hd.out.trans D39.out)) (by rw [H39.out, wrap64_u8]; rfl) (((hsc.drewN _).put (p + 3)).put (p + 4)) ((((Chg.refl (· = b) w).put 1 _).drewN _).put 1 _ |>.put 1 _)
        · have e2 : (((d.toNat : Int)) == 39) = false := byte_ne _ 39 (by omega) d39
          have e3 : (((d.toNat : Int)) != 39) = true := by rw [bne, e2]; rfl
          have D39 := Lib.hid d39
          clear d39
          go_enter Tryd.func41, Tryd.ntmps41
          go_wp2_with (first | (go_at_call_has 23 (Value.int .i64 0); refine (hP0 _ (by exact hsc)).mono ?_; rintro e w' ⟨rfl, n2, rfl⟩))
          go_quiet ((go_at_call 19; exact quiet_of2 (hE _ (by exact hsc))))
          go_wp2_with (first | (go_at_call_has 23 (Value.int .i64 1); refine (hP1 _ (by exact hsc)).mono ?_; rintro e w' ⟨rfl, n3, rfl⟩) | (go_at_call 17; refine (new_any 80 _ (by decide) _).mono ?_; rintro e w' ⟨fv, rfl, hf, hb⟩))
          all_goals go_ret2
          exact CodePost.err_of (c := 80) (a := 2) (by first | exact code_bad text (p + 2) hlt H39.out H92.out HR.out | exact code_lone text (p + 2) (by omega) H39.out (fun x => D39.out (Hd.out.symm.trans x))) hf (by omega) ((((Chg.refl (· = b) w).put 1 _).drewN _).then (by have h9 := hb; simp at h9; exact h9)) (ScanAt.below (hsc.drewN _) hb)
      · have hq2 : (text.size : Int) ≤ ((p : Int) + 2 + 1) := by omega
        go_enter Tryd.func41, Tryd.ntmps41
        go_wp2_with (first | (go_at_call_has 23 (Value.int .i64 0); refine (hP0 _ (by exact hsc)).mono ?_; rintro e w' ⟨rfl, n2, rfl⟩))
        go_quiet ((go_at_call 19; exact quiet_of2 (hE _ (by exact hsc))))
        go_wp2_with (first | (go_at_call 17; refine (new_any 81 _ (by decide) _).mono ?_; rintro e w' ⟨fv, rfl, hf, hb⟩))
        all_goals go_ret2
        exact CodePost.err_of (c := 81) (a := 0) (code_qend text (p + 2) (by omega) H39.out) hf (by omega) ((((Chg.refl (· = b) w).put 1 _).drewN _).then (by have h9 := hb; simp at h9; exact h9)) (ScanAt.below (hsc.drewN _) hb)
    · have e39 : (((text[p + 2].toNat : Int)) == 39) = false := byte_ne _ 39 (by omega) h39
      have H39 := Lib.hid h39
      clear h39
      by_cases h92 : text[p + 2] = 92
      · have e92 : (((text[p + 2].toNat : Int)) == 92) = true := (byte_eq _ 92 (by omega)).2 h92
        have H92 := Lib.hid h92
        clear h92
        by_cases hq1 : p + 2 + 1 < text.size
        · cases hx : Lx.esc text[p + 2 + 1] with
          | none =>
            have hES := fun wx h => escape_no b text (p + 2) v p wx h hs hq1 hx
            have HX := Lib.hid hx
            clear hx
            go_enter Tryd.func41, Tryd.ntmps41
            go_wp2_with (first | (go_at_call_has 23 (Value.int .i64 0); refine (hP0 _ (by exact hsc)).mono ?_; rintro e w' ⟨rfl, n2, rfl⟩))
            go_quiet ((go_at_call 19; exact quiet_of2 (hE _ (by exact hsc))))
            go_wp2_with (first | (go_at_call 46; refine (hES _ (by exact hsc)).mono ?_; rintro e w1 ⟨fv, rfl, hf, hsc1, hc1⟩))
            all_goals go_ret2
            exact CodePost.err_of (c := 82) (a := 2) (by rw [code_esc text (p + 2) hlt H92.out hq1, HX.out]) hf (by omega) ((((Chg.refl (· = b) w).put 1 _).drewN _).trans hc1) hsc1
          | some x =>
            have hES := fun wx h => escape_yes b text (p + 2) v p wx h hs hq1 x hx
            have HX := Lib.hid hx
            clear hx
            go_enter Tryd.func41, Tryd.ntmps41
            go_wp2_with (first | (go_at_call_has 23 (Value.int .i64 0); refine (hP0 _ (by exact hsc)).mono ?_; rintro e w' ⟨rfl, n2, rfl⟩))
            go_quiet ((go_at_call 19; exact quiet_of2 (hE _ (by exact hsc))))
            go_wp2_with (first | (go_at_call 46; refine (hES _ (by exact hsc)).mono ?_; rintro e w1 ⟨rfl, hsc1, hc1⟩))
            all_goals go_ret2
            exact CodePost.ok_of (n := 4) (i := (x.toNat : Int)) (by rw [code_esc text (p + 2) hlt H92.out hq1, HX.out]) (by rw [wrap64_u8]) hsc1 ((((Chg.refl (· = b) w).put 1 _).drewN _).trans hc1)
        · have hES := fun wx h => escape_end b text (p + 2) v p wx h hs (by omega)
          go_enter Tryd.func41, Tryd.ntmps41
          go_wp2_with (first | (go_at_call_has 23 (Value.int .i64 0); refine (hP0 _ (by exact hsc)).mono ?_; rintro e w' ⟨rfl, n2, rfl⟩))
          go_quiet ((go_at_call 19; exact quiet_of2 (hE _ (by exact hsc))))
          go_wp2_with (first | (go_at_call 46; refine (hES _ (by exact hsc)).mono ?_; rintro e w1 ⟨fv, rfl, hf, hsc1, hc1⟩))
          all_goals go_ret2
          exact CodePost.err_of (c := 81) (a := 0) (code_escend text (p + 2) (by omega) H92.out) hf (by omega) ((((Chg.refl (· = b) w).put 1 _).drewN _).trans hc1) hsc1
      · have e92 : (((text[p + 2].toNat : Int)) == 92) = false := byte_ne _ 92 (by omega) h92
        have H92 := Lib.hid h92
        clear h92
        by_cases hr : 32 ≤ text[p + 2] ∧ text[p + 2] ≤ 126
        · have e4 : decide ((text[p + 2].toNat : Int) < 32) = false := by rw [u8_lt32]; simpa using hr.1
          have e5 : decide ((126 : Int) < (text[p + 2].toNat : Int)) = false := by rw [u8_gt126]; simpa using hr.2
          have HR := Lib.hid hr
          clear hr
          go_enter Tryd.func41, Tryd.ntmps41
          go_wp2_with (first | (go_at_call_has 23 (Value.int .i64 0); refine (hP0 _ (by exact hsc)).mono ?_; rintro e w' ⟨rfl, n2, rfl⟩))
          go_quiet ((go_at_call 19; exact quiet_of2 (hE _ (by exact hsc))))
          go_wp2_with (first | (go_at_call_has 23 (Value.int .i64 1); refine (hP1 _ (by exact hsc)).mono ?_; rintro e w' ⟨rfl, n3, rfl⟩))
          all_goals go_ret2
          exact CodePost.ok_of (n := 3) (i := (text[p + 2].toNat : Int)) (code_plain text (p + 2) hlt H39.out H92.out HR.out) (by rw [wrap64_u8]) ((hsc.drewN _).put (p + 3)) ((((Chg.refl (· = b) w).put 1 _).drewN _).put 1 _)
        · have HR := Lib.hid hr
          by_cases hr1 : 32 ≤ text[p + 2]
          · have e4 : decide ((text[p + 2].toNat : Int) < 32) = false := by rw [u8_lt32]; simpa using hr1
            have e5 : decide ((126 : Int) < (text[p + 2].toNat : Int)) = true := by rw [u8_gt126]; simpa using fun x => hr ⟨hr1, x⟩
            clear hr hr1
            go_enter Tryd.func41, Tryd.ntmps41
            go_wp2_with (first | (go_at_call_has 23 (Value.int .i64 0); refine (hP0 _ (by exact hsc)).mono ?_; rintro e w' ⟨rfl, n2, rfl⟩))
            go_quiet ((go_at_call 19; exact quiet_of2 (hE _ (by exact hsc))))
            go_wp2_with (first | (go_at_call_has 23 (Value.int .i64 1); refine (hP1 _ (by exact hsc)).mono ?_; rintro e w' ⟨rfl, n3, rfl⟩) | (go_at_call 17; refine (new_any 80 _ (by decide) _).mono ?_; rintro e w' ⟨fv, rfl, hf, hb⟩))
            all_goals go_ret2
            exact CodePost.err_of (c := 80) (a := 2) (code_bad text (p + 2) hlt H39.out H92.out HR.out) hf (by omega) ((((Chg.refl (· = b) w).put 1 _).drewN _).then (by have h9 := hb; simp at h9; exact h9)) (ScanAt.below (hsc.drewN _) hb)
          · have e4 : decide ((text[p + 2].toNat : Int) < 32) = true := by rw [u8_lt32]; simpa using hr1
            clear hr hr1
            go_enter Tryd.func41, Tryd.ntmps41
            go_wp2_with (first | (go_at_call_has 23 (Value.int .i64 0); refine (hP0 _ (by exact hsc)).mono ?_; rintro e w' ⟨rfl, n2, rfl⟩))
            go_quiet ((go_at_call 19; exact quiet_of2 (hE _ (by exact hsc))))
            go_wp2_with (first | (go_at_call_has 23 (Value.int .i64 1); refine (hP1 _ (by exact hsc)).mono ?_; rintro e w' ⟨rfl, n3, rfl⟩) | (go_at_call 17; refine (new_any 80 _ (by decide) _).mono ?_; rintro e w' ⟨fv, rfl, hf, hb⟩))
            all_goals go_ret2
            exact CodePost.err_of (c := 80) (a := 2) (code_bad text (p + 2) hlt H39.out H92.out HR.out) hf (by omega) ((((Chg.refl (· = b) w).put 1 _).drewN _).then (by have h9 := hb; simp at h9; exact h9)) (ScanAt.below (hsc.drewN _) hb)
  · have hend : decide (text.size ≤ p + 2) = true := by simpa using hlt
    have hE := ended_any b text (p + 2) v
    rw [hend] at hE
    have hP0 := fun wx h => peek0_end b text (p + 2) v wx h (by omega) hs
    go_enter Tryd.func41, Tryd.ntmps41
    go_wp2_with (first | (go_at_call_has 23 (Value.int .i64 0); refine (hP0 _ (by exact hsc)).mono ?_; rintro e w' ⟨rfl, n2, rfl⟩))
    go_quiet ((go_at_call 19; exact quiet_of2 (hE _ (by exact hsc))))
    go_wp2_with (first | (go_at_call 17; refine (new_any 81 _ (by decide) _).mono ?_; rintro e w' ⟨fv, rfl, hf, hb⟩))
    all_goals go_ret2
    exact CodePost.err_of (c := 81) (a := 0) (code_end text (p + 2) (by omega)) hf (by omega) ((((Chg.refl (· = b) w).put 1 _).drewN _).then (by have h9 := hb; simp at h9; exact h9)) (ScanAt.below (hsc.drewN _) hb)
end Go.Proofs.YtjcnhoagccdclaaDoor
