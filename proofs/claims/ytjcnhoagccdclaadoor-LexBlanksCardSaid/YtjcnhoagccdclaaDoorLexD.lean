/-
  The scan object of lex: an escape; blanks and remarks.
-/
import Derived.Test.YtjcnhoagccdclaaDoorLexC
namespace Go.Proofs.YtjcnhoagccdclaaDoor
open Go.RowKit
open Lx (Byte)

theorem ScanAt.chg {w w' : World} {b : Nat} {text : ByteArray} {p : Nat} {v : Value} (h : ScanAt w b text p v) {S : Nat → Prop} (hb : Chg S w w') (hn : ¬ S b) : ScanAt w' b text p v := hb.keeps h hn

theorem escape_end (b : Nat) (text : ByteArray) (p : Nat) (v : Value) (o : Int) (w : World) (h : ScanAt w b text p v) (hs : text.size ≤ 20000) (hp : p + 1 = text.size) :
    Calls Tryd.prog 46 #[.pointer (some ⟨b, 0, none⟩), .int .i64 o] w fun e w' => ∃ fv, e = .returned (.tuple #[.int .u8 0, fv]) ∧ FaultAt w' fv 81 o ∧ ScanAt w' b text p v ∧ Chg (· = b) w w' := by
  obtain ⟨c0, c1, c2, f0, f1, f2⟩ := h.cells
  have hge : (text.size : Int) ≤ (p : Int) + 1 := by omega
  have hp2 : p < 20000 := by omega
  clear hp
  go_enter Tryd.func46, Tryd.ntmps46
  go_wp2
  go_quiet (fail)
  go_wp2_with (go_at_call 17; refine (new_any 81 _ (by decide) _).mono ?_; rintro e w' ⟨fv, rfl, hf, hb⟩)
  all_goals go_ret2
  all_goals exact ⟨fv, rfl, hf, (h.drewN _).below hb, ((Chg.refl _ _).drewN _).trans (Chg.of_below hb)⟩

theorem escape_yes (b : Nat) (text : ByteArray) (p : Nat) (v : Value) (o : Int) (w : World) (h : ScanAt w b text p v) (hs : text.size ≤ 20000) (hp : p + 1 < text.size) (x : Byte) (hx : Lx.esc text[p + 1] = some x) :
    Calls Tryd.prog 46 #[.pointer (some ⟨b, 0, none⟩), .int .i64 o] w fun e w' => e = .returned (.tuple #[.int .u8 (x.toNat : Int), .nilIface]) ∧ ScanAt w' b text (p + 2) v ∧ Chg (· = b) w w' := by
  obtain ⟨c0, c1, c2, f0, f1, f2⟩ := h.cells
  have hge : (p : Int) + 1 < (text.size : Int) := by omega
  have hp2 : p < 20000 := by omega
  have hP1 := fun wx h => peek1 b text p v wx h (by omega) hs text[p + 1] (getD_drop text p 1 hp)
  generalize text[p + 1] = c at hx hP1
  have hc : (c = 110 ∧ x = 10) ∨ (c = 116 ∧ x = 9) ∨ (c = 92 ∧ x = 92) ∨ (c = 39 ∧ x = 39) ∨ (c = 34 ∧ x = 34) := by
    unfold Lx.esc at hx
    split at hx
    · simp_all
    · split at hx
      · simp_all
      · split at hx
        · rename_i h3
          rcases h3 with h3 | h3 | h3 <;> simp_all
        · simp at hx
  clear hp hx
  rcases hc with ⟨rfl, rfl⟩ | ⟨rfl, rfl⟩ | ⟨rfl, rfl⟩ | ⟨rfl, rfl⟩ | ⟨rfl, rfl⟩
  all_goals
    go_enter Tryd.func46, Tryd.ntmps46
    go_wp2
    go_quiet (fail)
    go_wp2_with (go_at_call 23; refine (hP1 _ (by exact h)).mono ?_; rintro e w' ⟨rfl, n1, rfl⟩)
    go_ret2
    exact ⟨rfl, (h.drewN _).put (p + 2), ((Chg.refl _ _).drewN _).setCell _ _ (.inr rfl)⟩
theorem escape_no (b : Nat) (text : ByteArray) (p : Nat) (v : Value) (o : Int) (w : World) (h : ScanAt w b text p v) (hs : text.size ≤ 20000) (hp : p + 1 < text.size) (hx : Lx.esc text[p + 1] = none) :
    Calls Tryd.prog 46 #[.pointer (some ⟨b, 0, none⟩), .int .i64 o] w fun e w' => ∃ fv, e = .returned (.tuple #[.int .u8 0, fv]) ∧ FaultAt w' fv 82 p ∧ ScanAt w' b text p v ∧ Chg (· = b) w w' := by
  obtain ⟨c0, c1, c2, f0, f1, f2⟩ := h.cells
  have hge : (p : Int) + 1 < (text.size : Int) := by omega
  have hp2 : p < 20000 := by omega
  have hP1 := fun wx h => peek1 b text p v wx h (by omega) hs text[p + 1] (getD_drop text p 1 hp)
  generalize text[p + 1] = c at hx hP1
  have hc : c ≠ 110 ∧ c ≠ 116 ∧ c ≠ 92 ∧ c ≠ 39 ∧ c ≠ 34 := by
    unfold Lx.esc at hx
    split at hx
    · simp at hx
    · split at hx
      · simp at hx
      · split at hx
        · simp at hx
        · rename_i h1 h2 h3
          exact ⟨h1, h2, fun h => h3 (.inl h), fun h => h3 (.inr (.inl h)), fun h => h3 (.inr (.inr h))⟩
  obtain ⟨a1, a2, a3, a4, a5⟩ := hc
  have e1 : (((c.toNat : Int)) == 110) = false := byte_ne _ 110 (by omega) a1
  have e2 : (((c.toNat : Int)) == 116) = false := byte_ne _ 116 (by omega) a2
  have e3 : (((c.toNat : Int)) == 92) = false := byte_ne _ 92 (by omega) a3
  have e4 : (((c.toNat : Int)) == 39) = false := byte_ne _ 39 (by omega) a4
  have e5 : (((c.toNat : Int)) == 34) = false := byte_ne _ 34 (by omega) a5
  clear hp hx a1 a2 a3 a4 a5
  go_enter Tryd.func46, Tryd.ntmps46
  go_wp2
  go_quiet (fail)
  go_wp2_with (first | (go_at_call 23; refine (hP1 _ (by exact h)).mono ?_; rintro e w' ⟨rfl, n1, rfl⟩) | (go_at_call 17; refine (new_any 82 _ (by decide) _).mono ?_; rintro e w' ⟨fv, rfl, hf, hb⟩))
  go_ret2
  exact ⟨fv, rfl, hf, (h.drewN _).below hb, ((Chg.refl _ _).drewN _).trans (Chg.of_below hb)⟩

/-! ### Blanks and remarks -/
theorem line_any (c : Byte) (w : World) : Calls Tryd.prog 26 #[.int .u8 (c.toNat : Int)] w fun e w' => e = .returned (.bool (c != 10)) ∧ w = w' := by
  have h : (c != 10) = ((c.toNat : Int) != 10) := by rw [bne, bne, u8_eq]; rfl
  rw [h]; clear h
  go_enter Tryd.func26, Tryd.ntmps26
  go_wp2
  all_goals (go_ret; exact ⟨ret_bool (by first | rfl | (simp [*]; done)), rfl⟩)

theorem enters_line : ∀ args w, (callFunc 26 args).run Tryd.prog w = .ok (.enter 26 args) w :=
  enters_of Tryd.func26 (by kernel_rfl) rfl
theorem enters_letter : ∀ args w, (callFunc 29 args).run Tryd.prog w = .ok (.enter 29 args) w :=
  enters_of Tryd.func29 (by kernel_rfl) rfl
theorem enters_digit : ∀ args w, (callFunc 31 args).run Tryd.prog w = .ok (.enter 31 args) w :=
  enters_of Tryd.func31 (by kernel_rfl) rfl

theorem index_close (l : List Byte) : Lib.index l [42, 47] = match Lx.close l with | none => -1 | some n => (n : Int) := by
  induction l with
  | nil => rfl
  | cons c r ih =>
    have hp : List.isPrefixOf [42, 47] (c :: r) = (c == 42 && r.head? == some 47) := by
      cases r with
      | nil => simp [List.isPrefixOf]
      | cons d r => simp [List.isPrefixOf, BEq.comm]
    simp only [Lib.index, Lx.close, hp, ih]
    by_cases h : c = 42 ∧ r.head? = some 47
    · simp [h]
    · rw [if_neg (by simpa using h), if_neg h]
      cases hc : Lx.close r with
      | none => simp
      | some n =>
        simp only [Option.map_some]
        rw [if_neg (by simp)]; rfl

/-- Where blanks and remarks end that begin at a place, or the fault; by the whole text's places. -/
def skipAt (text : ByteArray) (p : Nat) : Lx.Res Nat := ((Lx.skip (text.data.toList.drop p)).shift p).map (· + p)

theorem shift_shift {α : Type} (r : Lx.Res α) (a b : Nat) : (r.shift a).shift b = r.shift (b + a) := by
  cases r <;> simp [Lx.Res.shift]; omega
theorem shift_map {α β : Type} (r : Lx.Res α) (f : α → β) (b : Nat) : (r.map f).shift b = (r.shift b).map f := by cases r <;> rfl
theorem map_map {α β γ : Type} (r : Lx.Res α) (f : α → β) (g : β → γ) : (r.map f).map g = r.map fun x => g (f x) := by cases r <;> rfl
theorem map_congr {α β : Type} (r : Lx.Res α) (f g : α → β) (h : ∀ x, f x = g x) : r.map f = r.map g := by cases r <;> simp [Lx.Res.map, h]

theorem skipAt_step (text : ByteArray) (p k : Nat) (h : Lx.skip (text.data.toList.drop p) = ((Lx.skip (text.data.toList.drop (p + k))).shift k).map (· + k)) : skipAt text p = skipAt text (p + k) := by
  unfold skipAt
  rw [h, shift_map, shift_shift, map_map]
  exact map_congr _ _ _ fun x => by omega

theorem skipAt_end (text : ByteArray) (p : Nat) (h : text.size ≤ p) : skipAt text p = .ok p := by
  unfold skipAt
  rw [List.drop_of_length_le (by simpa using h)]
  simp [Lx.skip, Lx.Res.shift, Lx.Res.map]
theorem skipAt_blank (text : ByteArray) (p : Nat) (h : p < text.size) (hb : Lx.blank text[p] = true) : skipAt text p = skipAt text (p + 1) := by
  refine skipAt_step text p 1 ?_
  rw [drop_cons text p h, Lx.skip]; simp [hb]
theorem skipAt_line (text : ByteArray) (p : Nat) (h : p < text.size) (hb : Lx.blank text[p] = false) (hc : text[p] = 37) :
    skipAt text p = skipAt text (p + Lx.run (fun c => c != 10) (text.data.toList.drop p)) := by
  have hr : Lx.run (fun c => c != 10) (text.data.toList.drop p) = Lx.run (fun c => c != 10) (text.data.toList.drop (p + 1)) + 1 := run_drop_yes text p h (by rw [hc]; decide)
  rw [hr]
  refine skipAt_step text p _ ?_
  rw [drop_cons text p h, Lx.skip]
  rw [if_neg (by simp [hb]), if_pos hc]
  simp only [List.drop_drop]
  rw [show p + 1 + Lx.run (fun c => c != 10) (text.data.toList.drop (p + 1)) = p + (Lx.run (fun c => c != 10) (text.data.toList.drop (p + 1)) + 1) from by omega]
theorem skipAt_other (text : ByteArray) (p : Nat) (h : p < text.size) (hb : Lx.blank text[p] = false) (hc : text[p] ≠ 37) (hr : ¬ (text[p] = 47 ∧ (text.data.toList.drop p).getD 1 0 = 42)) : skipAt text p = .ok p := by
  unfold skipAt
  rw [drop_cons text p h, Lx.skip]
  rw [if_neg (by simp [hb]), if_neg hc, if_neg (by rw [head_is text p 42 (by decide)]; exact hr)]
  simp [Lx.Res.shift, Lx.Res.map]
theorem drop_two (text : ByteArray) (p : Nat) : (text.data.toList.drop (p + 1)).drop 1 = text.data.toList.drop (p + 2) := by rw [List.drop_drop]
theorem skipAt_open (text : ByteArray) (p : Nat) (h : p < text.size) (hc : text[p] = 47) (hd : (text.data.toList.drop p).getD 1 0 = 42) (hn : Lx.close (text.data.toList.drop (p + 2)) = none) : skipAt text p = .err 81 p := by
  unfold skipAt
  rw [drop_cons text p h, Lx.skip]
  rw [if_neg (by rw [hc]; decide), if_neg (by rw [hc]; decide), if_pos ⟨hc, (head_is text p 42 (by decide)).2 hd⟩, drop_two, hn]
  simp [Lx.Res.shift, Lx.Res.map]
theorem skipAt_remark (text : ByteArray) (p n : Nat) (h : p < text.size) (hc : text[p] = 47) (hd : (text.data.toList.drop p).getD 1 0 = 42) (hn : Lx.close (text.data.toList.drop (p + 2)) = some n) : skipAt text p = skipAt text (p + (n + 4)) := by
  refine skipAt_step text p _ ?_
  rw [drop_cons text p h, Lx.skip]
  rw [if_neg (by rw [hc]; decide), if_neg (by rw [hc]; decide), if_pos ⟨hc, (head_is text p 42 (by decide)).2 hd⟩, drop_two, hn]
  simp only [List.drop_drop]
  rw [show p + 1 + (n + 3) = p + (n + 4) from by omega]
theorem close_le (l : List Byte) (n : Nat) (h : Lx.close l = some n) : n + 2 ≤ l.length := by
  induction l generalizing n with
  | nil => simp [Lx.close] at h
  | cons c r ih =>
    simp only [Lx.close] at h
    split at h
    · rename_i hh
      obtain ⟨_, h2⟩ := hh
      cases r with
      | nil => simp at h2
      | cons d r => simp at h; subst h; simp
    · cases hc : Lx.close r with
      | none => simp [hc] at h
      | some m => simp [hc] at h; have := ih m hc; simp; omega

/-- What skip answers: whether it went on, or a fault. -/
def SkipPost (b : Nat) (text : ByteArray) (p : Nat) (v : Value) (w : World) (e : Ending) (w' : World) : Prop :=
  match skipAt text p with
  | .ok n => e = .returned (.tuple #[.bool (decide (p < n)), .nilIface]) ∧ ScanAt w' b text n v ∧ Chg (· = b) w w'
  | .err c a => ∃ fv, e = .returned (.tuple #[.bool false, fv]) ∧ FaultAt w' fv c a ∧ Chg (· = b) w w'

theorem SkipPost.ok_of {b : Nat} {text : ByteArray} {p n : Nat} {v : Value} {w w' : World} (hn : skipAt text p = .ok n) (h1 : ScanAt w' b text n v) (h2 : Chg (· = b) w w') :
    SkipPost b text p v w (.returned (.tuple #[.bool (decide (p < n)), .nilIface])) w' := by
  unfold SkipPost; rw [hn]; exact ⟨rfl, h1, h2⟩
theorem SkipPost.err_of {b : Nat} {text : ByteArray} {p c a : Nat} {v fv : Value} {w w' : World} (hn : skipAt text p = .err c a) (h1 : FaultAt w' fv c a) (h2 : Chg (· = b) w w') :
    SkipPost b text p v w (.returned (.tuple #[.bool false, fv])) w' := by
  unfold SkipPost; rw [hn]; exact ⟨fv, rfl, h1, h2⟩

theorem drop_extract (text : ByteArray) (a : Nat) : (text.extract a text.size).data.toList = text.data.toList.drop a := by
  simp [List.take_of_length_le]

theorem skip_any (b : Nat) (text : ByteArray) (p : Nat) (v : Value) (m : Int) (w : World) (h : ScanAt w b text p v) (hp : p ≤ text.size) (hs : text.size ≤ 20000)
    (hm : w.cell? ⟨2, 0, none⟩ = some (.int .i64 m)) (hb : b ≠ 2) :
    Calls Tryd.prog 18 #[.pointer (some ⟨b, 0, none⟩)] w (SkipPost b text p v w) := by
  have hb2 : ¬ (2 = b) := fun h => hb h.symm
  obtain ⟨c0, c1, c2, f0, f1, f2⟩ := h.cells
  go_enter Tryd.func18, Tryd.ntmps18
  go_wp2
  clear c0 c1 c2 f0 f1 f2
  go_loopw [] (fun wr => ∃ q, p ≤ q ∧ q ≤ text.size ∧ ScanAt wr b text q v ∧ Chg (· = b) w wr ∧ skipAt text q = skipAt text p) (fun wr => text.size - placeOf wr b)
  case atStart => exact ⟨p, Nat.le_refl _, hp, h, Chg.refl _ _, rfl⟩
  case round =>
    obtain ⟨q, hq1, hq2, hsc, hch, hrun⟩ := hrel
    have Hrun := Lib.hid hrun
    clear hrun
    obtain ⟨c0, c1, c2, f0, f1, f2⟩ := hsc.cells
    have hm' := hch.cell hm hb2
    by_cases hlt : q < text.size
    · have hend : decide (text.size ≤ q) = false := by simpa using hlt
      have hE := ended_any b text q v
      rw [hend] at hE
      have hP0 := fun wx h => peek0 b text q v wx h hlt hs
      obtain ⟨d, hd⟩ : ∃ d, (text.data.toList.drop q).getD 1 0 = d := ⟨_, rfl⟩
      have hP1 := fun wx h => peek1 b text q v wx h (by omega) hs d hd
      have Hd := Lib.hid hd
      clear hd
      have hB := blank_any text[q]
      cases hbl : Lx.blank text[q]
      · rw [hbl] at hB
        have HBL := Lib.hid hbl
        clear hbl
        by_cases h37 : text[q] = 37
        · have e37 : (((text[q].toNat : Int)) == 37) = true := (byte_eq _ 37 (by omega)).2 h37
          have H37 := Lib.hid h37
          clear h37
          have hW := fun wx h => while_any (fun c => c != 10) 26 enters_line line_any b text q v wx h hq2 hs
          go_wp2_with (first | (go_at_call 19; refine (hE _ (by exact hsc)).mono ?_; rintro e w' ⟨rfl, n1, rfl⟩) | (go_at_call_has 23 (Value.int .i64 0); refine (hP0 _ (by exact hsc)).mono ?_; rintro e w' ⟨rfl, n2, rfl⟩) | (go_at_call_has 23 (Value.int .i64 1); refine (hP1 _ (by exact hsc)).mono ?_; rintro e w' ⟨rfl, n3, rfl⟩) | (go_at_call 24; refine (hB _).mono ?_; rintro e w' ⟨rfl, rfl⟩) | (go_at_call 25; refine (hW _ (by exact hsc)).mono ?_; rintro e w' ⟨rfl, hsc', hch'⟩))
          have hst := skipAt_line text q hlt HBL.out H37.out
          have hle : Lx.run (fun c => c != 10) (text.data.toList.drop q) ≤ text.size - q := by
            have := Lx.run_le (fun c => c != 10) (text.data.toList.drop q); simpa using this
          have hpos : 0 < Lx.run (fun c => c != 10) (text.data.toList.drop q) := by
            rw [run_drop_yes text q hlt (by rw [H37.out]; decide)]; omega
          go_roundw
          case rel => exact ⟨_, by omega, by omega, hsc', (hch.drewN _).trans hch', by rw [← hst, Hrun.out]⟩
          case measure => rw [placeOf_of hsc, placeOf_of hsc']; omega
        · have e37 : (((text[q].toNat : Int)) == 37) = false := byte_ne _ 37 (by omega) h37
          have H37 := Lib.hid h37
          clear h37
          by_cases h47 : text[q] = 47
          · have e47 : (((text[q].toNat : Int)) == 47) = true := (byte_eq _ 47 (by omega)).2 h47
            have H47 := Lib.hid h47
            clear h47
            by_cases h42 : d = 42
            · have e42 : (((d.toNat : Int)) == 42) = true := (byte_eq _ 42 (by omega)).2 h42
              have H42 := Lib.hid h42
              clear h42
              have hq : q + 2 ≤ text.size := by
                have h1 : (text.data.toList.drop (q + 1)).head? = some 42 := (head_is text q 42 (by decide)).2 (by rw [Hd.out]; exact H42.out)
                rw [head_drop] at h1
                split at h1
                · omega
                · simp at h1
              have hi0 : (0 : Int) ≤ (q : Int) + 2 := by omega
              have hi1 : (q : Int) + 2 ≤ text.size := by omega
              have hi2 : IntKind.i64.wrap ((q : Int) + 2) = (q : Int) + 2 := IntWalk.i64_in _ (by omega)
              have hi3 : ((q : Int) + 2).toNat = q + 2 := by omega
              have hI := fun wx h => Tryd.strings_Index (text.extract (q + 2) text.size) ⟨#[42, 47]⟩ m wx (by simp; omega) h
              have hst : Hid (match Lx.close (text.data.toList.drop (q + 2)) with | none => skipAt text q = .err 81 q | some n => skipAt text q = skipAt text (q + (n + 4)) ∧ q + (n + 4) ≤ text.size) := by
                cases hcl : Lx.close (text.data.toList.drop (q + 2)) with
                | none => exact skipAt_open text q hlt H47.out (by rw [Hd.out]; exact H42.out) hcl
                | some n =>
                  refine ⟨skipAt_remark text q n hlt H47.out (by rw [Hd.out]; exact H42.out) hcl, ?_⟩
                  have := close_le _ _ hcl
                  simp at this; omega
              have hix : Lib.index (text.extract (q + 2) text.size).data.toList [42, 47] = match Lx.close (text.data.toList.drop (q + 2)) with | none => -1 | some n => (n : Int) := by
                rw [drop_extract, index_close]
              have hI : ∀ wx, wx.cell? ⟨2, 0, none⟩ = some (.int .i64 m) → Calls Tryd.prog 27 #[.string (text.extract (q + 2) text.size), .string ⟨#[42, 47]⟩] wx fun e w' => e = .returned (.int .i64 (match Lx.close (text.data.toList.drop (q + 2)) with | none => -1 | some n => (n : Int))) ∧ w' = wx := by
                intro wx h
                have h1 := hI wx h
                rw [show ((⟨#[42, 47]⟩ : ByteArray)).data.toList = [42, 47] from rfl, hix] at h1
                exact h1
              clear hix
              cases hcl : Lx.close (text.data.toList.drop (q + 2)) with
              | none =>
                rw [hcl] at hst
                simp only [hcl] at hI
                clear hcl
                go_wp2_with (first | (go_at_call 19; refine (hE _ (by exact hsc)).mono ?_; rintro e w' ⟨rfl, n1, rfl⟩) | (go_at_call_has 23 (Value.int .i64 0); refine (hP0 _ (by exact hsc)).mono ?_; rintro e w' ⟨rfl, n2, rfl⟩) | (go_at_call_has 23 (Value.int .i64 1); refine (hP1 _ (by exact hsc)).mono ?_; rintro e w' ⟨rfl, n3, rfl⟩) | (go_at_call 24; refine (hB _).mono ?_; rintro e w' ⟨rfl, rfl⟩))
                go_quiet (first | (go_at_call 27; exact quiet_same2 (hI _ (by exact hm'))))
                go_wp2_with (first | (go_at_call 17; refine (new_any 81 _ (by decide) _).mono ?_; rintro e w' ⟨fv, rfl, hf, hbl⟩))
                go_ret2
                exact SkipPost.err_of (by rw [← Hrun.out]; exact hst.out) hf ((hch.drewN _).trans (Chg.of_below hbl))
              | some n =>
                rw [hcl] at hst
                simp only [hcl] at hI
                clear hcl
                have Hst := hst.out
                have hn2 : q + (n + 4) ≤ text.size := Hst.2
                clear Hst
                go_wp2_with (first | (go_at_call 19; refine (hE _ (by exact hsc)).mono ?_; rintro e w' ⟨rfl, n1, rfl⟩) | (go_at_call_has 23 (Value.int .i64 0); refine (hP0 _ (by exact hsc)).mono ?_; rintro e w' ⟨rfl, n2, rfl⟩) | (go_at_call_has 23 (Value.int .i64 1); refine (hP1 _ (by exact hsc)).mono ?_; rintro e w' ⟨rfl, n3, rfl⟩) | (go_at_call 24; refine (hB _).mono ?_; rintro e w' ⟨rfl, rfl⟩))
                go_quiet (first | (go_at_call 27; exact quiet_same2 (hI _ (by exact hm'))))
                go_wp2
                go_roundw
                case rel =>
                  refine ⟨q + (n + 4), by omega, by omega, ?_, (hch.drewN _).setCell _ _ (.inr rfl), by rw [← hst.out.1, Hrun.out]⟩
                  exact (hsc.drewN _).put (q + (n + 4))
                case measure => rw [placeOf_of hsc, show ((q : Int) + (↑n + 4)) = ((q + (n + 4) : Nat) : Int) from rfl, placeOf_of ((hsc.drewN _).put (q + (n + 4)))]; omega
            · have e42 : (((d.toNat : Int)) == 42) = false := byte_ne _ 42 (by omega) h42
              have H42 := Lib.hid h42
              clear h42
              go_wp2_with (first | (go_at_call 19; refine (hE _ (by exact hsc)).mono ?_; rintro e w' ⟨rfl, n1, rfl⟩) | (go_at_call_has 23 (Value.int .i64 0); refine (hP0 _ (by exact hsc)).mono ?_; rintro e w' ⟨rfl, n2, rfl⟩) | (go_at_call_has 23 (Value.int .i64 1); refine (hP1 _ (by exact hsc)).mono ?_; rintro e w' ⟨rfl, n3, rfl⟩) | (go_at_call 24; refine (hB _).mono ?_; rintro e w' ⟨rfl, rfl⟩))
              all_goals go_ret2
              exact SkipPost.ok_of (by rw [← Hrun.out]; exact skipAt_other text q hlt HBL.out H37.out (by rw [Hd.out]; exact fun h => H42.out h.2)) (hsc.drewN _) (hch.drewN _)
          · have e47 : (((text[q].toNat : Int)) == 47) = false := byte_ne _ 47 (by omega) h47
            have H47 := Lib.hid h47
            clear h47
            go_wp2_with (first | (go_at_call 19; refine (hE _ (by exact hsc)).mono ?_; rintro e w' ⟨rfl, n1, rfl⟩) | (go_at_call_has 23 (Value.int .i64 0); refine (hP0 _ (by exact hsc)).mono ?_; rintro e w' ⟨rfl, n2, rfl⟩) | (go_at_call_has 23 (Value.int .i64 1); refine (hP1 _ (by exact hsc)).mono ?_; rintro e w' ⟨rfl, n3, rfl⟩) | (go_at_call 24; refine (hB _).mono ?_; rintro e w' ⟨rfl, rfl⟩))
            all_goals go_ret2
            exact SkipPost.ok_of (by rw [← Hrun.out]; exact skipAt_other text q hlt HBL.out H37.out (fun h => H47.out h.1)) (hsc.drewN _) (hch.drewN _)
      · rw [hbl] at hB
        have HBL := Lib.hid hbl
        clear hbl
        go_wp2_with (first | (go_at_call 19; refine (hE _ (by exact hsc)).mono ?_; rintro e w' ⟨rfl, n1, rfl⟩) | (go_at_call_has 23 (Value.int .i64 0); refine (hP0 _ (by exact hsc)).mono ?_; rintro e w' ⟨rfl, n2, rfl⟩) | (go_at_call_has 23 (Value.int .i64 1); refine (hP1 _ (by exact hsc)).mono ?_; rintro e w' ⟨rfl, n3, rfl⟩) | (go_at_call 24; refine (hB _).mono ?_; rintro e w' ⟨rfl, rfl⟩))
        go_roundw
        case rel => exact ⟨q + 1, by omega, by omega, (hsc.drewN _).put (q + 1), (hch.drewN _).setCell _ _ (.inr rfl), by rw [← skipAt_blank text q hlt HBL.out, Hrun.out]⟩
        case measure => rw [placeOf_of hsc, show ((q : Int) + 1) = ((q + 1 : Nat) : Int) from rfl, placeOf_of ((hsc.drewN _).put (q + 1))]; omega
    · have hend : decide (text.size ≤ q) = true := by simpa using hlt
      have hE := ended_any b text q v
      rw [hend] at hE
      go_wp2_with (first | (go_at_call 19; refine (hE _ (by exact hsc)).mono ?_; rintro e w' ⟨rfl, n1, rfl⟩))
      all_goals go_ret2
      exact SkipPost.ok_of (by rw [← Hrun.out]; exact skipAt_end text q (by omega)) (hsc.drewN _) (hch.drewN _)
end Go.Proofs.YtjcnhoagccdclaaDoor
