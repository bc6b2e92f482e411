/-
  The scan object of lex: signs; a fault that is made; remarks and blanks; an escape.
-/
import Derived.Test.YtjcnhoagccdclaaDoorLexB
import Derived.Test.YtjcnhoagccdclaaDoorShelf
import Derived.Sort.AtCall
namespace Go.Proofs.YtjcnhoagccdclaaDoor
open Go.RowKit
open Lx (Byte)

theorem indexByte_ge (l : List Byte) (c : Byte) : -1 ≤ Lib.indexByte l c := by
  induction l with
  | nil => simp [Lib.indexByte]
  | cons b l ih =>
    simp only [Lib.indexByte]
    split
    · decide
    · split <;> omega
theorem indexByte_mem (l : List Byte) (c : Byte) : decide (0 ≤ Lib.indexByte l c) = l.contains c := by
  rw [Bool.eq_iff_iff, decide_eq_true_iff, List.contains_iff_mem]
  induction l with
  | nil => simp [Lib.indexByte]
  | cons b l ih =>
    have hg := indexByte_ge l c
    simp only [Lib.indexByte, List.mem_cons]
    by_cases hb : b = c
    · simp [hb]
    · have h2 : ¬ c = b := fun h => hb h.symm
      by_cases hn : Lib.indexByte l c = -1
      · have : ¬ c ∈ l := fun hm => by have := ih.2 hm; omega
        simp [hb, hn, h2, this]
      · simp only [h2, false_or, ← ih]
        simp [hb, hn]; omega

theorem u8_back (c : Byte) : (c.toNat : Int).toNat.toUInt8 = c := by simp

theorem sign_any (c : Byte) (w : World) : Calls Tryd.prog 16 #[.int .u8 (c.toNat : Int)] w fun e w' => e = .returned (.bool (Lx.sign c)) ∧ w = w' := by
  have h : Lx.sign c = decide (0 ≤ Lib.indexByte [43, 45, 42, 47, 92, 94, 60, 62, 61, 126, 58, 46, 63, 64, 35, 38, 36] c) := by
    rw [indexByte_mem]; rfl
  rw [h]; clear h
  go_enter Tryd.func16, Tryd.ntmps16
  go_wp2_with (first | (go_at_call 22; refine (Tryd.strings_IndexByte _ _ _).mono ?_; rintro e w' ⟨rfl, rfl⟩))
  all_goals (go_ret; exact ⟨rfl, rfl⟩)

/-- An error that is a fault of this code, at this place. -/
def FaultAt (w : World) (v : Value) (code at_ : Int) : Prop :=
  ∃ N, v = .iface 51 (.pointer (some ⟨N, 0, none⟩)) ∧ w.heap[N]? = some (.cells #[.int .i64 code, .int .i64 at_] 55 (0, 0))

theorem new_any (code at_ : Int) (hc : code ≠ 0) (w : World) :
    Calls Tryd.prog 17 #[.int .i64 code, .int .i64 at_] w fun e w' => ∃ v, e = .returned v ∧ FaultAt w' v code at_ ∧ Below w.heap.size w w' := by
  have h0 : (code == 0) = false := by simpa using hc
  go_enter Tryd.func17, Tryd.ntmps17
  go_wp2
  all_goals (go_ret; exact ⟨_, rfl, ⟨_, rfl, heap_alloc_new w _⟩, (Below.refl _ _).alloc (Nat.le_refl _) _⟩)

theorem ScanAt.below {w w' : World} {b : Nat} {text : ByteArray} {p : Nat} {v : Value} (h : ScanAt w b text p v) (hb : Below w.heap.size w w') : ScanAt w' b text p v :=
  (hb.block b (lt_of_block h)).trans h
theorem FaultAt.drewN {w : World} {v : Value} {c a : Int} (h : FaultAt w v c a) (n : Nat) : FaultAt (w.drewN n) v c a := h

theorem peek0 (b : Nat) (text : ByteArray) (p : Nat) (v : Value) (w : World) (h : ScanAt w b text p v) (hp : p < text.size) (hs : text.size ≤ 20000) :
    Calls Tryd.prog 23 #[.pointer (some ⟨b, 0, none⟩), .int .i64 0] w fun e w' => e = .returned (.int .u8 (text[p].toNat : Int)) ∧ ∃ n, w' = w.drewN n := by
  have h1 := peek_any b text p v 0 w h (by omega) hs (by omega)
  rw [getD_drop text p 0 (by omega)] at h1
  exact h1
theorem peek1 (b : Nat) (text : ByteArray) (p : Nat) (v : Value) (w : World) (h : ScanAt w b text p v) (hp : p ≤ text.size) (hs : text.size ≤ 20000) (c : Byte) (hc : (text.data.toList.drop p).getD 1 0 = c) :
    Calls Tryd.prog 23 #[.pointer (some ⟨b, 0, none⟩), .int .i64 1] w fun e w' => e = .returned (.int .u8 (c.toNat : Int)) ∧ ∃ n, w' = w.drewN n := by
  have h1 := peek_any b text p v 1 w h hp hs (by omega)
  rw [hc] at h1
  exact h1

theorem head_drop (s : ByteArray) (q : Nat) : (s.data.toList.drop (q + 1)).head? = if q + 1 < s.size then some ((s.data.toList.drop q).getD 1 0) else none := by
  rw [List.head?_drop]
  split
  · rename_i h
    rw [getD_drop s q 1 h, List.getElem?_eq_getElem (by simpa using h)]; rfl
  · rename_i h
    rw [List.getElem?_eq_none (by simp; omega)]
theorem head_is (s : ByteArray) (q : Nat) (c : Byte) (hc : c ≠ 0) : (s.data.toList.drop (q + 1)).head? = some c ↔ (s.data.toList.drop q).getD 1 0 = c := by
  rw [head_drop]
  split
  · simp
  · rename_i h
    rw [List.getD_eq_getElem?_getD, List.getElem?_drop, List.getElem?_eq_none (by simp; omega)]
    simp; exact fun h => hc h.symm

theorem sym_no (s : ByteArray) (q : Nat) (h : q < s.size) (hf : ¬ (Lx.sign s[q] = true ∧ ¬ (s[q] = 47 ∧ (s.data.toList.drop q).getD 1 0 = 42))) : Lx.symbols (s.data.toList.drop q) = 0 := by
  rw [drop_cons s q h]
  simp only [Lx.symbols]
  rw [if_neg]
  rw [head_is s q 42 (by decide)]; exact hf
theorem sym_yes (s : ByteArray) (q : Nat) (h : q < s.size) (hf : Lx.sign s[q] = true ∧ ¬ (s[q] = 47 ∧ (s.data.toList.drop q).getD 1 0 = 42)) : Lx.symbols (s.data.toList.drop q) = Lx.symbols (s.data.toList.drop (q + 1)) + 1 := by
  rw [drop_cons s q h]
  simp only [Lx.symbols]
  rw [if_pos]
  rw [head_is s q 42 (by decide)]; exact hf
theorem sym_end (s : ByteArray) (q : Nat) (h : s.size ≤ q) : Lx.symbols (s.data.toList.drop q) = 0 := by
  rw [List.drop_of_length_le (by simpa using h)]; rfl

theorem byte_eq (a : Byte) (n : Nat) (hn : n < 256) : (((a.toNat : Int) == (n : Int)) = true) ↔ a = UInt8.ofNat n := by
  rw [beq_iff_eq]
  constructor
  · intro h
    have : a.toNat = n := by omega
    rw [← this]; simp
  · rintro rfl
    have : (UInt8.ofNat n).toNat = n % 256 := rfl
    omega

theorem byte_ne (a : Byte) (n : Nat) (hn : n < 256) (h : a ≠ UInt8.ofNat n) : (((a.toNat : Int) == (n : Int)) = false) := by
  rw [Bool.eq_false_iff]; exact fun x => h ((byte_eq a n hn).1 x)

theorem symbols_any (b : Nat) (text : ByteArray) (p : Nat) (v : Value) (w : World) (h : ScanAt w b text p v) (hp : p ≤ text.size) (hs : text.size ≤ 20000) :
    Calls Tryd.prog 34 #[.pointer (some ⟨b, 0, none⟩)] w fun e w' => e = .returned (.tuple #[]) ∧
      ScanAt w' b text (p + Lx.symbols (text.data.toList.drop p)) v ∧ Chg (· = b) w w' := by
  go_enter Tryd.func34, Tryd.ntmps34
  go_wp2
  go_loopw [] (fun wr => ∃ q, p ≤ q ∧ q ≤ text.size ∧ ScanAt wr b text q v ∧ Chg (· = b) w wr ∧ q + Lx.symbols (text.data.toList.drop q) = p + Lx.symbols (text.data.toList.drop p)) (fun wr => text.size - placeOf wr b)
  case atStart => exact ⟨p, Nat.le_refl _, hp, h, Chg.refl _ _, rfl⟩
  case round =>
    obtain ⟨q, hq1, hq2, hsc, hch, hrun⟩ := hrel
    have Hrun := Lib.hid hrun
    clear hrun
    obtain ⟨c0, c1, c2, f0, f1, f2⟩ := hsc.cells
    by_cases hlt : q < text.size
    · have hend : decide (text.size ≤ q) = false := by simpa using hlt
      have hE := ended_any b text q v
      rw [hend] at hE
      have hP0 := fun wx h => peek0 b text q v wx h hlt hs
      obtain ⟨d, hd⟩ : ∃ d, (text.data.toList.drop q).getD 1 0 = d := ⟨_, rfl⟩
      have hP1 := fun wx h => peek1 b text q v wx h (by omega) hs d hd
      have Hd := Lib.hid hd
      clear hd
      have hS := sign_any text[q]
      cases hb : Lx.sign text[q]
      · rw [hb] at hS
        have HB := Lib.hid hb
        clear hb
        go_wp2_with (first | (go_at_call 19; refine (hE _ (by exact hsc)).mono ?_; rintro e w' ⟨rfl, n1, rfl⟩) | (go_at_call_has 23 (Value.int .i64 0); refine (hP0 _ (by exact hsc)).mono ?_; rintro e w' ⟨rfl, n2, rfl⟩) | (go_at_call_has 23 (Value.int .i64 1); refine (hP1 _ (by exact hsc)).mono ?_; rintro e w' ⟨rfl, n3, rfl⟩) | (go_at_call 16; refine (hS _).mono ?_; rintro e w' ⟨rfl, rfl⟩))
        all_goals (first | go_end0 | refine bodyPost_ret (results_none rfl _ _ _) rfl ?_)
        refine ⟨rfl, ?_, by first | exact hch.drewN _ | exact hch⟩
        have hr := Hrun.out
        rw [sym_no text q hlt (by simp [HB.out])] at hr
        rw [← hr]; exact hsc
      · rw [hb] at hS
        have HB := Lib.hid hb
        clear hb
        by_cases h47 : text[q] = 47
        · have e47 : (((text[q].toNat : Int)) == 47) = true := (byte_eq _ 47 (by omega)).2 h47
          have H47 := Lib.hid h47
          clear h47
          by_cases h42 : d = 42
          · have e42 : (((d.toNat : Int)) == 42) = true := (byte_eq _ 42 (by omega)).2 h42
            have H42 := Lib.hid h42
            clear h42
            go_wp2_with (first | (go_at_call 19; refine (hE _ (by exact hsc)).mono ?_; rintro e w' ⟨rfl, n1, rfl⟩) | (go_at_call_has 23 (Value.int .i64 0); refine (hP0 _ (by exact hsc)).mono ?_; rintro e w' ⟨rfl, n2, rfl⟩) | (go_at_call_has 23 (Value.int .i64 1); refine (hP1 _ (by exact hsc)).mono ?_; rintro e w' ⟨rfl, n3, rfl⟩) | (go_at_call 16; refine (hS _).mono ?_; rintro e w' ⟨rfl, rfl⟩))
            all_goals (first | go_end0 | refine bodyPost_ret (results_none rfl _ _ _) rfl ?_)
            refine ⟨rfl, ?_, by first | exact hch.drewN _ | exact hch⟩
            have hr := Hrun.out
            rw [sym_no text q hlt (by rw [Hd.out]; exact fun h => h.2 ⟨H47.out, H42.out⟩)] at hr
            rw [← hr]; exact hsc
          · have e42 : (((d.toNat : Int)) == 42) = false := by
              rw [Bool.eq_false_iff]; exact fun h => h42 ((byte_eq _ 42 (by omega)).1 h)
            have H42 := Lib.hid h42
            clear h42
            go_wp2_with (first | (go_at_call 19; refine (hE _ (by exact hsc)).mono ?_; rintro e w' ⟨rfl, n1, rfl⟩) | (go_at_call_has 23 (Value.int .i64 0); refine (hP0 _ (by exact hsc)).mono ?_; rintro e w' ⟨rfl, n2, rfl⟩) | (go_at_call_has 23 (Value.int .i64 1); refine (hP1 _ (by exact hsc)).mono ?_; rintro e w' ⟨rfl, n3, rfl⟩) | (go_at_call 16; refine (hS _).mono ?_; rintro e w' ⟨rfl, rfl⟩))
            go_roundw
            case rel =>
              refine ⟨q + 1, by omega, by omega, (hsc.drewN _).put (q + 1), (hch.drewN _).setCell _ _ (.inr rfl), ?_⟩
              have hr := Hrun.out
              rw [sym_yes text q hlt ⟨HB.out, by rw [Hd.out]; exact fun h => H42.out h.2⟩] at hr
              omega
            case measure =>
              rw [placeOf_of hsc, show ((q : Int) + 1) = ((q + 1 : Nat) : Int) from rfl, placeOf_of ((hsc.drewN _).put (q + 1))]; omega
        · have e47 : (((text[q].toNat : Int)) == 47) = false := by
            rw [Bool.eq_false_iff]; exact fun h => h47 ((byte_eq _ 47 (by omega)).1 h)
          have H47 := Lib.hid h47
          clear h47
          go_wp2_with (first | (go_at_call 19; refine (hE _ (by exact hsc)).mono ?_; rintro e w' ⟨rfl, n1, rfl⟩) | (go_at_call_has 23 (Value.int .i64 0); refine (hP0 _ (by exact hsc)).mono ?_; rintro e w' ⟨rfl, n2, rfl⟩) | (go_at_call_has 23 (Value.int .i64 1); refine (hP1 _ (by exact hsc)).mono ?_; rintro e w' ⟨rfl, n3, rfl⟩) | (go_at_call 16; refine (hS _).mono ?_; rintro e w' ⟨rfl, rfl⟩))
          go_roundw
          case rel =>
            refine ⟨q + 1, by omega, by omega, (hsc.drewN _).put (q + 1), (hch.drewN _).setCell _ _ (.inr rfl), ?_⟩
            have hr := Hrun.out
            rw [sym_yes text q hlt ⟨HB.out, fun h => H47.out h.1⟩] at hr
            omega
          case measure =>
            rw [placeOf_of hsc, show ((q : Int) + 1) = ((q + 1 : Nat) : Int) from rfl, placeOf_of ((hsc.drewN _).put (q + 1))]; omega
    · have hend : decide (text.size ≤ q) = true := by simpa using hlt
      have hE := ended_any b text q v
      rw [hend] at hE
      go_wp2_with (first | (go_at_call 19; refine (hE _ (by exact hsc)).mono ?_; rintro e w' ⟨rfl, n1, rfl⟩))
      all_goals (first | go_end0 | refine bodyPost_ret (results_none rfl _ _ _) rfl ?_)
      refine ⟨rfl, ?_, by first | exact hch.drewN _ | exact hch⟩
      have hr := Hrun.out
      rw [sym_end text q (by omega)] at hr
      rw [← hr]; exact hsc
end Go.Proofs.YtjcnhoagccdclaaDoor
