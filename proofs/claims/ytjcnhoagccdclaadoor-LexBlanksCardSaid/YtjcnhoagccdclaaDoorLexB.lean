/-
  The scan object of lex: looking at a byte, and at the end.
-/
import Derived.Test.YtjcnhoagccdclaaDoorLexA
import Derived.LoopTactic
import Derived.Lib.Hide
namespace Go.Proofs.YtjcnhoagccdclaaDoor
open Go.RowKit
open Lx (Byte)

/-- A scan: its text, its place, the tokens so far. -/
def ScanAt (w : World) (b : Nat) (text : ByteArray) (p : Nat) (v : Value) : Prop :=
  w.heap[b]? = some (.cells #[.string text, .int .i64 (p : Int), v] 46 (0, 0))

theorem ScanAt.cells {w : World} {b : Nat} {text : ByteArray} {p : Nat} {v : Value} (h : ScanAt w b text p v) :
    w.cell? ⟨b, 0, none⟩ = some (.string text) ∧ w.cell? ⟨b, 1, none⟩ = some (.int .i64 (p : Int)) ∧ w.cell? ⟨b, 2, none⟩ = some v ∧
    w.frozen? ⟨b, 0, none⟩ = false ∧ w.frozen? ⟨b, 1, none⟩ = false ∧ w.frozen? ⟨b, 2, none⟩ = false := by
  unfold ScanAt at h
  simp [World.cell?, World.frozen?, h]

theorem getD_drop (s : ByteArray) (p n : Nat) (h : p + n < s.size) : (s.data.toList.drop p).getD n 0 = s[p + n] := by
  rw [List.getD_eq_getElem?_getD, List.getElem?_drop, List.getElem?_eq_getElem (by simpa using h)]
  rfl

theorem ended_any (b : Nat) (text : ByteArray) (p : Nat) (v : Value) (w : World) (h : ScanAt w b text p v) :
    Calls Tryd.prog 19 #[.pointer (some ⟨b, 0, none⟩)] w fun e w' => e = .returned (.bool (decide (text.size ≤ p))) ∧ ∃ n, w' = w.drewN n := by
  obtain ⟨c0, c1, c2, f0, f1, f2⟩ := h.cells
  clear h
  go_enter Tryd.func19, Tryd.ntmps19
  go_wp2
  go_quiet (fail)
  go_wp2
  all_goals (go_ret; exact ⟨rfl, _, rfl⟩)

theorem peek_any (b : Nat) (text : ByteArray) (p : Nat) (v : Value) (n : Nat) (w : World) (h : ScanAt w b text p v) (hp : p ≤ text.size) (hs : text.size ≤ 20000) (hn : n ≤ 1) :
    Calls Tryd.prog 23 #[.pointer (some ⟨b, 0, none⟩), .int .i64 (n : Int)] w fun e w' => e = .returned (.int .u8 (((text.data.toList.drop p).getD n 0).toNat : Int)) ∧ ∃ n, w' = w.drewN n := by
  obtain ⟨c0, c1, c2, f0, f1, f2⟩ := h.cells
  clear h
  by_cases hlt : (text.size : Int) - p ≤ n
  · have hz : (text.data.toList.drop p).getD n 0 = 0 := by
      rw [List.getD_eq_getElem?_getD, List.getElem?_eq_none (by simp; omega)]; rfl
    rw [hz]; clear hz
    go_enter Tryd.func23, Tryd.ntmps23
    go_wp2
    go_quiet (fail)
    go_wp2
    all_goals (go_ret; exact ⟨rfl, _, rfl⟩)
  · have h1 : (p : Int) + n < text.size := by omega
    have h0 : (0 : Int) ≤ (p : Int) + n := by omega
    have hw : IntKind.i64.wrap ((p : Int) + n) = (p : Int) + n := IntWalk.i64_in _ (by omega)
    have ht : ((p : Int) + n).toNat = p + n := by omega
    go_enter Tryd.func23, Tryd.ntmps23
    go_wp2
    go_quiet (fail)
    go_wp2
    go_quiet (fail)
    go_wp2
    all_goals (go_ret; refine ⟨?_, _, World.drewN_drewN ..⟩)
    rw [getD_drop text p n (by omega)]; rfl

/-- A scan's place, off the world. -/
def placeOf (w : World) (b : Nat) : Nat := match w.cell? ⟨b, 1, none⟩ with | some v => (intOf v).toNat | none => 0
theorem placeOf_of {w : World} {b : Nat} {text : ByteArray} {p : Nat} {v : Value} (h : ScanAt w b text p v) : placeOf w b = p := by
  simp [placeOf, h.cells.2.1, intOf]

theorem ScanAt.put {w : World} {b : Nat} {text : ByteArray} {p : Nat} {v : Value} (h : ScanAt w b text p v) (q : Nat) :
    ScanAt (w.setCell ⟨b, 1, none⟩ (.int .i64 (q : Int))) b text q v := by
  unfold ScanAt
  rw [block_setCell h]; rfl
theorem ScanAt.drewN {w : World} {b : Nat} {text : ByteArray} {p : Nat} {v : Value} (h : ScanAt w b text p v) (n : Nat) : ScanAt (w.drewN n) b text p v := h

theorem drop_cons (s : ByteArray) (q : Nat) (h : q < s.size) : s.data.toList.drop q = s[q] :: s.data.toList.drop (q + 1) := by
  rw [List.drop_eq_getElem_cons (by simpa using h)]; rfl
theorem run_drop_no {f : Byte → Bool} (s : ByteArray) (q : Nat) (h : q < s.size) (hf : f s[q] = false) : Lx.run f (s.data.toList.drop q) = 0 := by
  rw [drop_cons s q h]; simp [Lx.run, hf]
theorem run_drop_yes {f : Byte → Bool} (s : ByteArray) (q : Nat) (h : q < s.size) (hf : f s[q] = true) : Lx.run f (s.data.toList.drop q) = Lx.run f (s.data.toList.drop (q + 1)) + 1 := by
  rw [drop_cons s q h]; simp [Lx.run, hf]
theorem run_drop_end {f : Byte → Bool} (s : ByteArray) (q : Nat) (h : s.size ≤ q) : Lx.run f (s.data.toList.drop q) = 0 := by
  rw [List.drop_of_length_le (by simpa using h)]; rfl

theorem placeOf_put {w : World} {b : Nat} {text : ByteArray} {p : Nat} {v : Value} (h : ScanAt w b text p v) (q : Nat) (x : Int) (hx : x = q) : placeOf (w.setCell ⟨b, 1, none⟩ (.int .i64 x)) b = q := by
  subst hx; exact placeOf_of (h.put q)

theorem while_any (f : Byte → Bool) (F : Nat) (he : ∀ args w, (callFunc F args).run Tryd.prog w = .ok (.enter F args) w)
    (hF : ∀ (c : Byte) (w : World), Calls Tryd.prog F #[.int .u8 (c.toNat : Int)] w fun e w' => e = .returned (.bool (f c)) ∧ w = w')
    (b : Nat) (text : ByteArray) (p : Nat) (v : Value) (w : World) (h : ScanAt w b text p v) (hp : p ≤ text.size) (hs : text.size ≤ 20000) :
    Calls Tryd.prog 25 #[.pointer (some ⟨b, 0, none⟩), .func (.func F) #[] #[]] w fun e w' => e = .returned (.tuple #[]) ∧
      ScanAt w' b text (p + Lx.run f (text.data.toList.drop p)) v ∧ Chg (· = b) w w' := by
  have HF := Lib.hid hF
  clear hF
  go_enter Tryd.func25, Tryd.ntmps25
  go_wp2
  go_loopw [] (fun wr => ∃ q, p ≤ q ∧ q ≤ text.size ∧ ScanAt wr b text q v ∧ Chg (· = b) w wr ∧ q + Lx.run f (text.data.toList.drop q) = p + Lx.run f (text.data.toList.drop p)) (fun wr => text.size - placeOf wr b)
  case atStart => exact ⟨p, Nat.le_refl _, hp, h, Chg.refl _ _, rfl⟩
  case round =>
    obtain ⟨q, hq1, hq2, hsc, hch, hrun⟩ := hrel
    have Hrun := Lib.hid hrun
    clear hrun
    obtain ⟨c0, c1, c2, f0, f1, f2⟩ := hsc.cells
    by_cases hlt : q < text.size
    · have hend : decide (text.size ≤ q) = false := by simpa using hlt
      have hE := ended_any b text q v
      rw [hend] at hE
      cases hb : f text[q]
      · have H1 := HF.out text[q]
        rw [hb] at H1
        have HB := Lib.hid hb
        clear hb
        have hi0 : (0 : Int) ≤ (q : Int) := by omega
        have hi1 : (q : Int) < text.size := by omega
        go_wp2
        go_quiet (first | (go_at_call 19; exact Calls.quiet_of (hE _ hsc)) | (exact quiet_eq (H1 _)))
        go_wp2
        all_goals (first | go_end0 | refine bodyPost_ret (results_none rfl _ _ _) rfl ?_)
        refine ⟨rfl, ?_, hch.drewN _⟩
        have hr := Hrun.out
        rw [run_drop_no text q hlt HB.out] at hr
        rw [← hr]; exact hsc
      · have H1 := HF.out text[q]
        rw [hb] at H1
        have HB := Lib.hid hb
        clear hb
        have hi0 : (0 : Int) ≤ (q : Int) := by omega
        have hi1 : (q : Int) < text.size := by omega
        go_wp2
        go_quiet (first | (go_at_call 19; exact Calls.quiet_of (hE _ hsc)) | (exact quiet_eq (H1 _)))
        go_wp2
        go_roundw
        case rel =>
          refine ⟨q + 1, by omega, by omega, (hsc.drewN _).put (q + 1), (hch.drewN _).setCell _ _ (.inr rfl), ?_⟩
          have hr := Hrun.out
          rw [run_drop_yes text q hlt HB.out] at hr
          omega
        case measure =>
          rw [placeOf_of hsc]
          have h1 := placeOf_of ((hsc.drewN nq).put (q + 1))
          rw [show ((q : Int) + 1) = ((q + 1 : Nat) : Int) from rfl, h1]; omega
    · have hend : decide (text.size ≤ q) = true := by simpa using hlt
      have hE := ended_any b text q v
      rw [hend] at hE
      go_wp2
      go_quiet (first | (go_at_call 19; exact Calls.quiet_of (hE _ hsc)))
      go_wp2
      all_goals (first | go_end0 | refine bodyPost_ret (results_none rfl _ _ _) rfl ?_)
      refine ⟨rfl, ?_, hch.drewN _⟩
      have hr := Hrun.out
      rw [run_drop_end text q (by omega)] at hr
      rw [← hr]; exact hsc
end Go.Proofs.YtjcnhoagccdclaaDoor
