/-
  The scan object of lex: the walk over a token.
-/
import Derived.Test.YtjcnhoagccdclaaDoorLexI
import Derived.Test.YtjcnhoagccdclaaDoorLexF
namespace Go.Proofs.YtjcnhoagccdclaaDoor
open Go.RowKit
open Lx (Byte)

/-- A token as the program holds it, ahead of its last bit. -/
def rawVal (t : Lx.Raw) (p : Nat) : Value := .agg #[.int .i64 t.kind, .string ⟨t.text.toArray⟩, .int .i64 t.num, .int .i64 (p : Int), .bool t.quoted, .bool false]

/-- What token answers, at a place p within the text. -/
def TokenPost (b : Nat) (text : ByteArray) (p : Nat) (v : Value) (w : World) (e : Ending) (w' : World) : Prop :=
  match Lx.token (text.data.toList.drop p) with
  | .ok t => e = .returned (.tuple #[rawVal t p, .nilIface]) ∧ ScanAt w' b text (p + t.len) v ∧ Chg (· = b) w w'
  | .err c a => ∃ k s i j q r fv, e = .returned (.tuple #[.agg #[.int .i64 k, .string s, .int .i64 i, .int .i64 j, .bool q, .bool r], fv]) ∧ FaultAt w' fv c (p + a : Nat) ∧ Chg (· = b) w w'

theorem TokenPost.ok_of {b : Nat} {text : ByteArray} {p : Nat} {t : Lx.Raw} {v tv : Value} {w w' : World} (hn : Lx.token (text.data.toList.drop p) = .ok t) (ht : tv = rawVal t p) (h1 : ScanAt w' b text (p + t.len) v) (h2 : Chg (· = b) w w') :
    TokenPost b text p v w (.returned (.tuple #[tv, .nilIface])) w' := by
  subst ht; unfold TokenPost; rw [hn]; exact ⟨rfl, h1, h2⟩
theorem TokenPost.err_of {b : Nat} {text : ByteArray} {p c a : Nat} {v fv : Value} {k : Int} {s : ByteArray} {i j : Int} {q r : Bool} {w w' : World} (hn : Lx.token (text.data.toList.drop p) = .err c a) {x : Int} (h1 : FaultAt w' fv c x) (hq : x = (p + a : Nat)) (h2 : Chg (· = b) w w') :
    TokenPost b text p v w (.returned (.tuple #[.agg #[.int .i64 k, .string s, .int .i64 i, .int .i64 j, .bool q, .bool r], fv])) w' := by
  unfold TokenPost; rw [hn]; exact ⟨k, s, i, j, q, r, fv, rfl, hq ▸ h1, h2⟩

theorem punct_eq (c : Byte) : Lx.punct c = decide (0 ≤ Lib.indexByte [40, 41, 91, 93, 123, 125, 44, 124] c) := by
  rw [indexByte_mem]; unfold Lx.punct Lx.puncts; first | done | rfl

theorem cut_val (text : ByteArray) (p n : Nat) : text.extract p (p + n) = ⟨((text.data.toList.drop p).take n).toArray⟩ := by
  rw [← extract_part]
theorem cut_one (text : ByteArray) (p : Nat) : text.extract p (p + 1) = ⟨((text.data.toList.drop p).take 1).toArray⟩ := cut_val text p 1

/- What token comes to, by what the first byte is. -/
theorem token_small (s : ByteArray) (p : Nat) (h : p < s.size) (h1 : Lx.small s[p] = true) : Lx.token (s.data.toList.drop p) = .ok (Lx.plain (s.data.toList.drop p) 1 (Lx.run Lx.letter (s.data.toList.drop p))) := by
  rw [drop_cons s p h]; simp [Lx.token, h1]
theorem token_capital (s : ByteArray) (p : Nat) (h : p < s.size) (h1 : Lx.small s[p] = false) (h2 : Lx.capital s[p] = true) : Lx.token (s.data.toList.drop p) = .ok (Lx.plain (s.data.toList.drop p) 2 (Lx.run Lx.letter (s.data.toList.drop p))) := by
  rw [drop_cons s p h]; simp [Lx.token, h1, h2]
theorem token_digit (s : ByteArray) (p : Nat) (h : p < s.size) (h1 : Lx.small s[p] = false) (h2 : Lx.capital s[p] = false) (h3 : Lx.digit s[p] = true) : Lx.token (s.data.toList.drop p) = (Lx.number (s.data.toList.drop p)).map fun x => ⟨3, (s.data.toList.drop p).take x.2, x.1, false, x.2⟩ := by
  rw [drop_cons s p h]; simp [Lx.token, h1, h2, h3]
theorem token_punct (s : ByteArray) (p : Nat) (h : p < s.size) (h1 : Lx.small s[p] = false) (h2 : Lx.capital s[p] = false) (h3 : Lx.digit s[p] = false) (h4 : Lx.punct s[p] = true) : Lx.token (s.data.toList.drop p) = .ok (Lx.plain (s.data.toList.drop p) 4 1) := by
  rw [drop_cons s p h]; simp [Lx.token, h1, h2, h3, h4]
theorem token_solo (s : ByteArray) (p : Nat) (h : p < s.size) (h1 : Lx.small s[p] = false) (h2 : Lx.capital s[p] = false) (h3 : Lx.digit s[p] = false) (h4 : Lx.punct s[p] = false) (h5 : s[p] = 33 ∨ s[p] = 59) : Lx.token (s.data.toList.drop p) = .ok (Lx.plain (s.data.toList.drop p) 1 1) := by
  rw [drop_cons s p h]; simp [Lx.token, h1, h2, h3, h4, h5]
theorem token_quote (s : ByteArray) (p : Nat) (h : p < s.size) (h1 : Lx.small s[p] = false) (h2 : Lx.capital s[p] = false) (h3 : Lx.digit s[p] = false) (h4 : Lx.punct s[p] = false) (h5 : s[p] = 39) : Lx.token (s.data.toList.drop p) = (Lx.quoted 1 (s.data.toList.drop (p + 1))).map fun x => ⟨1, x.1, 0, true, x.2⟩ := by
  rw [drop_cons s p h]; simp only [Lx.token, h1, h2, h3, h4, Bool.false_eq_true, if_false]; rw [if_neg (by rw [h5]; decide), if_pos h5]
theorem token_stop (s : ByteArray) (p : Nat) (h : p < s.size) (h1 : Lx.small s[p] = false) (h2 : Lx.capital s[p] = false) (h3 : Lx.digit s[p] = false) (h4 : Lx.punct s[p] = false) (h5 : s[p] = 46) (h6 : Lx.stop (s.data.toList.drop (p + 1)) = true) : Lx.token (s.data.toList.drop p) = .ok (Lx.plain (s.data.toList.drop p) 5 1) := by
  rw [drop_cons s p h]; simp only [Lx.token, h1, h2, h3, h4, Bool.false_eq_true, if_false]; rw [if_neg (by rw [h5]; decide), if_neg (by rw [h5]; decide), if_pos ⟨h5, h6⟩]
theorem token_sign (s : ByteArray) (p : Nat) (h : p < s.size) (h1 : Lx.small s[p] = false) (h2 : Lx.capital s[p] = false) (h3 : Lx.digit s[p] = false) (h4 : Lx.punct s[p] = false) (h5 : ¬ (s[p] = 33 ∨ s[p] = 59)) (h6 : ¬ s[p] = 39) (h7 : ¬ (s[p] = 46 ∧ Lx.stop (s.data.toList.drop (p + 1)) = true)) (h8 : Lx.sign s[p] = true) : Lx.token (s.data.toList.drop p) = .ok (Lx.plain (s.data.toList.drop p) 1 (Lx.symbols (s.data.toList.drop p))) := by
  rw [drop_cons s p h]; simp only [Lx.token, h1, h2, h3, h4, Bool.false_eq_true, if_false]; rw [if_neg h5, if_neg h6, if_neg h7, if_pos h8]
theorem token_none (s : ByteArray) (p : Nat) (h : p < s.size) (h1 : Lx.small s[p] = false) (h2 : Lx.capital s[p] = false) (h3 : Lx.digit s[p] = false) (h4 : Lx.punct s[p] = false) (h5 : ¬ (s[p] = 33 ∨ s[p] = 59)) (h6 : ¬ s[p] = 39) (h7 : ¬ (s[p] = 46 ∧ Lx.stop (s.data.toList.drop (p + 1)) = true)) (h8 : Lx.sign s[p] = false) : Lx.token (s.data.toList.drop p) = .err 80 0 := by
  rw [drop_cons s p h]; simp only [Lx.token, h1, h2, h3, h4, Bool.false_eq_true, if_false]; rw [if_neg h5, if_neg h6, if_neg h7, h8]; rfl
theorem stop_end (s : ByteArray) (p : Nat) (h : s.size ≤ p) : Lx.stop (s.data.toList.drop p) = true := by
  rw [List.drop_of_length_le (by simpa using h)]; rfl
theorem stop_at (s : ByteArray) (p : Nat) (h : p < s.size) : Lx.stop (s.data.toList.drop p) = (Lx.blank s[p] || s[p] == 37) := by
  rw [drop_cons s p h]; rfl

theorem symbols_le (s : List Byte) : Lx.symbols s ≤ s.length := by
  induction s with
  | nil => simp [Lx.symbols]
  | cons c r ih => simp only [Lx.symbols]; split <;> simp <;> omega

theorem ScanAt.alloc {w : World} {b : Nat} {text : ByteArray} {p : Nat} {v : Value} (h : ScanAt w b text p v) (o : Obj) : ScanAt (w.alloc o) b text p v :=
  ((Chg.refl (fun _ => False) w).alloc o).keeps h (fun x => x)

/-- The token that is being made: its six cells. -/
def TAt (w : World) (K : Nat) (a0 a1 a2 a3 a4 a5 : Value) : Prop := w.heap[K]? = some (.cells #[a0, a1, a2, a3, a4, a5] 29 (0, 0))
theorem TAt.cells {w : World} {K : Nat} {a0 a1 a2 a3 a4 a5 : Value} (h : TAt w K a0 a1 a2 a3 a4 a5) : w.cell? ⟨K, 0, none⟩ = some a0 ∧ w.cell? ⟨K, 1, none⟩ = some a1 ∧ w.cell? ⟨K, 2, none⟩ = some a2 ∧ w.cell? ⟨K, 3, none⟩ = some a3 ∧ w.cell? ⟨K, 4, none⟩ = some a4 ∧ w.cell? ⟨K, 5, none⟩ = some a5 :=
  ⟨cell_block h 0, cell_block h 1, cell_block h 2, cell_block h 3, cell_block h 4, cell_block h 5⟩
theorem TAt.free {w : World} {K : Nat} {a0 a1 a2 a3 a4 a5 : Value} (h : TAt w K a0 a1 a2 a3 a4 a5) : w.frozen? ⟨K, 0, none⟩ = false ∧ w.frozen? ⟨K, 1, none⟩ = false ∧ w.frozen? ⟨K, 2, none⟩ = false ∧ w.frozen? ⟨K, 3, none⟩ = false ∧ w.frozen? ⟨K, 4, none⟩ = false ∧ w.frozen? ⟨K, 5, none⟩ = false :=
  ⟨free_block h 0, free_block h 1, free_block h 2, free_block h 3, free_block h 4, free_block h 5⟩

-- (printed by mktoken.py from here on)
theorem Chg.six {S : Nat → Prop} {w w1 : World} (h : Chg S w w1) {K : Nat} (hK : w.heap.size ≤ K) {a0 a1 a2 a3 a4 a5 : Value} : Chg S w ((((((w1.setCell ⟨K, 0, none⟩ a0).setCell ⟨K, 1, none⟩ a1).setCell ⟨K, 2, none⟩ a2).setCell ⟨K, 3, none⟩ a3).setCell ⟨K, 4, none⟩ a4).setCell ⟨K, 5, none⟩ a5) :=
  (((((h.setCell ⟨K, 0, none⟩ a0 (.inl hK)).setCell ⟨K, 1, none⟩ a1 (.inl hK)).setCell ⟨K, 2, none⟩ a2 (.inl hK)).setCell ⟨K, 3, none⟩ a3 (.inl hK)).setCell ⟨K, 4, none⟩ a4 (.inl hK)).setCell ⟨K, 5, none⟩ a5 (.inl hK)
theorem ScanAt.aside {w : World} {b : Nat} {text : ByteArray} {p : Nat} {v : Value} (h : ScanAt w b text p v) {K : Nat} (hK : ¬ b = K) (j : Nat) (x : Value) : ScanAt (w.setCell ⟨K, j, none⟩ x) b text p v :=
  ((Chg.refl (· = K) w).put j x).keeps h hK
theorem ScanAt.six {w : World} {b : Nat} {text : ByteArray} {p : Nat} {v : Value} (h : ScanAt w b text p v) {K : Nat} (hK : ¬ b = K) {a0 a1 a2 a3 a4 a5 : Value} : ScanAt ((((((w.setCell ⟨K, 0, none⟩ a0).setCell ⟨K, 1, none⟩ a1).setCell ⟨K, 2, none⟩ a2).setCell ⟨K, 3, none⟩ a3).setCell ⟨K, 4, none⟩ a4).setCell ⟨K, 5, none⟩ a5) b text p v :=
  (((((h.aside hK 0 a0).aside hK 1 a1).aside hK 2 a2).aside hK 3 a3).aside hK 4 a4).aside hK 5 a5
theorem TAt.six {w : World} {K : Nat} {a0 a1 a2 a3 a4 a5 b0 b1 b2 b3 b4 b5 : Value} (h : TAt w K a0 a1 a2 a3 a4 a5) : TAt ((((((w.setCell ⟨K, 0, none⟩ b0).setCell ⟨K, 1, none⟩ b1).setCell ⟨K, 2, none⟩ b2).setCell ⟨K, 3, none⟩ b3).setCell ⟨K, 4, none⟩ b4).setCell ⟨K, 5, none⟩ b5) K b0 b1 b2 b3 b4 b5 := by
  have h1 := block_setCell h (j := 0) b0
  have h2 := block_setCell h1 (j := 1) b1
  have h3 := block_setCell h2 (j := 2) b2
  have h4 := block_setCell h3 (j := 3) b3
  have h5 := block_setCell h4 (j := 4) b4
  exact block_setCell h5 (j := 5) b5
theorem TAt.kind {w : World} {K : Nat} {a0 a1 a2 a3 a4 a5 : Value} (h : TAt w K a0 a1 a2 a3 a4 a5) (k : Int) : TAt (w.setCell ⟨K, 0, none⟩ (.int .i64 k)) K (.int .i64 k) a1 a2 a3 a4 a5 := block_setCell h (j := 0) _
theorem TAt.text {w : World} {K : Nat} {a0 a1 a2 a3 a4 a5 : Value} (h : TAt w K a0 a1 a2 a3 a4 a5) (s : ByteArray) : TAt (w.setCell ⟨K, 1, none⟩ (.string s)) K a0 (.string s) a2 a3 a4 a5 := block_setCell h (j := 1) _
theorem TAt.num {w : World} {K : Nat} {a0 a1 a2 a3 a4 a5 : Value} (h : TAt w K a0 a1 a2 a3 a4 a5) (i : Int) : TAt (w.setCell ⟨K, 2, none⟩ (.int .i64 i)) K a0 a1 (.int .i64 i) a3 a4 a5 := block_setCell h (j := 2) _
theorem TAt.apart {w : World} {K b : Nat} {a0 a1 a2 a3 a4 a5 : Value} (h : TAt w K a0 a1 a2 a3 a4 a5) (hK : ¬ K = b) (j : Nat) (x : Value) : TAt (w.setCell ⟨b, j, none⟩ x) K a0 a1 a2 a3 a4 a5 :=
  ((Chg.refl (· = b) w).put j x).keeps h hK
theorem tok_size : (Tryd.prog.info? 29).map (·.size) = some 6 := by kernel_rfl
theorem tok_ret {a : Act} {w : World} {K : Nat} {a0 a1 a2 a3 a4 a5 : Value} {R : Ending → World → Prop} (hT : TAt w K a0 a1 a2 a3 a4 a5) (hp : a.tmps.getD 2 undef = .pointer (some ⟨K, 0, none⟩)) (hd : a.defers = [])
    (hR : R (.returned (.tuple #[.agg #[a0, a1, a2, a3, a4, a5], a.tmps.getD 3 undef])) w) : bodyPost Tryd.prog Tryd.f20 R .ret a w := by
  refine bodyPost_ret ?_ hd hR
  rw [results_cell_tmp rfl, hp]
  simp only [asAddr, Sem.run_pure, Result.andThen_ok, run_loadVar_row w K _ _ _ _ _ hT Tryd.underlying29 rfl tok_size]
theorem TAt.drew {w : World} {K : Nat} {a0 a1 a2 a3 a4 a5 : Value} (h : TAt w K a0 a1 a2 a3 a4 a5) : TAt w.drew K a0 a1 a2 a3 a4 a5 := h
theorem wp_settle {P : Program} {c : Code} {Q : Exit → Act → World → Prop} {a : Act} {w0 w : World} {S : Nat → Prop} {K b q : Nat} {text : ByteArray} {v a0 a1 a2 a3 a4 a5 : Value} (hT : TAt w K a0 a1 a2 a3 a4 a5) (hS : ScanAt w b text q v) (hC : Chg S w0 w)
    (h : ∀ w3, TAt w3 K a0 a1 a2 a3 a4 a5 → ScanAt w3 b text q v → Chg S w0 w3 → c.wp P Q a w3) : c.wp P Q a w := h w hT hS hC
theorem ScanAt.drew {w : World} {b : Nat} {text : ByteArray} {p : Nat} {v : Value} (h : ScanAt w b text p v) : ScanAt w.drew b text p v := h
theorem TokenPost.plain_ok {b : Nat} {text : ByteArray} {p n : Nat} {k : Int} {v : Value} {w w' : World} (hn : Lx.token (text.data.toList.drop p) = .ok (Lx.plain (text.data.toList.drop p) k n)) (h1 : ScanAt w' b text (p + n) v) (h2 : Chg (· = b) w w') :
    TokenPost b text p v w (.returned (.tuple #[.agg #[.int .i64 k, .string (text.extract p (p + n)), .int .i64 0, .int .i64 (p : Int), .bool false, .bool false], .nilIface])) w' := by
  refine TokenPost.ok_of hn ?_ h1 h2
  rw [cut_val]
  unfold rawVal Lx.plain
  rfl
theorem FaultAt.aside {w : World} {fv : Value} {c a : Int} (h : FaultAt w fv c a) {K : Nat} {a0 a1 a2 a3 a4 a5 : Value} (hT : TAt w K a0 a1 a2 a3 a4 a5) (j : Nat) (x : Value) : FaultAt (w.setCell ⟨K, j, none⟩ x) fv c a := by
  obtain ⟨N, h1, h2⟩ := h
  refine ⟨N, h1, ((Chg.refl (· = K) w).put j x).keeps h2 ?_⟩
  rintro rfl
  have := h2.symm.trans hT
  simp at this
theorem FaultAt.six {w : World} {fv : Value} {c a : Int} (h : FaultAt w fv c a) {K : Nat} {a0 a1 a2 a3 a4 a5 b0 b1 b2 b3 b4 b5 : Value} (hT : TAt w K a0 a1 a2 a3 a4 a5) : FaultAt ((((((w.setCell ⟨K, 0, none⟩ b0).setCell ⟨K, 1, none⟩ b1).setCell ⟨K, 2, none⟩ b2).setCell ⟨K, 3, none⟩ b3).setCell ⟨K, 4, none⟩ b4).setCell ⟨K, 5, none⟩ b5) fv c a := by
  have h1 : TAt (w.setCell ⟨K, 0, none⟩ b0) K b0 a1 a2 a3 a4 a5 := block_setCell hT (j := 0) b0
  have h2 : TAt ((w.setCell ⟨K, 0, none⟩ b0).setCell ⟨K, 1, none⟩ b1) K b0 b1 a2 a3 a4 a5 := block_setCell h1 (j := 1) b1
  have h3 : TAt (((w.setCell ⟨K, 0, none⟩ b0).setCell ⟨K, 1, none⟩ b1).setCell ⟨K, 2, none⟩ b2) K b0 b1 b2 a3 a4 a5 := block_setCell h2 (j := 2) b2
  have h4 : TAt ((((w.setCell ⟨K, 0, none⟩ b0).setCell ⟨K, 1, none⟩ b1).setCell ⟨K, 2, none⟩ b2).setCell ⟨K, 3, none⟩ b3) K b0 b1 b2 b3 a4 a5 := block_setCell h3 (j := 3) b3
  have h5 : TAt (((((w.setCell ⟨K, 0, none⟩ b0).setCell ⟨K, 1, none⟩ b1).setCell ⟨K, 2, none⟩ b2).setCell ⟨K, 3, none⟩ b3).setCell ⟨K, 4, none⟩ b4) K b0 b1 b2 b3 b4 a5 := block_setCell h4 (j := 4) b4
  exact (((((h.aside hT 0 b0).aside h1 1 b1).aside h2 2 b2).aside h3 3 b3).aside h4 4 b4).aside h5 5 b5
theorem FaultAt.drew {w : World} {fv : Value} {c a : Int} (h : FaultAt w fv c a) : FaultAt w.drew fv c a := h
theorem TAt.drewN {w : World} {K : Nat} {a0 a1 a2 a3 a4 a5 : Value} (h : TAt w K a0 a1 a2 a3 a4 a5) (n : Nat) : TAt (w.drewN n) K a0 a1 a2 a3 a4 a5 := h
theorem wp_settleF {P : Program} {c : Code} {Q : Exit → Act → World → Prop} {a : Act} {w0 w : World} {S : Nat → Prop} {K b q : Nat} {text : ByteArray} {v fv a0 a1 a2 a3 a4 a5 : Value} {cd ca : Int} (hF : FaultAt w fv cd ca) (hT : TAt w K a0 a1 a2 a3 a4 a5) (hS : ScanAt w b text q v) (hC : Chg S w0 w)
    (h : ∀ w3, FaultAt w3 fv cd ca → TAt w3 K a0 a1 a2 a3 a4 a5 → ScanAt w3 b text q v → Chg S w0 w3 → c.wp P Q a w3) : c.wp P Q a w := h w hF hT hS hC
/- How long what was read is. -/
theorem code_le {s : List Byte} {i : Int} {n : Nat} (h : Lx.code s = .ok (i, n)) : n ≤ s.length + 2 ∧ 0 < n := by
  unfold Lx.code at h
  repeat' split at h
  all_goals (try simp at h)
  all_goals (obtain ⟨_, rfl⟩ := h; simp)
theorem number_le {s : List Byte} {i : Int} {n : Nat} (h : Lx.number s = .ok (i, n)) : n ≤ s.length := by
  unfold Lx.number at h
  split at h
  · rename_i hc
    have h1 := code_le h
    cases s with
    | nil => simp at hc
    | cons c r =>
      cases r with
      | nil => simp at hc
      | cons d r => simpa using h1.1
  · have h2 := Lx.run_le Lx.digit s
    simp only at h
    split at h
    · simp at h; omega
    · simp at h
theorem TAt.quote {w : World} {K : Nat} {a0 a1 a2 a3 a4 a5 : Value} (h : TAt w K a0 a1 a2 a3 a4 a5) (k : Bool) : TAt (w.setCell ⟨K, 4, none⟩ (.bool k)) K a0 a1 a2 a3 (.bool k) a5 := block_setCell h (j := 4) _

set_option maxRecDepth 100000 in
set_option maxHeartbeats 40000000 in
theorem token_any (b : Nat) (text : ByteArray) (p : Nat) (v : Value) (w : World) (h : ScanAt w b text p v) (hp : p < text.size) (hs : text.size ≤ 20000)
    (hr : ErrRangeAt w) (hb : b ≠ 1) :
    Calls Tryd.prog 20 #[.pointer (some ⟨b, 0, none⟩)] w (TokenPost b text p v w) := by
  have hP0 := fun wx h => peek0 b text p v wx h hp hs
  have hSm := small_any text[p]
  have hlt := lt_of_block h
  have hne : ¬ (w.heap.size = b) := by omega
  have hne' : ¬ (b = w.heap.size) := by omega
  have hx0 : (0 : Int) ≤ p := by omega
  cases h1 : Lx.small text[p] with
  | true =>
    rw [h1] at hSm
    have H1 := Lib.hid h1
    clear h1
    have hrun : Lx.run Lx.letter (text.data.toList.drop p) ≤ text.size - p := by
      have := Lx.run_le Lx.letter (text.data.toList.drop p); simpa using this
    have hW := fun wx h => while_any Lx.letter 29 enters_letter letter_any b text p v wx h (by omega) hs
    generalize hn : Lx.run Lx.letter (text.data.toList.drop p) = n at *
    have Hn := Lib.hid hn
    clear hn
    have hx1 : (p : Int) ≤ (p : Int) + n := by omega
    have hx2 : (p : Int) + n ≤ text.size := by omega
    have hx3 : ((p : Int) + n).toNat = p + n := by omega
    go_enter Tryd.func20, Tryd.ntmps20
    go_wp2_with (first | (go_at_call_has 23 (Value.int .i64 0); refine (hP0 _ (by exact h.alloc _)).mono ?_; rintro e w1 ⟨rfl, n2, hw1⟩; have hch1 : Chg (· = b) w w1 := (by subst hw1; exact ((Chg.refl _ _).alloc _).drewN _); obtain ⟨hsc1, hT1⟩ : ScanAt w1 b text p v ∧ TAt w1 w.heap.size (.int .i64 0) (.string ⟨#[]⟩) (.int .i64 0) (.int .i64 0) (.bool false) (.bool false) := (by subst hw1; exact ⟨(h.alloc _).drewN _, heap_alloc_new w _⟩); obtain ⟨d0, d1, d2, g0, g1, g2⟩ := hsc1.cells; obtain ⟨t0, t1, t2, t3, t4, t5⟩ := hT1.cells; obtain ⟨u0, u1, u2, u3, u4, u5⟩ := hT1.free; clear hw1) | (go_at_call 28; refine (hSm _).mono ?_; rintro e w2 ⟨rfl, hw2⟩; have hch2 : Chg (· = b) w w2 := (by subst hw2; exact hch1.six (Nat.le_refl _)); obtain ⟨hsc2, hT2⟩ : ScanAt w2 b text p v ∧ TAt w2 w.heap.size (.int .i64 1) (.string ⟨#[]⟩) (.int .i64 0) (.int .i64 (p : Int)) (.bool false) (.bool false) := (by subst hw2; exact ⟨hsc1.six hne', hT1.six⟩); clear hw2 d0 d1 d2 g0 g1 g2 t0 t1 t2 t3 t4 t5 u0 u1 u2 u3 u4 u5; obtain ⟨d0, d1, d2, g0, g1, g2⟩ := hsc2.cells; obtain ⟨t0, t1, t2, t3, t4, t5⟩ := hT2.cells; obtain ⟨u0, u1, u2, u3, u4, u5⟩ := hT2.free) | (go_at_call 25; refine (hW _ (by exact hsc2)).mono ?_; rintro e w3 ⟨rfl, hsc3, hch3⟩; have hT3 := hch3.keeps (hT2) hne; clear d0 d1 d2 g0 g1 g2 t0 t1 t2 t3 t4 t5 u0 u1 u2 u3 u4 u5; obtain ⟨d0, d1, d2, g0, g1, g2⟩ := hsc3.cells; obtain ⟨t0, t1, t2, t3, t4, t5⟩ := TAt.cells hT3; obtain ⟨u0, u1, u2, u3, u4, u5⟩ := TAt.free hT3))
    go_still_tail 10, (by kernel_rfl)
    all_goals go_wp2
    try simp only [Exit.inBlock, Exit.then]
    refine tok_ret (TAt.six (TAt.text hT3 _)).drew rfl rfl ?_
    exact TokenPost.plain_ok (by rw [← Hn.out]; exact token_small text p hp H1.out) (ScanAt.drew ((hsc3.aside hne' _ _).six hne')) ((((hch2.trans hch3).setCell ⟨w.heap.size, 1, none⟩ _ (.inl (Nat.le_refl _))).six (Nat.le_refl _)).drew)
  | false =>
    rw [h1] at hSm
    have H1 := Lib.hid h1
    clear h1
    have hCa := capital_any text[p]
    cases h2 : Lx.capital text[p] with
    | true =>
      rw [h2] at hCa
      have H2 := Lib.hid h2
      clear h2
      have hrun : Lx.run Lx.letter (text.data.toList.drop p) ≤ text.size - p := by
        have := Lx.run_le Lx.letter (text.data.toList.drop p); simpa using this
      have hW := fun wx h => while_any Lx.letter 29 enters_letter letter_any b text p v wx h (by omega) hs
      generalize hn : Lx.run Lx.letter (text.data.toList.drop p) = n at *
      have Hn := Lib.hid hn
      clear hn
      have hx1 : (p : Int) ≤ (p : Int) + n := by omega
      have hx2 : (p : Int) + n ≤ text.size := by omega
      have hx3 : ((p : Int) + n).toNat = p + n := by omega
      go_enter Tryd.func20, Tryd.ntmps20
      go_wp2_with (first | (go_at_call_has 23 (Value.int .i64 0); refine (hP0 _ (by exact h.alloc _)).mono ?_; rintro e w1 ⟨rfl, n2, hw1⟩; have hch1 : Chg (· = b) w w1 := (by subst hw1; exact ((Chg.refl _ _).alloc _).drewN _); obtain ⟨hsc1, hT1⟩ : ScanAt w1 b text p v ∧ TAt w1 w.heap.size (.int .i64 0) (.string ⟨#[]⟩) (.int .i64 0) (.int .i64 0) (.bool false) (.bool false) := (by subst hw1; exact ⟨(h.alloc _).drewN _, heap_alloc_new w _⟩); obtain ⟨d0, d1, d2, g0, g1, g2⟩ := hsc1.cells; obtain ⟨t0, t1, t2, t3, t4, t5⟩ := hT1.cells; obtain ⟨u0, u1, u2, u3, u4, u5⟩ := hT1.free; clear hw1) | (go_at_call 28; refine (hSm _).mono ?_; rintro e w2 ⟨rfl, hw2⟩; have hch2 : Chg (· = b) w w2 := (by subst hw2; exact hch1.six (Nat.le_refl _)); obtain ⟨hsc2, hT2⟩ : ScanAt w2 b text p v ∧ TAt w2 w.heap.size (.int .i64 1) (.string ⟨#[]⟩) (.int .i64 0) (.int .i64 (p : Int)) (.bool false) (.bool false) := (by subst hw2; exact ⟨hsc1.six hne', hT1.six⟩); clear hw2 d0 d1 d2 g0 g1 g2 t0 t1 t2 t3 t4 t5 u0 u1 u2 u3 u4 u5; obtain ⟨d0, d1, d2, g0, g1, g2⟩ := hsc2.cells; obtain ⟨t0, t1, t2, t3, t4, t5⟩ := hT2.cells; obtain ⟨u0, u1, u2, u3, u4, u5⟩ := hT2.free) | (go_at_call 30; refine (hCa _).mono ?_; rintro e w' ⟨rfl, rfl⟩) | (go_at_call 25; refine (hW _ (by exact hsc2.aside hne' _ _)).mono ?_; rintro e w3 ⟨rfl, hsc3, hch3⟩; have hT3 := hch3.keeps (hT2.kind 2) hne; clear d0 d1 d2 g0 g1 g2 t0 t1 t2 t3 t4 t5 u0 u1 u2 u3 u4 u5; obtain ⟨d0, d1, d2, g0, g1, g2⟩ := hsc3.cells; obtain ⟨t0, t1, t2, t3, t4, t5⟩ := TAt.cells hT3; obtain ⟨u0, u1, u2, u3, u4, u5⟩ := TAt.free hT3))
      go_still_tail 10, (by kernel_rfl)
      all_goals go_wp2
      try simp only [Exit.inBlock, Exit.then]
      refine tok_ret (TAt.six (TAt.text hT3 _)).drew rfl rfl ?_
      exact TokenPost.plain_ok (by rw [← Hn.out]; exact token_capital text p hp H1.out H2.out) (ScanAt.drew ((hsc3.aside hne' _ _).six hne')) (((((hch2.setCell ⟨w.heap.size, 0, none⟩ _ (.inl (Nat.le_refl _))).trans hch3).setCell ⟨w.heap.size, 1, none⟩ _ (.inl (Nat.le_refl _))).six (Nat.le_refl _)).drew)
    | false =>
      rw [h2] at hCa
      have H2 := Lib.hid h2
      clear h2
      have hDi := digit_any text[p]
      cases h3 : Lx.digit text[p] with
      | true =>
        rw [h3] at hDi
        have H3 := Lib.hid h3
        have hNu := fun wx h hr => number_any b text p v wx h hp hs h3 hr hb
        clear h3
        unfold NumberPost at hNu
        cases hN : Lx.number (text.data.toList.drop p) with
        | ok x =>
          obtain ⟨i, n⟩ := x
          have hle := number_le hN
          rw [hN] at hNu
          have hN' := token_digit text p hp H1.out H2.out H3.out
          rw [hN] at hN'
          have HN := Lib.hid hN'
          clear hN hN'
          have hx1 : (p : Int) ≤ (p : Int) + n := by omega
          have hx2 : (p : Int) + n ≤ text.size := by simp at hle; omega
          have hx3 : ((p : Int) + n).toNat = p + n := by omega
          go_enter Tryd.func20, Tryd.ntmps20
          go_wp2_with (first | (go_at_call_has 23 (Value.int .i64 0); refine (hP0 _ (by exact h.alloc _)).mono ?_; rintro e w1 ⟨rfl, n2, hw1⟩; have hch1 : Chg (· = b) w w1 := (by subst hw1; exact ((Chg.refl _ _).alloc _).drewN _); obtain ⟨hsc1, hT1⟩ : ScanAt w1 b text p v ∧ TAt w1 w.heap.size (.int .i64 0) (.string ⟨#[]⟩) (.int .i64 0) (.int .i64 0) (.bool false) (.bool false) := (by subst hw1; exact ⟨(h.alloc _).drewN _, heap_alloc_new w _⟩); obtain ⟨d0, d1, d2, g0, g1, g2⟩ := hsc1.cells; obtain ⟨t0, t1, t2, t3, t4, t5⟩ := hT1.cells; obtain ⟨u0, u1, u2, u3, u4, u5⟩ := hT1.free; clear hw1) | (go_at_call 28; refine (hSm _).mono ?_; rintro e w2 ⟨rfl, hw2⟩; have hch2 : Chg (· = b) w w2 := (by subst hw2; exact hch1.six (Nat.le_refl _)); obtain ⟨hsc2, hT2⟩ : ScanAt w2 b text p v ∧ TAt w2 w.heap.size (.int .i64 1) (.string ⟨#[]⟩) (.int .i64 0) (.int .i64 (p : Int)) (.bool false) (.bool false) := (by subst hw2; exact ⟨hsc1.six hne', hT1.six⟩); clear hw2 d0 d1 d2 g0 g1 g2 t0 t1 t2 t3 t4 t5 u0 u1 u2 u3 u4 u5; obtain ⟨d0, d1, d2, g0, g1, g2⟩ := hsc2.cells; obtain ⟨t0, t1, t2, t3, t4, t5⟩ := hT2.cells; obtain ⟨u0, u1, u2, u3, u4, u5⟩ := hT2.free) | (go_at_call 30; refine (hCa _).mono ?_; rintro e w' ⟨rfl, rfl⟩) | (go_at_call 31; refine (hDi _).mono ?_; rintro e w' ⟨rfl, rfl⟩) | (go_at_call 32; refine (hNu _ (by exact hsc2.aside hne' _ _) (hr.chg (hch2.setCell ⟨w.heap.size, 0, none⟩ _ (.inl (Nat.le_refl _))) hb)).mono ?_; rintro e w3 ⟨rfl, hsc3, hch3⟩; have hT3 := hch3.keeps (hT2.kind 3) hne; clear d0 d1 d2 g0 g1 g2 t0 t1 t2 t3 t4 t5 u0 u1 u2 u3 u4 u5; obtain ⟨d0, d1, d2, g0, g1, g2⟩ := hsc3.cells; obtain ⟨t0, t1, t2, t3, t4, t5⟩ := TAt.cells hT3; obtain ⟨u0, u1, u2, u3, u4, u5⟩ := TAt.free hT3))
          refine wp_settle (q := p + n) (TAt.num hT3 _) (hsc3.aside hne' _ _) (((hch2.setCell ⟨w.heap.size, 0, none⟩ _ (.inl (Nat.le_refl _))).trans hch3).setCell ⟨w.heap.size, 2, none⟩ _ (.inl (Nat.le_refl _))) ?_
          intro w4 hT3 hsc3 hch3
          (clear d0 d1 d2 g0 g1 g2 t0 t1 t2 t3 t4 t5 u0 u1 u2 u3 u4 u5; obtain ⟨d0, d1, d2, g0, g1, g2⟩ := hsc3.cells; obtain ⟨t0, t1, t2, t3, t4, t5⟩ := TAt.cells hT3; obtain ⟨u0, u1, u2, u3, u4, u5⟩ := TAt.free hT3)
          go_still_tail 10, (by kernel_rfl)
          all_goals go_wp2
          try simp only [Exit.inBlock, Exit.then]
          refine tok_ret (TAt.six (TAt.text hT3 _)).drew rfl rfl ?_
          exact TokenPost.ok_of HN.out (by rw [cut_val]; rfl) (ScanAt.drew ((hsc3.aside hne' _ _).six hne')) ((hch3.setCell ⟨w.heap.size, 1, none⟩ _ (.inl (Nat.le_refl _))).six (Nat.le_refl _)).drew
        | err c a =>
          rw [hN] at hNu
          have hN' := token_digit text p hp H1.out H2.out H3.out
          rw [hN] at hN'
          have HN := Lib.hid hN'
          clear hN hN'
          go_enter Tryd.func20, Tryd.ntmps20
          go_wp2_with (first | (go_at_call_has 23 (Value.int .i64 0); refine (hP0 _ (by exact h.alloc _)).mono ?_; rintro e w1 ⟨rfl, n2, hw1⟩; have hch1 : Chg (· = b) w w1 := (by subst hw1; exact ((Chg.refl _ _).alloc _).drewN _); obtain ⟨hsc1, hT1⟩ : ScanAt w1 b text p v ∧ TAt w1 w.heap.size (.int .i64 0) (.string ⟨#[]⟩) (.int .i64 0) (.int .i64 0) (.bool false) (.bool false) := (by subst hw1; exact ⟨(h.alloc _).drewN _, heap_alloc_new w _⟩); obtain ⟨d0, d1, d2, g0, g1, g2⟩ := hsc1.cells; obtain ⟨t0, t1, t2, t3, t4, t5⟩ := hT1.cells; obtain ⟨u0, u1, u2, u3, u4, u5⟩ := hT1.free; clear hw1) | (go_at_call 28; refine (hSm _).mono ?_; rintro e w2 ⟨rfl, hw2⟩; have hch2 : Chg (· = b) w w2 := (by subst hw2; exact hch1.six (Nat.le_refl _)); obtain ⟨hsc2, hT2⟩ : ScanAt w2 b text p v ∧ TAt w2 w.heap.size (.int .i64 1) (.string ⟨#[]⟩) (.int .i64 0) (.int .i64 (p : Int)) (.bool false) (.bool false) := (by subst hw2; exact ⟨hsc1.six hne', hT1.six⟩); clear hw2 d0 d1 d2 g0 g1 g2 t0 t1 t2 t3 t4 t5 u0 u1 u2 u3 u4 u5; obtain ⟨d0, d1, d2, g0, g1, g2⟩ := hsc2.cells; obtain ⟨t0, t1, t2, t3, t4, t5⟩ := hT2.cells; obtain ⟨u0, u1, u2, u3, u4, u5⟩ := hT2.free) | (go_at_call 30; refine (hCa _).mono ?_; rintro e w' ⟨rfl, rfl⟩) | (go_at_call 31; refine (hDi _).mono ?_; rintro e w' ⟨rfl, rfl⟩) | (go_at_call 32; refine (hNu _ (by exact hsc2.aside hne' _ _) (hr.chg (hch2.setCell ⟨w.heap.size, 0, none⟩ _ (.inl (Nat.le_refl _))) hb)).mono ?_; rintro e w3 ⟨fv, rfl, hf, hch3, q, hx4, hx5, hsc3⟩; have hT3 := hch3.keeps (hT2.kind 3) hne; clear d0 d1 d2 g0 g1 g2 t0 t1 t2 t3 t4 t5 u0 u1 u2 u3 u4 u5; obtain ⟨d0, d1, d2, g0, g1, g2⟩ := hsc3.cells; obtain ⟨t0, t1, t2, t3, t4, t5⟩ := TAt.cells hT3; obtain ⟨u0, u1, u2, u3, u4, u5⟩ := TAt.free hT3))
          have hx1 : (p : Int) ≤ (q : Int) := by omega
          have hx2 : (q : Int) ≤ text.size := by omega
          have hx3 : (q : Int).toNat = q := by omega
          have hf := hf.aside hT3 2 (.int .i64 0)
          refine wp_settleF (q := q) hf (TAt.num hT3 _) (hsc3.aside hne' _ _) (((hch2.setCell ⟨w.heap.size, 0, none⟩ _ (.inl (Nat.le_refl _))).trans hch3).setCell ⟨w.heap.size, 2, none⟩ _ (.inl (Nat.le_refl _))) ?_
          clear hf
          intro w4 hf hT3 hsc3 hch3
          (clear d0 d1 d2 g0 g1 g2 t0 t1 t2 t3 t4 t5 u0 u1 u2 u3 u4 u5; obtain ⟨d0, d1, d2, g0, g1, g2⟩ := hsc3.cells; obtain ⟨t0, t1, t2, t3, t4, t5⟩ := TAt.cells hT3; obtain ⟨u0, u1, u2, u3, u4, u5⟩ := TAt.free hT3)
          go_still_tail 10, (by kernel_rfl)
          all_goals go_wp2
          try simp only [Exit.inBlock, Exit.then]
          refine tok_ret (TAt.six (TAt.text hT3 _)).drew rfl rfl ?_
          exact TokenPost.err_of (a := a) HN.out ((hf.aside hT3 _ _).six (TAt.text hT3 _)).drew rfl ((hch3.setCell ⟨w.heap.size, 1, none⟩ _ (.inl (Nat.le_refl _))).six (Nat.le_refl _)).drew
      | false =>
        rw [h3] at hDi
        have H3 := Lib.hid h3
        clear h3
        have hPu := fun wx => Tryd.strings_IndexByte ⟨#[40, 41, 91, 93, 123, 125, 44, 124]⟩ (text[p].toNat : Int) wx
        rw [u8_back] at hPu
        have hpu := punct_eq text[p]
        generalize Lib.indexByte [40, 41, 91, 93, 123, 125, 44, 124] text[p] = ix at *
        cases h4 : Lx.punct text[p] with
        | true =>
          have hix : 0 ≤ ix := of_decide_eq_true (hpu.symm.trans h4)
          have H4 := Lib.hid h4
          clear h4 hpu
          have hx2 : (p : Int) + 1 ≤ text.size := by omega
          have hx1 : (p : Int) ≤ (p : Int) + 1 := by omega
          have hx3 : ((p : Int) + 1).toNat = p + 1 := by omega
          go_enter Tryd.func20, Tryd.ntmps20
          go_wp2_with (first | (go_at_call_has 23 (Value.int .i64 0); refine (hP0 _ (by exact h.alloc _)).mono ?_; rintro e w1 ⟨rfl, n2, hw1⟩; have hch1 : Chg (· = b) w w1 := (by subst hw1; exact ((Chg.refl _ _).alloc _).drewN _); obtain ⟨hsc1, hT1⟩ : ScanAt w1 b text p v ∧ TAt w1 w.heap.size (.int .i64 0) (.string ⟨#[]⟩) (.int .i64 0) (.int .i64 0) (.bool false) (.bool false) := (by subst hw1; exact ⟨(h.alloc _).drewN _, heap_alloc_new w _⟩); obtain ⟨d0, d1, d2, g0, g1, g2⟩ := hsc1.cells; obtain ⟨t0, t1, t2, t3, t4, t5⟩ := hT1.cells; obtain ⟨u0, u1, u2, u3, u4, u5⟩ := hT1.free; clear hw1) | (go_at_call 28; refine (hSm _).mono ?_; rintro e w2 ⟨rfl, hw2⟩; have hch2 : Chg (· = b) w w2 := (by subst hw2; exact hch1.six (Nat.le_refl _)); obtain ⟨hsc2, hT2⟩ : ScanAt w2 b text p v ∧ TAt w2 w.heap.size (.int .i64 1) (.string ⟨#[]⟩) (.int .i64 0) (.int .i64 (p : Int)) (.bool false) (.bool false) := (by subst hw2; exact ⟨hsc1.six hne', hT1.six⟩); clear hw2 d0 d1 d2 g0 g1 g2 t0 t1 t2 t3 t4 t5 u0 u1 u2 u3 u4 u5; obtain ⟨d0, d1, d2, g0, g1, g2⟩ := hsc2.cells; obtain ⟨t0, t1, t2, t3, t4, t5⟩ := hT2.cells; obtain ⟨u0, u1, u2, u3, u4, u5⟩ := hT2.free) | (go_at_call 30; refine (hCa _).mono ?_; rintro e w' ⟨rfl, rfl⟩) | (go_at_call 31; refine (hDi _).mono ?_; rintro e w' ⟨rfl, rfl⟩) | (go_at_call 22; refine (hPu _).mono ?_; rintro e w' ⟨rfl, rfl⟩))
          refine wp_settle (q := p + 1) (TAt.apart (hT2.kind 4) hne _ _) ((hsc2.aside hne' _ _).put (p + 1)) ((hch2.setCell ⟨w.heap.size, 0, none⟩ _ (.inl (Nat.le_refl _))).put 1 _) ?_
          intro w3 hT3 hsc3 hch3
          (clear d0 d1 d2 g0 g1 g2 t0 t1 t2 t3 t4 t5 u0 u1 u2 u3 u4 u5; obtain ⟨d0, d1, d2, g0, g1, g2⟩ := hsc3.cells; obtain ⟨t0, t1, t2, t3, t4, t5⟩ := TAt.cells hT3; obtain ⟨u0, u1, u2, u3, u4, u5⟩ := TAt.free hT3)
          go_still_tail 10, (by kernel_rfl)
          all_goals go_wp2
          try simp only [Exit.inBlock, Exit.then]
          refine tok_ret (TAt.six (TAt.text hT3 _)).drew rfl rfl ?_
          exact TokenPost.plain_ok (token_punct text p hp H1.out H2.out H3.out H4.out) (ScanAt.drew ((hsc3.aside hne' _ _).six hne')) (((hch3.setCell ⟨w.heap.size, 1, none⟩ _ (.inl (Nat.le_refl _))).six (Nat.le_refl _)).drew)
        | false =>
          have hix : ¬ 0 ≤ ix := of_decide_eq_false (hpu.symm.trans h4)
          have H4 := Lib.hid h4
          clear h4 hpu
          by_cases h33 : text[p] = 33
          · have e33 : (((text[p].toNat : Int)) == 33) = true := (byte_eq _ 33 (by omega)).2 h33
            have H5 := Lib.hid (Or.inl h33 : text[p] = 33 ∨ text[p] = 59)
            clear h33
            have hx2 : (p : Int) + 1 ≤ text.size := by omega
            have hx1 : (p : Int) ≤ (p : Int) + 1 := by omega
            have hx3 : ((p : Int) + 1).toNat = p + 1 := by omega
            go_enter Tryd.func20, Tryd.ntmps20
            go_wp2_with (first | (go_at_call_has 23 (Value.int .i64 0); refine (hP0 _ (by exact h.alloc _)).mono ?_; rintro e w1 ⟨rfl, n2, hw1⟩; have hch1 : Chg (· = b) w w1 := (by subst hw1; exact ((Chg.refl _ _).alloc _).drewN _); obtain ⟨hsc1, hT1⟩ : ScanAt w1 b text p v ∧ TAt w1 w.heap.size (.int .i64 0) (.string ⟨#[]⟩) (.int .i64 0) (.int .i64 0) (.bool false) (.bool false) := (by subst hw1; exact ⟨(h.alloc _).drewN _, heap_alloc_new w _⟩); obtain ⟨d0, d1, d2, g0, g1, g2⟩ := hsc1.cells; obtain ⟨t0, t1, t2, t3, t4, t5⟩ := hT1.cells; obtain ⟨u0, u1, u2, u3, u4, u5⟩ := hT1.free; clear hw1) | (go_at_call 28; refine (hSm _).mono ?_; rintro e w2 ⟨rfl, hw2⟩; have hch2 : Chg (· = b) w w2 := (by subst hw2; exact hch1.six (Nat.le_refl _)); obtain ⟨hsc2, hT2⟩ : ScanAt w2 b text p v ∧ TAt w2 w.heap.size (.int .i64 1) (.string ⟨#[]⟩) (.int .i64 0) (.int .i64 (p : Int)) (.bool false) (.bool false) := (by subst hw2; exact ⟨hsc1.six hne', hT1.six⟩); clear hw2 d0 d1 d2 g0 g1 g2 t0 t1 t2 t3 t4 t5 u0 u1 u2 u3 u4 u5; obtain ⟨d0, d1, d2, g0, g1, g2⟩ := hsc2.cells; obtain ⟨t0, t1, t2, t3, t4, t5⟩ := hT2.cells; obtain ⟨u0, u1, u2, u3, u4, u5⟩ := hT2.free) | (go_at_call 30; refine (hCa _).mono ?_; rintro e w' ⟨rfl, rfl⟩) | (go_at_call 31; refine (hDi _).mono ?_; rintro e w' ⟨rfl, rfl⟩) | (go_at_call 22; refine (hPu _).mono ?_; rintro e w' ⟨rfl, rfl⟩))
            refine wp_settle (q := p + 1) (TAt.apart hT2 hne _ _) (hsc2.put (p + 1)) (hch2.put 1 _) ?_
            intro w3 hT3 hsc3 hch3
            (clear d0 d1 d2 g0 g1 g2 t0 t1 t2 t3 t4 t5 u0 u1 u2 u3 u4 u5; obtain ⟨d0, d1, d2, g0, g1, g2⟩ := hsc3.cells; obtain ⟨t0, t1, t2, t3, t4, t5⟩ := TAt.cells hT3; obtain ⟨u0, u1, u2, u3, u4, u5⟩ := TAt.free hT3)
            go_still_tail 10, (by kernel_rfl)
            all_goals go_wp2
            try simp only [Exit.inBlock, Exit.then]
            refine tok_ret (TAt.six (TAt.text hT3 _)).drew rfl rfl ?_
            exact TokenPost.plain_ok (token_solo text p hp H1.out H2.out H3.out H4.out H5.out) (ScanAt.drew ((hsc3.aside hne' _ _).six hne')) (((hch3.setCell ⟨w.heap.size, 1, none⟩ _ (.inl (Nat.le_refl _))).six (Nat.le_refl _)).drew)
          · have e33 : (((text[p].toNat : Int)) == 33) = false := byte_ne _ 33 (by omega) h33
            by_cases h59 : text[p] = 59
            · have e59 : (((text[p].toNat : Int)) == 59) = true := (byte_eq _ 59 (by omega)).2 h59
              have H5 := Lib.hid (Or.inr h59 : text[p] = 33 ∨ text[p] = 59)
              clear h33 h59
              have hx2 : (p : Int) + 1 ≤ text.size := by omega
              have hx1 : (p : Int) ≤ (p : Int) + 1 := by omega
              have hx3 : ((p : Int) + 1).toNat = p + 1 := by omega
              go_enter Tryd.func20, Tryd.ntmps20
              go_wp2_with (first | (go_at_call_has 23 (Value.int .i64 0); refine (hP0 _ (by exact h.alloc _)).mono ?_; rintro e w1 ⟨rfl, n2, hw1⟩; have hch1 : Chg (· = b) w w1 := (by subst hw1; exact ((Chg.refl _ _).alloc _).drewN _); obtain ⟨hsc1, hT1⟩ : ScanAt w1 b text p v ∧ TAt w1 w.heap.size (.int .i64 0) (.string ⟨#[]⟩) (.int .i64 0) (.int .i64 0) (.bool false) (.bool false) := (by subst hw1; exact ⟨(h.alloc _).drewN _, heap_alloc_new w _⟩); obtain ⟨d0, d1, d2, g0, g1, g2⟩ := hsc1.cells; obtain ⟨t0, t1, t2, t3, t4, t5⟩ := hT1.cells; obtain ⟨u0, u1, u2, u3, u4, u5⟩ := hT1.free; clear hw1) | (go_at_call 28; refine (hSm _).mono ?_; rintro e w2 ⟨rfl, hw2⟩; have hch2 : Chg (· = b) w w2 := (by subst hw2; exact hch1.six (Nat.le_refl _)); obtain ⟨hsc2, hT2⟩ : ScanAt w2 b text p v ∧ TAt w2 w.heap.size (.int .i64 1) (.string ⟨#[]⟩) (.int .i64 0) (.int .i64 (p : Int)) (.bool false) (.bool false) := (by subst hw2; exact ⟨hsc1.six hne', hT1.six⟩); clear hw2 d0 d1 d2 g0 g1 g2 t0 t1 t2 t3 t4 t5 u0 u1 u2 u3 u4 u5; obtain ⟨d0, d1, d2, g0, g1, g2⟩ := hsc2.cells; obtain ⟨t0, t1, t2, t3, t4, t5⟩ := hT2.cells; obtain ⟨u0, u1, u2, u3, u4, u5⟩ := hT2.free) | (go_at_call 30; refine (hCa _).mono ?_; rintro e w' ⟨rfl, rfl⟩) | (go_at_call 31; refine (hDi _).mono ?_; rintro e w' ⟨rfl, rfl⟩) | (go_at_call 22; refine (hPu _).mono ?_; rintro e w' ⟨rfl, rfl⟩))
              refine wp_settle (q := p + 1) (TAt.apart hT2 hne _ _) (hsc2.put (p + 1)) (hch2.put 1 _) ?_
              intro w3 hT3 hsc3 hch3
              (clear d0 d1 d2 g0 g1 g2 t0 t1 t2 t3 t4 t5 u0 u1 u2 u3 u4 u5; obtain ⟨d0, d1, d2, g0, g1, g2⟩ := hsc3.cells; obtain ⟨t0, t1, t2, t3, t4, t5⟩ := TAt.cells hT3; obtain ⟨u0, u1, u2, u3, u4, u5⟩ := TAt.free hT3)
              go_still_tail 10, (by kernel_rfl)
              all_goals go_wp2
              try simp only [Exit.inBlock, Exit.then]
              refine tok_ret (TAt.six (TAt.text hT3 _)).drew rfl rfl ?_
              exact TokenPost.plain_ok (token_solo text p hp H1.out H2.out H3.out H4.out H5.out) (ScanAt.drew ((hsc3.aside hne' _ _).six hne')) (((hch3.setCell ⟨w.heap.size, 1, none⟩ _ (.inl (Nat.le_refl _))).six (Nat.le_refl _)).drew)
            · have e59 : (((text[p].toNat : Int)) == 59) = false := byte_ne _ 59 (by omega) h59
              have H5 := Lib.hid (fun x => Or.elim x h33 h59 : ¬ (text[p] = 33 ∨ text[p] = 59))
              clear h33 h59
              by_cases h39 : text[p] = 39
              · have e39 : (((text[p].toNat : Int)) == 39) = true := (byte_eq _ 39 (by omega)).2 h39
                have H39 := Lib.hid h39
                clear h39
                have hQu := fun wx h => quoted_any b text p v wx h hp hs
                unfold QuotedPost at hQu
                cases hN : Lx.quoted 1 (text.data.toList.drop (p + 1)) with
                | ok x =>
                  obtain ⟨l, n⟩ := x
                  rw [hN] at hQu
                  have hN' := token_quote text p hp H1.out H2.out H3.out H4.out H39.out
                  rw [hN] at hN'
                  have HN := Lib.hid hN'
                  clear hN hN'
                  go_enter Tryd.func20, Tryd.ntmps20
                  go_wp2_with (first | (go_at_call_has 23 (Value.int .i64 0); refine (hP0 _ (by exact h.alloc _)).mono ?_; rintro e w1 ⟨rfl, n2, hw1⟩; have hch1 : Chg (· = b) w w1 := (by subst hw1; exact ((Chg.refl _ _).alloc _).drewN _); obtain ⟨hsc1, hT1⟩ : ScanAt w1 b text p v ∧ TAt w1 w.heap.size (.int .i64 0) (.string ⟨#[]⟩) (.int .i64 0) (.int .i64 0) (.bool false) (.bool false) := (by subst hw1; exact ⟨(h.alloc _).drewN _, heap_alloc_new w _⟩); obtain ⟨d0, d1, d2, g0, g1, g2⟩ := hsc1.cells; obtain ⟨t0, t1, t2, t3, t4, t5⟩ := hT1.cells; obtain ⟨u0, u1, u2, u3, u4, u5⟩ := hT1.free; clear hw1) | (go_at_call 28; refine (hSm _).mono ?_; rintro e w2 ⟨rfl, hw2⟩; have hch2 : Chg (· = b) w w2 := (by subst hw2; exact hch1.six (Nat.le_refl _)); obtain ⟨hsc2, hT2⟩ : ScanAt w2 b text p v ∧ TAt w2 w.heap.size (.int .i64 1) (.string ⟨#[]⟩) (.int .i64 0) (.int .i64 (p : Int)) (.bool false) (.bool false) := (by subst hw2; exact ⟨hsc1.six hne', hT1.six⟩); clear hw2 d0 d1 d2 g0 g1 g2 t0 t1 t2 t3 t4 t5 u0 u1 u2 u3 u4 u5; obtain ⟨d0, d1, d2, g0, g1, g2⟩ := hsc2.cells; obtain ⟨t0, t1, t2, t3, t4, t5⟩ := hT2.cells; obtain ⟨u0, u1, u2, u3, u4, u5⟩ := hT2.free) | (go_at_call 30; refine (hCa _).mono ?_; rintro e w' ⟨rfl, rfl⟩) | (go_at_call 31; refine (hDi _).mono ?_; rintro e w' ⟨rfl, rfl⟩) | (go_at_call 22; refine (hPu _).mono ?_; rintro e w' ⟨rfl, rfl⟩) | (go_at_call 33; refine (hQu _ (by exact hsc2.aside hne' _ _)).mono ?_; rintro e w3 ⟨rfl, hsc3, hch3⟩; have hT3 := hch3.keeps (hT2.quote true) hne; clear d0 d1 d2 g0 g1 g2 t0 t1 t2 t3 t4 t5 u0 u1 u2 u3 u4 u5; obtain ⟨d0, d1, d2, g0, g1, g2⟩ := hsc3.cells; obtain ⟨t0, t1, t2, t3, t4, t5⟩ := TAt.cells hT3; obtain ⟨u0, u1, u2, u3, u4, u5⟩ := TAt.free hT3))
                  try simp only [Exit.inBlock, Exit.then]
                  refine tok_ret (TAt.six (TAt.text hT3 _)) rfl rfl ?_
                  exact TokenPost.ok_of HN.out rfl ((hsc3.aside hne' _ _).six hne') (((((hch2.setCell ⟨w.heap.size, 4, none⟩ _ (.inl (Nat.le_refl _))).trans hch3).setCell ⟨w.heap.size, 1, none⟩ _ (.inl (Nat.le_refl _))).six (Nat.le_refl _)))
                | err c a =>
                  rw [hN] at hQu
                  have hN' := token_quote text p hp H1.out H2.out H3.out H4.out H39.out
                  rw [hN] at hN'
                  have HN := Lib.hid hN'
                  clear hN hN'
                  go_enter Tryd.func20, Tryd.ntmps20
                  go_wp2_with (first | (go_at_call_has 23 (Value.int .i64 0); refine (hP0 _ (by exact h.alloc _)).mono ?_; rintro e w1 ⟨rfl, n2, hw1⟩; have hch1 : Chg (· = b) w w1 := (by subst hw1; exact ((Chg.refl _ _).alloc _).drewN _); obtain ⟨hsc1, hT1⟩ : ScanAt w1 b text p v ∧ TAt w1 w.heap.size (.int .i64 0) (.string ⟨#[]⟩) (.int .i64 0) (.int .i64 0) (.bool false) (.bool false) := (by subst hw1; exact ⟨(h.alloc _).drewN _, heap_alloc_new w _⟩); obtain ⟨d0, d1, d2, g0, g1, g2⟩ := hsc1.cells; obtain ⟨t0, t1, t2, t3, t4, t5⟩ := hT1.cells; obtain ⟨u0, u1, u2, u3, u4, u5⟩ := hT1.free; clear hw1) | (go_at_call 28; refine (hSm _).mono ?_; rintro e w2 ⟨rfl, hw2⟩; have hch2 : Chg (· = b) w w2 := (by subst hw2; exact hch1.six (Nat.le_refl _)); obtain ⟨hsc2, hT2⟩ : ScanAt w2 b text p v ∧ TAt w2 w.heap.size (.int .i64 1) (.string ⟨#[]⟩) (.int .i64 0) (.int .i64 (p : Int)) (.bool false) (.bool false) := (by subst hw2; exact ⟨hsc1.six hne', hT1.six⟩); clear hw2 d0 d1 d2 g0 g1 g2 t0 t1 t2 t3 t4 t5 u0 u1 u2 u3 u4 u5; obtain ⟨d0, d1, d2, g0, g1, g2⟩ := hsc2.cells; obtain ⟨t0, t1, t2, t3, t4, t5⟩ := hT2.cells; obtain ⟨u0, u1, u2, u3, u4, u5⟩ := hT2.free) | (go_at_call 30; refine (hCa _).mono ?_; rintro e w' ⟨rfl, rfl⟩) | (go_at_call 31; refine (hDi _).mono ?_; rintro e w' ⟨rfl, rfl⟩) | (go_at_call 22; refine (hPu _).mono ?_; rintro e w' ⟨rfl, rfl⟩) | (go_at_call 33; refine (hQu _ (by exact hsc2.aside hne' _ _)).mono ?_; rintro e w3 ⟨fv, rfl, hf, hch3⟩; have hT3 := hch3.keeps (hT2.quote true) hne; clear d0 d1 d2 g0 g1 g2 t0 t1 t2 t3 t4 t5 u0 u1 u2 u3 u4 u5; obtain ⟨t0, t1, t2, t3, t4, t5⟩ := TAt.cells hT3; obtain ⟨u0, u1, u2, u3, u4, u5⟩ := TAt.free hT3))
                  try simp only [Exit.inBlock, Exit.then]
                  refine tok_ret (TAt.six (TAt.text hT3 _)) rfl rfl ?_
                  exact TokenPost.err_of (a := a) HN.out ((hf.aside hT3 _ _).six (TAt.text hT3 _)) rfl (((((hch2.setCell ⟨w.heap.size, 4, none⟩ _ (.inl (Nat.le_refl _))).trans hch3).setCell ⟨w.heap.size, 1, none⟩ _ (.inl (Nat.le_refl _))).six (Nat.le_refl _)))
              · have e39 : (((text[p].toNat : Int)) == 39) = false := byte_ne _ 39 (by omega) h39
                have H6 := Lib.hid h39
                clear h39
                by_cases h46 : text[p] = 46
                · have e46 : (((text[p].toNat : Int)) == 46) = true := (byte_eq _ 46 (by omega)).2 h46
                  have hSi := sign_any text[p]
                  have hsg : Lx.sign text[p] = true := by rw [h46]; decide
                  rw [hsg] at hSi
                  have HS := Lib.hid hsg
                  clear hsg
                  have H46 := Lib.hid h46
                  clear h46
                  by_cases hq1 : p + 1 < text.size
                  · have hq2 : ((p : Int) + 1 == (text.size : Int)) = false := by rw [beq_eq_false_iff_ne]; omega
                    have hst := stop_at text (p + 1) hq1
                    have hgd := getD_drop text p 1 hq1
                    have hP1 := fun wx h => peek1 b text p v wx h (by omega) hs text[p + 1] hgd
                    clear hgd
                    have hBl := blank_any text[p + 1]
                    cases hbl : Lx.blank text[p + 1] with
                    | true =>
                      rw [hbl] at hst hBl
                      have HST := Lib.hid (hst.trans rfl : Lx.stop _ = true)
                      clear hst hbl
                      have hx2 : (p : Int) + 1 ≤ text.size := by omega
                      have hx1 : (p : Int) ≤ (p : Int) + 1 := by omega
                      have hx3 : ((p : Int) + 1).toNat = p + 1 := by omega
                      go_enter Tryd.func20, Tryd.ntmps20
                      go_wp2_with (first | (go_at_call_has 23 (Value.int .i64 0); refine (hP0 _ (by exact h.alloc _)).mono ?_; rintro e w1 ⟨rfl, n2, hw1⟩; have hch1 : Chg (· = b) w w1 := (by subst hw1; exact ((Chg.refl _ _).alloc _).drewN _); obtain ⟨hsc1, hT1⟩ : ScanAt w1 b text p v ∧ TAt w1 w.heap.size (.int .i64 0) (.string ⟨#[]⟩) (.int .i64 0) (.int .i64 0) (.bool false) (.bool false) := (by subst hw1; exact ⟨(h.alloc _).drewN _, heap_alloc_new w _⟩); obtain ⟨d0, d1, d2, g0, g1, g2⟩ := hsc1.cells; obtain ⟨t0, t1, t2, t3, t4, t5⟩ := hT1.cells; obtain ⟨u0, u1, u2, u3, u4, u5⟩ := hT1.free; clear hw1) | (go_at_call 28; refine (hSm _).mono ?_; rintro e w2 ⟨rfl, hw2⟩; have hch2 : Chg (· = b) w w2 := (by subst hw2; exact hch1.six (Nat.le_refl _)); obtain ⟨hsc2, hT2⟩ : ScanAt w2 b text p v ∧ TAt w2 w.heap.size (.int .i64 1) (.string ⟨#[]⟩) (.int .i64 0) (.int .i64 (p : Int)) (.bool false) (.bool false) := (by subst hw2; exact ⟨hsc1.six hne', hT1.six⟩); clear hw2 d0 d1 d2 g0 g1 g2 t0 t1 t2 t3 t4 t5 u0 u1 u2 u3 u4 u5; obtain ⟨d0, d1, d2, g0, g1, g2⟩ := hsc2.cells; obtain ⟨t0, t1, t2, t3, t4, t5⟩ := hT2.cells; obtain ⟨u0, u1, u2, u3, u4, u5⟩ := hT2.free) | (go_at_call 30; refine (hCa _).mono ?_; rintro e w' ⟨rfl, rfl⟩) | (go_at_call 31; refine (hDi _).mono ?_; rintro e w' ⟨rfl, rfl⟩) | (go_at_call 22; refine (hPu _).mono ?_; rintro e w' ⟨rfl, rfl⟩))
                      go_quiet (first | (go_at_call_has 23 (Value.int .i64 1); exact Calls.quiet_of (hP1 _ hsc2)) | (go_at_call 24; exact quiet_eq (hBl _)))
                      go_wp2
                      refine wp_settle (q := p + 1) (TAt.apart ((hT2.drewN _).kind 5) hne _ _) (((hsc2.drewN _).aside hne' _ _).put (p + 1)) (((hch2.drewN _).setCell ⟨w.heap.size, 0, none⟩ _ (.inl (Nat.le_refl _))).put 1 _) ?_
                      intro w3 hT3 hsc3 hch3
                      (clear d0 d1 d2 g0 g1 g2 t0 t1 t2 t3 t4 t5 u0 u1 u2 u3 u4 u5; obtain ⟨d0, d1, d2, g0, g1, g2⟩ := hsc3.cells; obtain ⟨t0, t1, t2, t3, t4, t5⟩ := TAt.cells hT3; obtain ⟨u0, u1, u2, u3, u4, u5⟩ := TAt.free hT3)
                      go_still_tail 10, (by kernel_rfl)
                      all_goals go_wp2
                      try simp only [Exit.inBlock, Exit.then]
                      refine tok_ret (TAt.six (TAt.text hT3 _)).drew rfl rfl ?_
                      exact TokenPost.plain_ok (token_stop text p hp H1.out H2.out H3.out H4.out H46.out HST.out) (ScanAt.drew ((hsc3.aside hne' _ _).six hne')) (((hch3.setCell ⟨w.heap.size, 1, none⟩ _ (.inl (Nat.le_refl _))).six (Nat.le_refl _)).drew)
                    | false =>
                      rw [hbl] at hst hBl
                      clear hbl
                      by_cases h37 : text[p + 1] = 37
                      · have e37 : (((text[p + 1].toNat : Int)) == 37) = true := (byte_eq _ 37 (by omega)).2 h37
                        have HST := Lib.hid (hst.trans (by rw [h37]; rfl) : Lx.stop _ = true)
                        clear hst h37
                        have hx2 : (p : Int) + 1 ≤ text.size := by omega
                        have hx1 : (p : Int) ≤ (p : Int) + 1 := by omega
                        have hx3 : ((p : Int) + 1).toNat = p + 1 := by omega
                        go_enter Tryd.func20, Tryd.ntmps20
                        go_wp2_with (first | (go_at_call_has 23 (Value.int .i64 0); refine (hP0 _ (by exact h.alloc _)).mono ?_; rintro e w1 ⟨rfl, n2, hw1⟩; have hch1 : Chg (· = b) w w1 := (by subst hw1; exact ((Chg.refl _ _).alloc _).drewN _); obtain ⟨hsc1, hT1⟩ : ScanAt w1 b text p v ∧ TAt w1 w.heap.size (.int .i64 0) (.string ⟨#[]⟩) (.int .i64 0) (.int .i64 0) (.bool false) (.bool false) := (by subst hw1; exact ⟨(h.alloc _).drewN _, heap_alloc_new w _⟩); obtain ⟨d0, d1, d2, g0, g1, g2⟩ := hsc1.cells; obtain ⟨t0, t1, t2, t3, t4, t5⟩ := hT1.cells; obtain ⟨u0, u1, u2, u3, u4, u5⟩ := hT1.free; clear hw1) | (go_at_call 28; refine (hSm _).mono ?_; rintro e w2 ⟨rfl, hw2⟩; have hch2 : Chg (· = b) w w2 := (by subst hw2; exact hch1.six (Nat.le_refl _)); obtain ⟨hsc2, hT2⟩ : ScanAt w2 b text p v ∧ TAt w2 w.heap.size (.int .i64 1) (.string ⟨#[]⟩) (.int .i64 0) (.int .i64 (p : Int)) (.bool false) (.bool false) := (by subst hw2; exact ⟨hsc1.six hne', hT1.six⟩); clear hw2 d0 d1 d2 g0 g1 g2 t0 t1 t2 t3 t4 t5 u0 u1 u2 u3 u4 u5; obtain ⟨d0, d1, d2, g0, g1, g2⟩ := hsc2.cells; obtain ⟨t0, t1, t2, t3, t4, t5⟩ := hT2.cells; obtain ⟨u0, u1, u2, u3, u4, u5⟩ := hT2.free) | (go_at_call 30; refine (hCa _).mono ?_; rintro e w' ⟨rfl, rfl⟩) | (go_at_call 31; refine (hDi _).mono ?_; rintro e w' ⟨rfl, rfl⟩) | (go_at_call 22; refine (hPu _).mono ?_; rintro e w' ⟨rfl, rfl⟩))
                        go_quiet (first | (go_at_call_has 23 (Value.int .i64 1); exact Calls.quiet_of (hP1 _ hsc2)) | (go_at_call 24; exact quiet_eq (hBl _)))
                        go_wp2
                        refine wp_settle (q := p + 1) (TAt.apart ((hT2.drewN _).kind 5) hne _ _) (((hsc2.drewN _).aside hne' _ _).put (p + 1)) (((hch2.drewN _).setCell ⟨w.heap.size, 0, none⟩ _ (.inl (Nat.le_refl _))).put 1 _) ?_
                        intro w3 hT3 hsc3 hch3
                        (clear d0 d1 d2 g0 g1 g2 t0 t1 t2 t3 t4 t5 u0 u1 u2 u3 u4 u5; obtain ⟨d0, d1, d2, g0, g1, g2⟩ := hsc3.cells; obtain ⟨t0, t1, t2, t3, t4, t5⟩ := TAt.cells hT3; obtain ⟨u0, u1, u2, u3, u4, u5⟩ := TAt.free hT3)
                        go_still_tail 10, (by kernel_rfl)
                        all_goals go_wp2
                        try simp only [Exit.inBlock, Exit.then]
                        refine tok_ret (TAt.six (TAt.text hT3 _)).drew rfl rfl ?_
                        exact TokenPost.plain_ok (token_stop text p hp H1.out H2.out H3.out H4.out H46.out HST.out) (ScanAt.drew ((hsc3.aside hne' _ _).six hne')) (((hch3.setCell ⟨w.heap.size, 1, none⟩ _ (.inl (Nat.le_refl _))).six (Nat.le_refl _)).drew)
                      · have e37 : (((text[p + 1].toNat : Int)) == 37) = false := byte_ne _ 37 (by omega) h37
                        have H7 := Lib.hid ((fun x => absurd (hst.symm.trans x.2) (by simp [h37])) : ¬ (text[p] = 46 ∧ Lx.stop (text.data.toList.drop (p + 1)) = true))
                        clear hst h37
                        have hrun : Lx.symbols (text.data.toList.drop p) ≤ text.size - p := by
                          have := symbols_le (text.data.toList.drop p); simpa using this
                        have hY := fun wx h => symbols_any b text p v wx h (by omega) hs
                        generalize hn : Lx.symbols (text.data.toList.drop p) = n at *
                        have Hn := Lib.hid hn
                        clear hn
                        have hx1 : (p : Int) ≤ (p : Int) + n := by omega
                        have hx2 : (p : Int) + n ≤ text.size := by omega
                        have hx3 : ((p : Int) + n).toNat = p + n := by omega
                        go_enter Tryd.func20, Tryd.ntmps20
                        go_wp2_with (first | (go_at_call_has 23 (Value.int .i64 0); refine (hP0 _ (by exact h.alloc _)).mono ?_; rintro e w1 ⟨rfl, n2, hw1⟩; have hch1 : Chg (· = b) w w1 := (by subst hw1; exact ((Chg.refl _ _).alloc _).drewN _); obtain ⟨hsc1, hT1⟩ : ScanAt w1 b text p v ∧ TAt w1 w.heap.size (.int .i64 0) (.string ⟨#[]⟩) (.int .i64 0) (.int .i64 0) (.bool false) (.bool false) := (by subst hw1; exact ⟨(h.alloc _).drewN _, heap_alloc_new w _⟩); obtain ⟨d0, d1, d2, g0, g1, g2⟩ := hsc1.cells; obtain ⟨t0, t1, t2, t3, t4, t5⟩ := hT1.cells; obtain ⟨u0, u1, u2, u3, u4, u5⟩ := hT1.free; clear hw1) | (go_at_call 28; refine (hSm _).mono ?_; rintro e w2 ⟨rfl, hw2⟩; have hch2 : Chg (· = b) w w2 := (by subst hw2; exact hch1.six (Nat.le_refl _)); obtain ⟨hsc2, hT2⟩ : ScanAt w2 b text p v ∧ TAt w2 w.heap.size (.int .i64 1) (.string ⟨#[]⟩) (.int .i64 0) (.int .i64 (p : Int)) (.bool false) (.bool false) := (by subst hw2; exact ⟨hsc1.six hne', hT1.six⟩); clear hw2 d0 d1 d2 g0 g1 g2 t0 t1 t2 t3 t4 t5 u0 u1 u2 u3 u4 u5; obtain ⟨d0, d1, d2, g0, g1, g2⟩ := hsc2.cells; obtain ⟨t0, t1, t2, t3, t4, t5⟩ := hT2.cells; obtain ⟨u0, u1, u2, u3, u4, u5⟩ := hT2.free) | (go_at_call 30; refine (hCa _).mono ?_; rintro e w' ⟨rfl, rfl⟩) | (go_at_call 31; refine (hDi _).mono ?_; rintro e w' ⟨rfl, rfl⟩) | (go_at_call 22; refine (hPu _).mono ?_; rintro e w' ⟨rfl, rfl⟩))
                        go_quiet (first | (go_at_call_has 23 (Value.int .i64 1); exact Calls.quiet_of (hP1 _ hsc2)) | (go_at_call 24; exact quiet_eq (hBl _)))
                        go_wp2_with (first | (go_at_call 16; refine (hSi _).mono ?_; rintro e w' ⟨rfl, rfl⟩) | (go_at_call 34; refine (hY _ (by exact hsc2.drewN _)).mono ?_; rintro e w3 ⟨rfl, hsc3, hch3⟩; have hT3 := hch3.keeps (hT2.drewN _) hne; clear d0 d1 d2 g0 g1 g2 t0 t1 t2 t3 t4 t5 u0 u1 u2 u3 u4 u5; obtain ⟨d0, d1, d2, g0, g1, g2⟩ := hsc3.cells; obtain ⟨t0, t1, t2, t3, t4, t5⟩ := TAt.cells hT3; obtain ⟨u0, u1, u2, u3, u4, u5⟩ := TAt.free hT3))
                        go_still_tail 10, (by kernel_rfl)
                        all_goals go_wp2
                        try simp only [Exit.inBlock, Exit.then]
                        refine tok_ret (TAt.six (TAt.text hT3 _)).drew rfl rfl ?_
                        exact TokenPost.plain_ok (by rw [← Hn.out]; exact token_sign text p hp H1.out H2.out H3.out H4.out H5.out H6.out H7.out HS.out) (ScanAt.drew ((hsc3.aside hne' _ _).six hne')) (((((hch2.drewN _).trans hch3).setCell ⟨w.heap.size, 1, none⟩ _ (.inl (Nat.le_refl _))).six (Nat.le_refl _)).drew)
                  · have hq2 : ((p : Int) + 1 == (text.size : Int)) = true := by rw [beq_iff_eq]; omega
                    have HST := Lib.hid (stop_end text (p + 1) (by omega))
                    have hx2 : (p : Int) + 1 ≤ text.size := by omega
                    have hx1 : (p : Int) ≤ (p : Int) + 1 := by omega
                    have hx3 : ((p : Int) + 1).toNat = p + 1 := by omega
                    go_enter Tryd.func20, Tryd.ntmps20
                    go_wp2_with (first | (go_at_call_has 23 (Value.int .i64 0); refine (hP0 _ (by exact h.alloc _)).mono ?_; rintro e w1 ⟨rfl, n2, hw1⟩; have hch1 : Chg (· = b) w w1 := (by subst hw1; exact ((Chg.refl _ _).alloc _).drewN _); obtain ⟨hsc1, hT1⟩ : ScanAt w1 b text p v ∧ TAt w1 w.heap.size (.int .i64 0) (.string ⟨#[]⟩) (.int .i64 0) (.int .i64 0) (.bool false) (.bool false) := (by subst hw1; exact ⟨(h.alloc _).drewN _, heap_alloc_new w _⟩); obtain ⟨d0, d1, d2, g0, g1, g2⟩ := hsc1.cells; obtain ⟨t0, t1, t2, t3, t4, t5⟩ := hT1.cells; obtain ⟨u0, u1, u2, u3, u4, u5⟩ := hT1.free; clear hw1) | (go_at_call 28; refine (hSm _).mono ?_; rintro e w2 ⟨rfl, hw2⟩; have hch2 : Chg (· = b) w w2 := (by subst hw2; exact hch1.six (Nat.le_refl _)); obtain ⟨hsc2, hT2⟩ : ScanAt w2 b text p v ∧ TAt w2 w.heap.size (.int .i64 1) (.string ⟨#[]⟩) (.int .i64 0) (.int .i64 (p : Int)) (.bool false) (.bool false) := (by subst hw2; exact ⟨hsc1.six hne', hT1.six⟩); clear hw2 d0 d1 d2 g0 g1 g2 t0 t1 t2 t3 t4 t5 u0 u1 u2 u3 u4 u5; obtain ⟨d0, d1, d2, g0, g1, g2⟩ := hsc2.cells; obtain ⟨t0, t1, t2, t3, t4, t5⟩ := hT2.cells; obtain ⟨u0, u1, u2, u3, u4, u5⟩ := hT2.free) | (go_at_call 30; refine (hCa _).mono ?_; rintro e w' ⟨rfl, rfl⟩) | (go_at_call 31; refine (hDi _).mono ?_; rintro e w' ⟨rfl, rfl⟩) | (go_at_call 22; refine (hPu _).mono ?_; rintro e w' ⟨rfl, rfl⟩))
                    go_quiet (first | (go_at_call_has 23 (Value.int .i64 1); exact Calls.quiet_of (hP1 _ hsc2)) | (go_at_call 24; exact quiet_eq (hBl _)))
                    go_wp2
                    refine wp_settle (q := p + 1) (TAt.apart ((hT2.drewN _).kind 5) hne _ _) (((hsc2.drewN _).aside hne' _ _).put (p + 1)) (((hch2.drewN _).setCell ⟨w.heap.size, 0, none⟩ _ (.inl (Nat.le_refl _))).put 1 _) ?_
                    intro w3 hT3 hsc3 hch3
                    (clear d0 d1 d2 g0 g1 g2 t0 t1 t2 t3 t4 t5 u0 u1 u2 u3 u4 u5; obtain ⟨d0, d1, d2, g0, g1, g2⟩ := hsc3.cells; obtain ⟨t0, t1, t2, t3, t4, t5⟩ := TAt.cells hT3; obtain ⟨u0, u1, u2, u3, u4, u5⟩ := TAt.free hT3)
                    go_still_tail 10, (by kernel_rfl)
                    all_goals go_wp2
                    try simp only [Exit.inBlock, Exit.then]
                    refine tok_ret (TAt.six (TAt.text hT3 _)).drew rfl rfl ?_
                    exact TokenPost.plain_ok (token_stop text p hp H1.out H2.out H3.out H4.out H46.out HST.out) (ScanAt.drew ((hsc3.aside hne' _ _).six hne')) (((hch3.setCell ⟨w.heap.size, 1, none⟩ _ (.inl (Nat.le_refl _))).six (Nat.le_refl _)).drew)
                · have e46 : (((text[p].toNat : Int)) == 46) = false := byte_ne _ 46 (by omega) h46
                  have H7 := Lib.hid (fun x => h46 x.1 : ¬ (text[p] = 46 ∧ Lx.stop (text.data.toList.drop (p + 1)) = true))
                  clear h46
                  have hSi := sign_any text[p]
                  cases hsg : Lx.sign text[p] with
                  | true =>
                    rw [hsg] at hSi
                    have HS := Lib.hid hsg
                    clear hsg
                    have hrun : Lx.symbols (text.data.toList.drop p) ≤ text.size - p := by
                      have := symbols_le (text.data.toList.drop p); simpa using this
                    have hY := fun wx h => symbols_any b text p v wx h (by omega) hs
                    generalize hn : Lx.symbols (text.data.toList.drop p) = n at *
                    have Hn := Lib.hid hn
                    clear hn
                    have hx1 : (p : Int) ≤ (p : Int) + n := by omega
                    have hx2 : (p : Int) + n ≤ text.size := by omega
                    have hx3 : ((p : Int) + n).toNat = p + n := by omega
                    go_enter Tryd.func20, Tryd.ntmps20
                    go_wp2_with (first | (go_at_call_has 23 (Value.int .i64 0); refine (hP0 _ (by exact h.alloc _)).mono ?_; rintro e w1 ⟨rfl, n2, hw1⟩; have hch1 : Chg (· = b) w w1 := (by subst hw1; exact ((Chg.refl _ _).alloc _).drewN _); obtain ⟨hsc1, hT1⟩ : ScanAt w1 b text p v ∧ TAt w1 w.heap.size (.int .i64 0) (.string ⟨#[]⟩) (.int .i64 0) (.int .i64 0) (.bool false) (.bool false) := (by subst hw1; exact ⟨(h.alloc _).drewN _, heap_alloc_new w _⟩); obtain ⟨d0, d1, d2, g0, g1, g2⟩ := hsc1.cells; obtain ⟨t0, t1, t2, t3, t4, t5⟩ := hT1.cells; obtain ⟨u0, u1, u2, u3, u4, u5⟩ := hT1.free; clear hw1) | (go_at_call 28; refine (hSm _).mono ?_; rintro e w2 ⟨rfl, hw2⟩; have hch2 : Chg (· = b) w w2 := (by subst hw2; exact hch1.six (Nat.le_refl _)); obtain ⟨hsc2, hT2⟩ : ScanAt w2 b text p v ∧ TAt w2 w.heap.size (.int .i64 1) (.string ⟨#[]⟩) (.int .i64 0) (.int .i64 (p : Int)) (.bool false) (.bool false) := (by subst hw2; exact ⟨hsc1.six hne', hT1.six⟩); clear hw2 d0 d1 d2 g0 g1 g2 t0 t1 t2 t3 t4 t5 u0 u1 u2 u3 u4 u5; obtain ⟨d0, d1, d2, g0, g1, g2⟩ := hsc2.cells; obtain ⟨t0, t1, t2, t3, t4, t5⟩ := hT2.cells; obtain ⟨u0, u1, u2, u3, u4, u5⟩ := hT2.free) | (go_at_call 30; refine (hCa _).mono ?_; rintro e w' ⟨rfl, rfl⟩) | (go_at_call 31; refine (hDi _).mono ?_; rintro e w' ⟨rfl, rfl⟩) | (go_at_call 22; refine (hPu _).mono ?_; rintro e w' ⟨rfl, rfl⟩))
                    go_quiet (first | (go_at_call_has 23 (Value.int .i64 1); exact Calls.quiet_of (hP1 _ hsc2)) | (go_at_call 24; exact quiet_eq (hBl _)))
                    go_wp2_with (first | (go_at_call 16; refine (hSi _).mono ?_; rintro e w' ⟨rfl, rfl⟩) | (go_at_call 34; refine (hY _ (by exact hsc2.drewN _)).mono ?_; rintro e w3 ⟨rfl, hsc3, hch3⟩; have hT3 := hch3.keeps (hT2.drewN _) hne; clear d0 d1 d2 g0 g1 g2 t0 t1 t2 t3 t4 t5 u0 u1 u2 u3 u4 u5; obtain ⟨d0, d1, d2, g0, g1, g2⟩ := hsc3.cells; obtain ⟨t0, t1, t2, t3, t4, t5⟩ := TAt.cells hT3; obtain ⟨u0, u1, u2, u3, u4, u5⟩ := TAt.free hT3))
                    go_still_tail 10, (by kernel_rfl)
                    all_goals go_wp2
                    try simp only [Exit.inBlock, Exit.then]
                    refine tok_ret (TAt.six (TAt.text hT3 _)).drew rfl rfl ?_
                    exact TokenPost.plain_ok (by rw [← Hn.out]; exact token_sign text p hp H1.out H2.out H3.out H4.out H5.out H6.out H7.out HS.out) (ScanAt.drew ((hsc3.aside hne' _ _).six hne')) (((((hch2.drewN _).trans hch3).setCell ⟨w.heap.size, 1, none⟩ _ (.inl (Nat.le_refl _))).six (Nat.le_refl _)).drew)
                  | false =>
                    rw [hsg] at hSi
                    have HS := Lib.hid hsg
                    clear hsg
                    have hx2 : (p : Int) ≤ text.size := by omega
                    have hx1 : (p : Int) ≤ (p : Int) := by omega
                    have hx3 : ((p : Int)).toNat = p := by omega
                    go_enter Tryd.func20, Tryd.ntmps20
                    go_wp2_with (first | (go_at_call_has 23 (Value.int .i64 0); refine (hP0 _ (by exact h.alloc _)).mono ?_; rintro e w1 ⟨rfl, n2, hw1⟩; have hch1 : Chg (· = b) w w1 := (by subst hw1; exact ((Chg.refl _ _).alloc _).drewN _); obtain ⟨hsc1, hT1⟩ : ScanAt w1 b text p v ∧ TAt w1 w.heap.size (.int .i64 0) (.string ⟨#[]⟩) (.int .i64 0) (.int .i64 0) (.bool false) (.bool false) := (by subst hw1; exact ⟨(h.alloc _).drewN _, heap_alloc_new w _⟩); obtain ⟨d0, d1, d2, g0, g1, g2⟩ := hsc1.cells; obtain ⟨t0, t1, t2, t3, t4, t5⟩ := hT1.cells; obtain ⟨u0, u1, u2, u3, u4, u5⟩ := hT1.free; clear hw1) | (go_at_call 28; refine (hSm _).mono ?_; rintro e w2 ⟨rfl, hw2⟩; have hch2 : Chg (· = b) w w2 := (by subst hw2; exact hch1.six (Nat.le_refl _)); obtain ⟨hsc2, hT2⟩ : ScanAt w2 b text p v ∧ TAt w2 w.heap.size (.int .i64 1) (.string ⟨#[]⟩) (.int .i64 0) (.int .i64 (p : Int)) (.bool false) (.bool false) := (by subst hw2; exact ⟨hsc1.six hne', hT1.six⟩); clear hw2 d0 d1 d2 g0 g1 g2 t0 t1 t2 t3 t4 t5 u0 u1 u2 u3 u4 u5; obtain ⟨d0, d1, d2, g0, g1, g2⟩ := hsc2.cells; obtain ⟨t0, t1, t2, t3, t4, t5⟩ := hT2.cells; obtain ⟨u0, u1, u2, u3, u4, u5⟩ := hT2.free) | (go_at_call 30; refine (hCa _).mono ?_; rintro e w' ⟨rfl, rfl⟩) | (go_at_call 31; refine (hDi _).mono ?_; rintro e w' ⟨rfl, rfl⟩) | (go_at_call 22; refine (hPu _).mono ?_; rintro e w' ⟨rfl, rfl⟩))
                    go_quiet (first | (go_at_call_has 23 (Value.int .i64 1); exact Calls.quiet_of (hP1 _ hsc2)) | (go_at_call 24; exact quiet_eq (hBl _)))
                    go_wp2_with (first | (go_at_call 16; refine (hSi _).mono ?_; rintro e w' ⟨rfl, rfl⟩) | (go_at_call 17; refine (new_any 80 _ (by decide) _).mono ?_; rintro e w3 ⟨fv, rfl, hf, hbl⟩; have hsc3 := ScanAt.below (hsc2.drewN _) hbl; have hT3 := (hbl.block _ (lt_of_block hT2)).trans (hT2.drewN _); (clear d0 d1 d2 g0 g1 g2 t0 t1 t2 t3 t4 t5 u0 u1 u2 u3 u4 u5; obtain ⟨d0, d1, d2, g0, g1, g2⟩ := hsc3.cells; obtain ⟨t0, t1, t2, t3, t4, t5⟩ := TAt.cells hT3; obtain ⟨u0, u1, u2, u3, u4, u5⟩ := TAt.free hT3)))
                    go_still_tail 10, (by kernel_rfl)
                    all_goals go_wp2
                    try simp only [Exit.inBlock, Exit.then]
                    refine tok_ret (TAt.six (TAt.text hT3 _)).drew rfl rfl ?_
                    exact TokenPost.err_of (c := 80) (a := 0) (token_none text p hp H1.out H2.out H3.out H4.out H5.out H6.out H7.out HS.out) ((hf.aside hT3 _ _).six (TAt.text hT3 _)).drew (by omega) (((((hch2.drewN _).trans (Chg.of_below hbl)).setCell ⟨w.heap.size, 1, none⟩ _ (.inl (Nat.le_refl _))).six (Nat.le_refl _)).drew)
end Go.Proofs.YtjcnhoagccdclaaDoor
