/-
  The scan object of lex: a name in quotes.
-/
import Derived.Test.YtjcnhoagccdclaaDoorLexD
import Derived.Test.YtjcnhoagccdclaaDoorBuilder
namespace Go.Proofs.YtjcnhoagccdclaaDoor
open Go.RowKit
open Lx (Byte)

theorem builder_chg {T e B nb b : Nat} {bs : List Value} {w w' : World} (h : Lib.IsBuilderF T e B nb bs w) (hc : Chg (· = b) w w') (hb : b < B) : Lib.IsBuilderF T e B nb bs w' := by
  have key : ∀ p, Lib.BuilderAtF T e B nb p bs w → Lib.BuilderAtF T e B nb p bs w' := by
    rintro p ⟨h1, v, h2, h3, h4⟩
    refine ⟨h1, v, hc.keeps h2 (by omega), ⟨h3.1, ?_⟩, h4⟩
    rcases h3.2 with h5 | ⟨g, cap, cur, fz, r1, r2, r3, r4⟩
    · exact .inl h5
    · exact .inr ⟨g, cap, cur, fz, r1, r2, hc.keeps r3 (by omega), r4⟩
  exact h.elim (fun x => .inl (key _ x)) (fun x => .inr (key _ x))

theorem byteCells_snoc (l : List Byte) (c : Byte) : Lib.byteCells l ++ [.int .u8 (c.toNat : Int)] = Lib.byteCells (l ++ [c]) := by
  simp [Lib.byteCells]

theorem wb_any (B nb : Nat) (l : List Byte) (c : Byte) (w : World) (h : Lib.IsBuilderF 80 5 B nb (Lib.byteCells l) w) (hl : l.length ≤ 40000) (hB : B ≤ w.heap.size) :
    Calls Tryd.prog 45 #[.pointer (some ⟨nb, 0, none⟩), .int .u8 (c.toNat : Int)] w fun e w' => e = .returned .nilIface ∧ Lib.IsBuilderF 80 5 B nb (Lib.byteCells (l ++ [c])) w' ∧ Below B w w' := by
  refine (Tryd.Builder_WriteByte_k B nb (Lib.byteCells l) (c.toNat : Int) w h (by rw [Lib.byteCells_length]; omega) hB).mono ?_
  rintro e w' ⟨he, h1, h2, _⟩
  rw [byteCells_snoc] at h1
  exact ⟨he, .inr h1, h2⟩

/-- The name in quotes that begins at a place, once l of it has been read and q is come to. -/
def QuoteAt (text : ByteArray) (p q : Nat) (l : List Byte) : Prop :=
  l.length ≤ q ∧ p < q ∧ q ≤ text.size ∧ Lx.quoted 1 (text.data.toList.drop (p + 1)) = (Lx.quoted (q - p) (text.data.toList.drop q)).map fun x => (l ++ x.1, x.2)

theorem QuoteAt.start (text : ByteArray) (p : Nat) (h : p < text.size) : QuoteAt text p (p + 1) [] := by
  refine ⟨by simp, by omega, by omega, ?_⟩
  rw [show p + 1 - p = 1 from by omega]
  cases Lx.quoted 1 (text.data.toList.drop (p + 1)) <;> simp [Lx.Res.map]
theorem QuoteAt.step {text : ByteArray} {p q : Nat} {l : List Byte} (h : QuoteAt text p q l) (k : Nat) (c : Byte) (hk0 : 0 < k) (hk : q + k ≤ text.size)
    (hs : Lx.quoted (q - p) (text.data.toList.drop q) = (Lx.quoted (q - p + k) (text.data.toList.drop (q + k))).map fun x => (c :: x.1, x.2)) : QuoteAt text p (q + k) (l ++ [c]) := by
  obtain ⟨h0, h1, h2, h3⟩ := h
  refine ⟨by simp; omega, by omega, hk, ?_⟩
  rw [h3, hs, map_map, show q + k - p = q - p + k from by omega]
  exact map_congr _ _ _ fun x => by simp
theorem QuoteAt.fin {text : ByteArray} {p q : Nat} {l : List Byte} (h : QuoteAt text p q l) {r : Lx.Res (List Byte × Nat)}
    (hs : Lx.quoted (q - p) (text.data.toList.drop q) = r) : Lx.quoted 1 (text.data.toList.drop (p + 1)) = r.map fun x => (l ++ x.1, x.2) := by
  rw [h.2.2.2, hs]

theorem getD_is (s : ByteArray) (q : Nat) (c : Byte) (hc : c ≠ 0) (h : (s.data.toList.drop q).getD 1 0 = c) : q + 1 < s.size ∧ ∀ h : q + 1 < s.size, s[q + 1] = c := by
  have h1 := (head_is s q c hc).2 h
  rw [head_drop] at h1
  split at h1
  · rename_i hq
    refine ⟨hq, fun h2 => ?_⟩
    rw [← h, getD_drop s q 1 hq]
  · simp at h1

theorem quoted_dbl (s : ByteArray) (q k : Nat) (h : q < s.size) (hc : s[q] = 39) (hd : (s.data.toList.drop q).getD 1 0 = 39) :
    Lx.quoted k (s.data.toList.drop q) = (Lx.quoted (k + 2) (s.data.toList.drop (q + 2))).map fun x => (39 :: x.1, x.2) := by
  obtain ⟨h1, h2⟩ := getD_is s q 39 (by decide) hd
  rw [drop_cons s q h, drop_cons s (q + 1) h1, Lx.quoted]
  simp [hc, h2 h1]
theorem quoted_close (s : ByteArray) (q k : Nat) (h : q < s.size) (hc : s[q] = 39) (hd : (s.data.toList.drop q).getD 1 0 ≠ 39) :
    Lx.quoted k (s.data.toList.drop q) = .ok ([], k + 1) := by
  rw [drop_cons s q h]
  by_cases h1 : q + 1 < s.size
  · rw [getD_drop s q 1 h1] at hd
    rw [drop_cons s (q + 1) h1, Lx.quoted]
    simp [hc, hd]
  · rw [List.drop_of_length_le (by simp; omega), Lx.quoted]
    simp [hc]
theorem quoted_plain (s : ByteArray) (q k : Nat) (h : q < s.size) (hc : s[q] ≠ 39) (hd : s[q] ≠ 92) (hr : 32 ≤ s[q] ∧ s[q] ≤ 126) :
    Lx.quoted k (s.data.toList.drop q) = (Lx.quoted (k + 1) (s.data.toList.drop (q + 1))).map fun x => (s[q] :: x.1, x.2) := by
  rw [drop_cons s q h, Lx.quoted.eq_def]
  simp only [hc, hd, if_false, hr, and_self, if_true]
theorem quoted_bad (s : ByteArray) (q k : Nat) (h : q < s.size) (hc : s[q] ≠ 39) (hd : s[q] ≠ 92) (hr : ¬ (32 ≤ s[q] ∧ s[q] ≤ 126)) :
    Lx.quoted k (s.data.toList.drop q) = .err 80 k := by
  rw [drop_cons s q h, Lx.quoted.eq_def]
  simp only [hc, hd, if_false, hr]
theorem quoted_esc (s : ByteArray) (q k : Nat) (h : q < s.size) (hc : s[q] = 92) (h1 : q + 1 < s.size) :
    Lx.quoted k (s.data.toList.drop q) = match Lx.esc s[q + 1] with | some x => (Lx.quoted (k + 2) (s.data.toList.drop (q + 2))).map fun y => (x :: y.1, y.2) | none => .err 82 k := by
  rw [drop_cons s q h, drop_cons s (q + 1) h1, Lx.quoted]
  simp [hc]
  rfl
theorem quoted_escend (s : ByteArray) (q k : Nat) (h : q + 1 = s.size) (hc : s[q] = 92) : Lx.quoted k (s.data.toList.drop q) = .err 81 0 := by
  rw [drop_cons s q (by omega), List.drop_of_length_le (by simp; omega), Lx.quoted]
  simp [hc]
theorem quoted_end (s : ByteArray) (q k : Nat) (h : s.size ≤ q) : Lx.quoted k (s.data.toList.drop q) = .err 81 0 := by
  rw [List.drop_of_length_le (by simpa using h)]; rfl
end Go.Proofs.YtjcnhoagccdclaaDoor
