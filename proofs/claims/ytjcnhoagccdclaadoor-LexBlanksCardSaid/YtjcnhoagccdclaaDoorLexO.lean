/-
  The document's examples: what the tokens of the five texts of alive are.
-/
import Derived.Test.YtjcnhoagccdclaaDoorLexN
namespace Go.Proofs.YtjcnhoagccdclaaDoor
open Go.RowKit
open Lx (Byte)

theorem ex_a : Lx.tokens (⟨#[102, 111, 111, 40, 88, 44, 39, 97, 32, 98, 39, 41, 46]⟩ : ByteArray).data.toList = .ok [⟨1, [102, 111, 111], 0, 0, false, true⟩, ⟨4, [40], 0, 3, false, false⟩, ⟨2, [88], 0, 4, false, false⟩, ⟨4, [44], 0, 5, false, false⟩, ⟨1, [97, 32, 98], 0, 6, true, false⟩, ⟨4, [41], 0, 11, false, false⟩, ⟨5, [46], 0, 12, false, false⟩] := by
  show Lx.tokens [102, 111, 111, 40, 88, 44, 39, 97, 32, 98, 39, 41, 46] = _
  simp [Lx.tokens, Lx.toksF, Lx.skip, Lx.token, Lx.blank, Lx.small, Lx.capital, Lx.digit, Lx.letter, Lx.punct, Lx.puncts, Lx.run, Lx.Res.map, Lx.plain, Lx.quoted, Lx.stop]
theorem ex_b : Lx.tokens (⟨#[97, 58, 45, 98]⟩ : ByteArray).data.toList = .ok [⟨1, [97], 0, 0, false, true⟩, ⟨1, [58, 45], 0, 1, false, false⟩, ⟨1, [98], 0, 3, false, false⟩] := by
  show Lx.tokens [97, 58, 45, 98] = _
  simp [Lx.tokens, Lx.toksF, Lx.skip, Lx.token, Lx.blank, Lx.small, Lx.capital, Lx.digit, Lx.letter, Lx.punct, Lx.puncts, Lx.run, Lx.Res.map, Lx.plain, Lx.stop, Lx.sign, Lx.signs, Lx.symbols]
theorem ex_c : Lx.tokens (⟨#[48, 39, 97]⟩ : ByteArray).data.toList = .ok [⟨3, [48, 39, 97], 97, 0, false, true⟩] := by
  show Lx.tokens [48, 39, 97] = _
  simp [Lx.tokens, Lx.toksF, Lx.skip, Lx.token, Lx.blank, Lx.small, Lx.capital, Lx.digit, Lx.Res.map, Lx.number, Lx.code]
theorem ex_d : Lx.tokens (⟨#[120, 46, 121]⟩ : ByteArray).data.toList = .ok [⟨1, [120], 0, 0, false, true⟩, ⟨1, [46], 0, 1, false, false⟩, ⟨1, [121], 0, 2, false, false⟩] := by
  show Lx.tokens [120, 46, 121] = _
  simp [Lx.tokens, Lx.toksF, Lx.skip, Lx.token, Lx.blank, Lx.small, Lx.capital, Lx.digit, Lx.letter, Lx.punct, Lx.puncts, Lx.run, Lx.Res.map, Lx.plain, Lx.stop, Lx.sign, Lx.signs, Lx.symbols]
theorem ex_i : Lx.tokens (⟨#[39, 97]⟩ : ByteArray).data.toList = .err 81 0 := by
  show Lx.tokens [39, 97] = _
  simp [Lx.tokens, Lx.toksF, Lx.skip, Lx.token, Lx.blank, Lx.small, Lx.capital, Lx.digit, Lx.punct, Lx.puncts, Lx.Res.map, Lx.quoted]
theorem ex_foo : Lx.tokens (⟨#[102, 111, 111]⟩ : ByteArray).data.toList = .ok [⟨1, [102, 111, 111], 0, 0, false, true⟩] := by
  show Lx.tokens [102, 111, 111] = _
  simp [Lx.tokens, Lx.toksF, Lx.skip, Lx.token, Lx.blank, Lx.small, Lx.capital, Lx.digit, Lx.letter, Lx.run, Lx.Res.map, Lx.plain]
theorem ex_nil : Lx.tokens (⟨#[91, 93]⟩ : ByteArray).data.toList = .ok [⟨4, [91], 0, 0, false, true⟩, ⟨4, [93], 0, 1, false, false⟩] := by
  show Lx.tokens [91, 93] = _
  simp [Lx.tokens, Lx.toksF, Lx.skip, Lx.token, Lx.blank, Lx.small, Lx.capital, Lx.digit, Lx.punct, Lx.puncts, Lx.Res.map, Lx.plain]
theorem bare_foo : bare (⟨#[102, 111, 111]⟩ : ByteArray).data.toList = true := by unfold bare; rw [ex_foo]; rfl
theorem bare_nil : bare (⟨#[91, 93]⟩ : ByteArray).data.toList = false := by unfold bare; rw [ex_nil]
end Go.Proofs.YtjcnhoagccdclaaDoor
