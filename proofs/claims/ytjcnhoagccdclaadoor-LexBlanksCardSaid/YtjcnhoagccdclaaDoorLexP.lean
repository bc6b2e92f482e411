/-
  alive: the document's examples.
-/
import Derived.Test.YtjcnhoagccdclaaDoorLexO
namespace Go.Proofs.YtjcnhoagccdclaaDoor
open Go.RowKit
open Lx (Byte)

theorem below_step {B : Nat} {w w1 w2 : World} (h : Below B w w1) (k : Below w1.heap.size w1 w2) (hB : B ≤ w1.heap.size) : Below B w w2 :=
  below_chg h hB (Chg.of_below (S := fun _ => False) k) (fun _ x => x.elim)
theorem TokAt.below {w w' : World} {g i : Nat} {t : Lx.Tok} (h : TokAt w g i t) (hb : Below w.heap.size w w') : TokAt w' g i t := by
  have hc : ∀ {a v}, w.cell? a = some v → w'.cell? a = some v := fun hx => (Chg.of_below (S := fun _ => False) hb).cell hx (fun x => x)
  exact ⟨hc h.kind, hc h.text, hc h.num, hc h.at_, hc h.quoted, hc h.apart⟩
theorem RowOf.below {w w' : World} {v : Value} {l : List Lx.Tok} (h : RowOf w v l) (hb : Below w.heap.size w w') : RowOf w' v l := by
  rcases h with h | ⟨g, cap, hv, hc, ht⟩
  · exact .inl h
  · exact .inr ⟨g, cap, hv, hc, fun i hi => (ht i hi).below hb⟩
theorem FaultAt.below {w w' : World} {v : Value} {c a : Int} (h : FaultAt w v c a) (hb : Below w.heap.size w w') : FaultAt w' v c a := by
  obtain ⟨N, h1, h2⟩ := h
  exact ⟨N, h1, (Chg.of_below (S := fun _ => False) hb).keeps h2 (fun x => x)⟩
theorem RowOf.at_ {w : World} {v : Value} {l : List Lx.Tok} (h : RowOf w v l) (hl : 0 < l.length) : ∃ g cap, v = .slice (some ⟨g, 0, none⟩) l.length cap ∧ l.length ≤ cap ∧ ∀ i (h : i < l.length), TokAt w g i l[i] := by
  rcases h with ⟨h, _⟩ | h
  · rw [h] at hl; simp at hl
  · exact h

set_option maxRecDepth 100000 in
set_option maxHeartbeats 4000000 in
theorem alive_any (w : World) (hv : Vars w) :
    Calls Tryd.prog 9 #[] w fun e w' => e = .returned (.bool true) ∧ Below w.heap.size w w' := by
  go_enter Tryd.func9, Tryd.ntmps9
  go_wp2_with fail
  refine (tokens_ok hv ex_a).mono ?_
  rintro e w1 ⟨va, rfl, hra, hb1⟩
  have hv1 := hv.below hb1
  go_wp2_with fail
  refine (tokens_ok hv1 ex_b).mono ?_
  rintro e w2 ⟨vb, rfl, hrb, hb2⟩
  have hv2 := hv1.below hb2
  go_wp2_with fail
  refine (tokens_ok hv2 ex_c).mono ?_
  rintro e w3 ⟨vc, rfl, hrc, hb3⟩
  have hv3 := hv2.below hb3
  go_wp2_with fail
  refine (tokens_ok hv3 ex_d).mono ?_
  rintro e w4 ⟨vd, rfl, hrd, hb4⟩
  have hv4 := hv3.below hb4
  go_wp2_with fail
  refine (tokens_err hv4 ex_i).mono ?_
  rintro e w5 ⟨fv, rfl, hf, hb5⟩
  have hv5 := hv4.below hb5
  have hw4 : Below w.heap.size w w4 := below_step (below_step (below_step hb1 hb2 hb1.size) hb3 (Nat.le_trans hb1.size hb2.size)) hb4 (Nat.le_trans (Nat.le_trans hb1.size hb2.size) hb3.size)
  have hw : Below w.heap.size w w5 := below_step hw4 hb5 hw4.size
  obtain ⟨ga, ca, rfl, hca, hta⟩ := ((((RowOf.of hra).below hb2).below hb3).below hb4 |>.below hb5).at_ (by decide)
  obtain ⟨gb, cb, rfl, hcb, htb⟩ := (((RowOf.of hrb).below hb3).below hb4 |>.below hb5).at_ (by decide)
  obtain ⟨gc, cc, rfl, hcc, htc⟩ := ((RowOf.of hrc).below hb4 |>.below hb5).at_ (by decide)
  obtain ⟨gd, cd, rfl, hcd, htd⟩ := ((RowOf.of hrd).below hb5).at_ (by decide)
  have a25 : w5.cell? ⟨ga, 25, none⟩ = some (.string ⟨#[97, 32, 98]⟩) := (hta 4 (by decide)).text
  have a28 : w5.cell? ⟨ga, 28, none⟩ = some (.bool true) := (hta 4 (by decide)).quoted
  have a36 : w5.cell? ⟨ga, 36, none⟩ = some (.int .i64 5) := (hta 6 (by decide)).kind
  have b7 : w5.cell? ⟨gb, 7, none⟩ = some (.string ⟨#[58, 45]⟩) := (htb 1 (by decide)).text
  have c2 : w5.cell? ⟨gc, 2, none⟩ = some (.int .i64 97) := (htc 0 (by decide)).num
  have d7 : w5.cell? ⟨gd, 7, none⟩ = some (.string ⟨#[46]⟩) := (htd 1 (by decide)).text
  obtain ⟨N, rfl, hN⟩ := hf
  have hf : FaultAt w5 (.iface 51 (.pointer (some ⟨N, 0, none⟩))) 81 0 := ⟨N, rfl, hN⟩
  clear hta htb htc htd hra hrb hrc hrd
  go_wp2_with fail
  refine (code_fault _ 81 0 _ hf hv5.err).mono ?_
  rintro e w6 ⟨rfl, hb6⟩
  have hv6 := hv5.below hb6
  go_wp2_with fail
  refine (bare_any _ _ hv6).mono ?_
  rintro e w7 ⟨rfl, hb7⟩
  rw [bare_foo]
  have hv7 := hv6.below hb7
  go_wp2_with fail
  refine (bare_any _ _ hv7).mono ?_
  rintro e w8 ⟨rfl, hb8⟩
  rw [bare_nil]
  go_wp2_with (go_at_call 16; refine (sign_any 43 _).mono ?_; rintro e w' ⟨rfl, rfl⟩)
  go_ret
  exact ⟨ret_bool (by decide), below_step (below_step (below_step hw hb6 hw.size) hb7 (Nat.le_trans hw.size hb6.size)) hb8 (Nat.le_trans (Nat.le_trans hw.size hb6.size) hb7.size)⟩
end Go.Proofs.YtjcnhoagccdclaaDoor
