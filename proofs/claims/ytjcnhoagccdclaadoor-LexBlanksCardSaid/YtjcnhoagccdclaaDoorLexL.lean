/-
  Tokens: the walk.
-/
import Derived.Test.YtjcnhoagccdclaaDoorLexK
import Derived.Deep.RegionLaw
import Derived.Deep.AppendLies
namespace Go.Proofs.YtjcnhoagccdclaaDoor
open Go.RowKit
open Lx (Byte)

/-- The relation at the loop's head. -/
structure TokLoop (text : ByteArray) (w : World) (u : Value) (wr : World) (p : Nat) (done : List Lx.Tok) (first : Bool) (fuel : Nat) (v : Value) : Prop where
  hu : u = .bool first
  le : p ≤ text.size
  fu : text.size - p < fuel
  spec : Lx.tokens text.data.toList = (Lx.toksF fuel p first (text.data.toList.drop p)).map (done ++ ·)
  scan : ScanAt wr w.heap.size text p v
  row : wr.ownsRow (w.heap.size + 1) 29 6 v done.length (done.flatMap tokCells)
  chg : Chg (fun _ => False) w wr
  cnt : done.length ≤ p

theorem TokLoop.start (text : ByteArray) (w : World) (hs : text.size ≤ 16384) : TokLoop text w (.bool true) (w.alloc (.cells #[.string text, .int .i64 0, .slice none 0 0] 46)) 0 [] true (text.size + 1) (.slice none 0 0) := by
  refine ⟨rfl, Nat.zero_le _, by omega, ?_, heap_alloc_new w _, World.ownsRow_nil _ _ _ _, (Chg.refl _ _).alloc _, Nat.le_refl _⟩
  unfold Lx.tokens
  rw [if_neg (by simp; omega)]
  simp only [Array.length_toList, ByteArray.size_data, List.drop_zero]
  cases Lx.toksF (text.size + 1) 0 true text.data.toList <;> rfl

theorem row_chg {w w' : World} {base : Nat} {e : TypeId} {size : Nat} {v : Value} {n : Nat} {xs : List Value} (h : w.ownsRow base e size v n xs) {S : Nat → Prop} (hc : Chg S w w') (hS : ∀ k, S k → k < base) : w'.ownsRow base e size v n xs := by
  obtain ⟨h1, h2⟩ := h
  refine ⟨h1, ?_⟩
  rcases h2 with h2 | ⟨g, cap, cur, hv, hg, hb, hr⟩
  · exact .inl h2
  · exact .inr ⟨g, cap, cur, hv, hg, hc.keeps hb (fun s => by have := hS g s; omega), hr⟩
theorem row_base {w : World} {base base' : Nat} {e : TypeId} {size : Nat} {v : Value} {n : Nat} {xs : List Value} (h : w.ownsRow base e size v n xs) (hb : base' ≤ base) : w.ownsRow base' e size v n xs := by
  obtain ⟨h1, h2⟩ := h
  refine ⟨h1, ?_⟩
  rcases h2 with h2 | ⟨g, cap, cur, hv, hg, hr⟩
  · exact .inl h2
  · exact .inr ⟨g, cap, cur, hv, Nat.le_trans hb hg, hr⟩

theorem tok_info : (Tryd.prog.info? 29).map (fun i => (i.zero, i.size, i.bytes)) = some (some (.agg #[.int .i64 0, .string ByteArray.empty, .int .i64 0, .int .i64 0, .bool false, .bool false]), 6, 48) := by kernel_rfl
theorem heap_settle_old {w : World} {N : Nat} (h : N < w.heap.size) (o : Obj) : (w.alloc o).heap[N]? = w.heap[N]? := Below.heap_alloc w o N h

theorem TokensPost.ok_of {text : ByteArray} {w w' : World} {l : List Lx.Tok} {v : Value} (h : Lx.tokens text.data.toList = .ok l) (h1 : w'.ownsRow w.heap.size 29 6 v l.length (l.flatMap tokCells)) (h2 : Below w.heap.size w w') : TokensPost text w (.returned (.tuple #[v, .nilIface])) w' := by
  unfold TokensPost; rw [h]; exact ⟨v, rfl, h1, h2⟩
theorem TokensPost.err_of {text : ByteArray} {w w' : World} {c a : Nat} {fv : Value} (h : Lx.tokens text.data.toList = .err c a) (h1 : FaultAt w' fv c (a : Nat)) (h2 : Below w.heap.size w w') : TokensPost text w (.returned (.tuple #[.slice none 0 0, fv])) w' := by
  unfold TokensPost; rw [h]; exact ⟨fv, rfl, h1, h2⟩

theorem wp_settleT {P : Program} {c : Code} {Q : Exit → Act → World → Prop} {a : Act} {w0 w : World} {S : Nat → Prop} {K b q B n : Nat} {xs : List Value} {text : ByteArray} {v a0 a1 a2 a3 a4 a5 : Value} (hT : TAt w K a0 a1 a2 a3 a4 a5) (hS : ScanAt w b text q v) (hR : w.ownsRow B 29 6 v n xs) (hC : Chg S w0 w)
    (h : ∀ w3, TAt w3 K a0 a1 a2 a3 a4 a5 → ScanAt w3 b text q v → w3.ownsRow B 29 6 v n xs → Chg S w0 w3 → c.wp P Q a w3) : c.wp P Q a w := h w hT hS hR hC
theorem ScanAt.out {w : World} {b : Nat} {text : ByteArray} {p : Nat} {v : Value} (h : ScanAt w b text p v) (v' : Value) : ScanAt (w.setCell ⟨b, 2, none⟩ v') b text p v' := block_setCell h (j := 2) v'

theorem map_more (r : Lx.Res (List Lx.Tok)) (done : List Lx.Tok) (tk : Lx.Tok) : (r.map fun l => tk :: l).map (done ++ ·) = r.map ((done ++ [tk]) ++ ·) := by
  cases r <;> simp [Lx.Res.map]
theorem more_row {w : World} {base : Nat} {v : Value} {done : List Lx.Tok} {tk : Lx.Tok} (h : w.ownsRow base 29 6 v (done.length + 1) (done.flatMap tokCells ++ tokCells tk)) : w.ownsRow base 29 6 v (done ++ [tk]).length ((done ++ [tk]).flatMap tokCells) := by
  simpa using h
theorem tok_chg {w w4 w5 : World} {o : Obj} {v v' : Value} {e : TypeId} {n : Nat} {xs : List Value} (h : Chg (· = w.heap.size) w w4) (hg : (w4.alloc o).drew.grownBy w5 v.ownBlock) (hr : w4.ownsRow (w.heap.size + 1) e 6 v n xs) (hs : w.heap.size ≤ w4.heap.size) :
    Chg (fun _ => False) w (w5.setCell ⟨w.heap.size, 2, none⟩ v') := by
  have h1 : Chg (fun _ => False) w w4 := h.mono (fun k hk hk' => by subst hk'; exact Nat.lt_irrefl _ hk)
  have h2 : Below w.heap.size w (w4.alloc o).drew := ((Chg.of_below (S := fun _ => False) (h1.below.alloc hs o)).drew).below
  have h3 : Below w.heap.size w w5 := Below.grown h2 hg (by simp; omega) (fun j hj => by have := (hr.lt _ hj).1; omega)
  exact (Chg.of_below h3).setCell _ _ (.inl (Nat.le_refl _))

set_option maxRecDepth 100000 in
set_option maxHeartbeats 40000000 in
theorem tokens_any (text : ByteArray) (w : World) (hs : text.size ≤ 16384) (hr : ErrRangeAt w) (m : Int) (hm : w.cell? ⟨2, 0, none⟩ = some (.int .i64 m)) :
    Calls Tryd.prog 10 #[.string text] w (TokensPost text w) := by
  have hle : (text.size : Int) ≤ 16384 := by omega
  have hbm : w.heap.size ≠ 2 := by have := World.block_lt_of_cell? _ _ hm; simp at this; omega
  have hbr : w.heap.size ≠ 1 := by obtain ⟨er, h⟩ := hr; have := World.block_lt_of_cell? _ _ h; simp at this; omega
  have hst := TokLoop.start text w hs
  go_enter Tryd.func10, Tryd.ntmps10
  go_wp2
  go_loopw [5] (fun u wr => ∃ p done first fuel v, TokLoop text w u wr p done first fuel v) (fun _ wr => text.size - placeOf wr w.heap.size)
  case atStart => exact ⟨0, [], true, _, _, hst⟩
  case round =>
    clear hst
    obtain ⟨p, done, first, fuel, v, hL⟩ := hrel
    obtain ⟨rfl, hp, hfu, hspec, hsc, hrow, hch, hcnt⟩ := hL
    obtain ⟨k, rfl⟩ : ∃ k, fuel = k + 1 := ⟨fuel - 1, by omega⟩
    have hlt := lt_of_block hsc
    have hK := fun wx h hm => skip_any w.heap.size text p v m wx h hp (by omega) hm hbm
    have hm1 := hch.cell hm (fun x => x)
    unfold SkipPost at hK
    have Hspec := Lib.hid hspec
    clear hspec
    cases hsk : skipAt text p with
    | err c a =>
      rw [hsk] at hK
      have HSK := Lib.hid hsk
      clear hsk
      go_wp2_with (first | (go_at_call 18; refine (hK _ (by exact hsc) (by exact hm1)).mono ?_; rintro e w1 ⟨fv, rfl, ⟨N, rfl, hN⟩, hch1⟩))
      all_goals go_ret2
      refine TokensPost.err_of (c := c) (a := a) ?_ ⟨N, rfl, hN⟩ ?_
      · rw [Hspec.out, toks_skip_err HSK.out]; rfl
      · exact below_chg hch.below (Nat.le_of_lt hlt) hch1 (by rintro i rfl; exact Nat.le_refl _)
    | ok n =>
      rw [hsk] at hK
      have hstp := skipAt_stop hsk
      have HSK := Lib.hid hsk
      clear hsk
      have hn1 := hstp.1
      have hn2 := hstp.2.1 hp
      by_cases hend : text.size ≤ n
      · have hE := ended_any w.heap.size text n v
        rw [show decide (text.size ≤ n) = true from by simpa using hend] at hE
        go_wp2_with (first | (go_at_call 18; refine (hK _ (by exact hsc) (by exact hm1)).mono ?_; rintro e w1 ⟨rfl, hsc1, hch1⟩; obtain ⟨d0, d1, d2, g0, g1, g2⟩ := hsc1.cells) | (go_at_call 19; refine (hE _ (by exact hsc1)).mono ?_; rintro e w' ⟨rfl, n1, rfl⟩))
        all_goals go_ret2
        refine TokensPost.ok_of (l := done) ?_ ?_ ?_
        · rw [Hspec.out, toks_end HSK.out hend]; simp [Lx.Res.map]
        · exact row_base (row_chg hrow (hch1.drewN _) (by rintro k rfl; exact Nat.lt_succ_self _)) (Nat.le_succ _)
        · exact below_chg hch.below (Nat.le_of_lt hlt) (hch1.drewN _) (by rintro i rfl; exact Nat.le_refl _)
      · have hlt2 : n < text.size := by omega
        have hE := ended_any w.heap.size text n v
        rw [show decide (text.size ≤ n) = false from by simpa using hend] at hE
        have hT := fun wx h hr => token_any w.heap.size text n v wx h hlt2 (by omega) hr hbr
        unfold TokenPost rawVal at hT
        have hr1 : ErrRangeAt wr := by obtain ⟨er, h⟩ := hr; exact ⟨er, hch.cell h (fun x => x)⟩
        cases htk : Lx.token (text.data.toList.drop n) with
        | err c a =>
          rw [htk] at hT
          have HTK := Lib.hid htk
          clear htk
          go_wp2_with (first | (go_at_call 18; refine (hK _ (by exact hsc) (by exact hm1)).mono ?_; rintro e w1 ⟨rfl, hsc1, hch1⟩; obtain ⟨d0, d1, d2, g0, g1, g2⟩ := hsc1.cells) | (go_at_call 19; refine (hE _ (by exact hsc1)).mono ?_; rintro e w' ⟨rfl, n1, rfl⟩) | (go_at_call 20; refine (hT _ (by exact hsc1.drewN _) (by exact hr1.chg (hch1.drewN _) hbr)).mono ?_; rintro e w2 ⟨k1, s1, i1, j1, q1, r1, fv, rfl, ⟨N, rfl, hN⟩, hch2⟩))
          all_goals go_ret2
          refine TokensPost.err_of (c := c) (a := n + a) ?_ ⟨N, rfl, ?_⟩ ?_
          · rw [Hspec.out, toks_err HSK.out hlt2 HTK.out]; rfl
          · rw [← hN]; exact heap_settle_old (lt_of_block hN) _
          · exact below_chg hch.below (Nat.le_of_lt hlt) (((hch1.drewN _).trans hch2).alloc _) (by rintro i rfl; exact Nat.le_refl _)
        | ok t =>
          rw [htk] at hT
          have hkind := token_kind htk
          have hlen : 0 < t.len ∧ n + t.len ≤ text.size := by
            rcases token_len_at HSK.out htk with h | h
            · exact h
            · exact absurd h hend
          have HTK := Lib.hid htk
          clear htk
          by_cases hlong : t.kind ≤ 2 ∧ t.text.length > 64
          · have hl64 : (64 : Int) < t.text.length := by omega
            have HL := Lib.hid hlong
            have hk2 := hlong.1
            clear hlong
            go_wp2_with (first | (go_at_call 18; refine (hK _ (by exact hsc) (by exact hm1)).mono ?_; rintro e w1 ⟨rfl, hsc1, hch1⟩; obtain ⟨d0, d1, d2, g0, g1, g2⟩ := hsc1.cells) | (go_at_call 19; refine (hE _ (by exact hsc1)).mono ?_; rintro e w' ⟨rfl, n1, rfl⟩) | (go_at_call 20; refine (hT _ (by exact hsc1.drewN _) (by exact hr1.chg (hch1.drewN _) hbr)).mono ?_; rintro e w2 ⟨rfl, hsc2, hch2⟩) | (go_at_call 17; refine (new_any 2 _ (by decide) _).mono ?_; rintro e w3 ⟨fv, rfl, hf, hbl⟩))
            all_goals (try omega)
            all_goals go_ret2
            all_goals refine TokensPost.err_of (c := 2) (a := n) (by rw [Hspec.out, toks_long HSK.out hlt2 HTK.out HL.out]; rfl) hf ?_
            all_goals exact below_chg hch.below (Nat.le_of_lt hlt) ((((hch1.drewN _).trans hch2).alloc _).trans (Chg.of_below hbl)) (by rintro i rfl; exact Nat.le_refl _)
          · have HL := Lib.hid hlong
            have happ : Hid (∃ i0, Tryd.prog.info? 29 = some i0 ∧ i0.zero = some (.agg #[.int .i64 0, .string ByteArray.empty, .int .i64 0, .int .i64 0, .bool false, .bool false]) ∧ i0.size = 6 ∧ i0.bytes = 48) := Lib.hid (info_parts tok_info)
            by_cases hk2 : t.kind ≤ 2
            · have hl64 : (t.text.length : Int) ≤ 64 := by omega
              clear hlong
              go_wp2_with (first | (go_at_call 18; refine (hK _ (by exact hsc) (by exact hm1)).mono ?_; rintro e w1 ⟨rfl, hsc1, hch1⟩; obtain ⟨d0, d1, d2, g0, g1, g2⟩ := hsc1.cells) | (go_at_call 19; refine (hE _ (by exact hsc1)).mono ?_; rintro e w' ⟨rfl, n1, rfl⟩) | (go_at_call 20; refine (hT _ (by exact hsc1.drewN _) (by exact hr1.chg (hch1.drewN _) hbr)).mono ?_; rintro e w2 ⟨rfl, hsc2, hch2⟩))
              all_goals (try omega)

              all_goals (
                refine wp_settleT (K := w2.heap.size) (a0 := .int .i64 t.kind) (a1 := .string ⟨t.text.toArray⟩) (a2 := .int .i64 t.num) (a3 := .int .i64 (n : Int)) (a4 := .bool t.quoted) (a5 := .bool (decide (p < n) || first)) ?_ (ScanAt.alloc hsc2 _) (row_chg hrow (((hch1.drewN _).trans hch2).alloc _) (by rintro k rfl; exact Nat.lt_succ_self _)) ((hch.mono (fun _ _ h => h.elim)).trans (((hch1.drewN _).trans hch2).alloc _)) ?_
                · first
                    | exact heap_alloc_new w2 _
                    | (rw [show (decide (p < n) || first) = true by simp [show p < n by omega]]; exact heap_alloc_new w2 _)
                    | (rw [show t.kind = 1 by omega]; first | exact heap_alloc_new w2 _ | (rw [show (decide (p < n) || first) = true by simp [show p < n by omega]]; exact heap_alloc_new w2 _))
                    | (rw [show t.kind = 2 by omega]; first | exact heap_alloc_new w2 _ | (rw [show (decide (p < n) || first) = true by simp [show p < n by omega]]; exact heap_alloc_new w2 _))
                · clear hK hE hT
                  (try (rename t.kind = 1 => hx; clear hx))
                  (try (rename t.kind = 2 => hx; clear hx))
                  (try (rename p < n => hx; clear hx))
                  intro w4 hT4 hsc4 hrow4 hch4
                  obtain ⟨d0, d1, d2, g0, g1, g2⟩ := hsc4.cells
                  obtain ⟨t0, t1, t2, t3, t4, t5⟩ := hT4.cells
                  obtain ⟨i0, hi, hz0, hz1, hz2⟩ := happ.out
                  have hlt4 := lt_of_block hsc4
                  have hcl : done.length ≤ 16384 := by omega
                  go_region_law ((refine step_append_lies _ (by rfl) _ _ _ (by rfl) (w.heap.size + 1) 29 i0 (.agg #[.int .i64 0, .string ByteArray.empty, .int .i64 0, .int .i64 0, .bool false, .bool false]) 6 48 Tryd.underlying23 hi hz0 hz1 hz2 (by rfl) (by decide) v done.length (done.flatMap tokCells) (by rfl) (by exact (World.ownsRow.alloc hrow4 _).drew) ⟨w4.heap.size, 0, none⟩ 1 1 (tokCells ⟨t.kind, t.text, t.num, n, t.quoted, decide (p < n) || first⟩) (by rfl) (by rfl) (World.news_of_block (B := w4.heap.size) (by exact heap_alloc_new w4 _)) (fun x hx => by simp only [tokCells, List.mem_cons, List.not_mem_nil, or_false] at hx; rcases hx with rfl | rfl | rfl | rfl | rfl | rfl <;> rfl) (by omega) (by unfold maxLen; omega) (by omega) (by simp; omega) (w4.heap.size + 1) (by simp) ?_; intro g cap w5 hown5 hgrow5 hat5 hlt5; have hsc5 : ScanAt w5 w.heap.size text (n + t.len) v := ((hgrow5.block w.heap.size (by simp; omega) (fun h => by have := (hrow4.lt _ h.symm).1; omega)).trans (by exact hsc4.alloc _)); clear d0 d1 d2 g0 g1 g2; obtain ⟨d0, d1, d2, g0, g1, g2⟩ := hsc5.cells))
                  all_goals go_wp2
                  all_goals (
                    go_roundw
                    case rel => exact ⟨n + t.len, done ++ [⟨t.kind, t.text, t.num, n, t.quoted, decide (p < n) || first⟩], false, k, _, ⟨rfl, hlen.2, by omega, by rw [Hspec.out, toks_more HSK.out hlt2 HTK.out HL.out]; exact map_more _ _ _, hsc5.out _, more_row (row_chg hown5 ((Chg.refl (· = w.heap.size) w5).put 2 _) (by rintro k rfl; exact Nat.lt_succ_self _)), tok_chg hch4 hgrow5 hrow4 (by omega), by rw [List.length_append]; simp only [List.length_singleton]; omega⟩⟩
                    case measure => rw [placeOf_of hsc, placeOf_of (hsc5.out _)]; omega))
            · have hk3 : ¬ t.kind = 1 := by omega
              have hk4 : ¬ t.kind = 2 := by omega
              clear hlong
              go_wp2_with (first | (go_at_call 18; refine (hK _ (by exact hsc) (by exact hm1)).mono ?_; rintro e w1 ⟨rfl, hsc1, hch1⟩; obtain ⟨d0, d1, d2, g0, g1, g2⟩ := hsc1.cells) | (go_at_call 19; refine (hE _ (by exact hsc1)).mono ?_; rintro e w' ⟨rfl, n1, rfl⟩) | (go_at_call 20; refine (hT _ (by exact hsc1.drewN _) (by exact hr1.chg (hch1.drewN _) hbr)).mono ?_; rintro e w2 ⟨rfl, hsc2, hch2⟩))

              all_goals (
                refine wp_settleT (K := w2.heap.size) (a0 := .int .i64 t.kind) (a1 := .string ⟨t.text.toArray⟩) (a2 := .int .i64 t.num) (a3 := .int .i64 (n : Int)) (a4 := .bool t.quoted) (a5 := .bool (decide (p < n) || first)) ?_ (ScanAt.alloc hsc2 _) (row_chg hrow (((hch1.drewN _).trans hch2).alloc _) (by rintro k rfl; exact Nat.lt_succ_self _)) ((hch.mono (fun _ _ h => h.elim)).trans (((hch1.drewN _).trans hch2).alloc _)) ?_
                · first
                    | exact heap_alloc_new w2 _
                    | (rw [show (decide (p < n) || first) = true by simp [show p < n by omega]]; exact heap_alloc_new w2 _)
                    | (rw [show t.kind = 1 by omega]; first | exact heap_alloc_new w2 _ | (rw [show (decide (p < n) || first) = true by simp [show p < n by omega]]; exact heap_alloc_new w2 _))
                    | (rw [show t.kind = 2 by omega]; first | exact heap_alloc_new w2 _ | (rw [show (decide (p < n) || first) = true by simp [show p < n by omega]]; exact heap_alloc_new w2 _))
                · clear hK hE hT
                  (try (rename t.kind = 1 => hx; clear hx))
                  (try (rename t.kind = 2 => hx; clear hx))
                  (try (rename p < n => hx; clear hx))
                  intro w4 hT4 hsc4 hrow4 hch4
                  obtain ⟨d0, d1, d2, g0, g1, g2⟩ := hsc4.cells
                  obtain ⟨t0, t1, t2, t3, t4, t5⟩ := hT4.cells
                  obtain ⟨i0, hi, hz0, hz1, hz2⟩ := happ.out
                  have hlt4 := lt_of_block hsc4
                  have hcl : done.length ≤ 16384 := by omega
                  go_region_law ((refine step_append_lies _ (by rfl) _ _ _ (by rfl) (w.heap.size + 1) 29 i0 (.agg #[.int .i64 0, .string ByteArray.empty, .int .i64 0, .int .i64 0, .bool false, .bool false]) 6 48 Tryd.underlying23 hi hz0 hz1 hz2 (by rfl) (by decide) v done.length (done.flatMap tokCells) (by rfl) (by exact (World.ownsRow.alloc hrow4 _).drew) ⟨w4.heap.size, 0, none⟩ 1 1 (tokCells ⟨t.kind, t.text, t.num, n, t.quoted, decide (p < n) || first⟩) (by rfl) (by rfl) (World.news_of_block (B := w4.heap.size) (by exact heap_alloc_new w4 _)) (fun x hx => by simp only [tokCells, List.mem_cons, List.not_mem_nil, or_false] at hx; rcases hx with rfl | rfl | rfl | rfl | rfl | rfl <;> rfl) (by omega) (by unfold maxLen; omega) (by omega) (by simp; omega) (w4.heap.size + 1) (by simp) ?_; intro g cap w5 hown5 hgrow5 hat5 hlt5; have hsc5 : ScanAt w5 w.heap.size text (n + t.len) v := ((hgrow5.block w.heap.size (by simp; omega) (fun h => by have := (hrow4.lt _ h.symm).1; omega)).trans (by exact hsc4.alloc _)); clear d0 d1 d2 g0 g1 g2; obtain ⟨d0, d1, d2, g0, g1, g2⟩ := hsc5.cells))
                  all_goals go_wp2
                  all_goals (
                    go_roundw
                    case rel => exact ⟨n + t.len, done ++ [⟨t.kind, t.text, t.num, n, t.quoted, decide (p < n) || first⟩], false, k, _, ⟨rfl, hlen.2, by omega, by rw [Hspec.out, toks_more HSK.out hlt2 HTK.out HL.out]; exact map_more _ _ _, hsc5.out _, more_row (row_chg hown5 ((Chg.refl (· = w.heap.size) w5).put 2 _) (by rintro k rfl; exact Nat.lt_succ_self _)), tok_chg hch4 hgrow5 hrow4 (by omega), by rw [List.length_append]; simp only [List.length_singleton]; omega⟩⟩
                    case measure => rw [placeOf_of hsc, placeOf_of (hsc5.out _)]; omega))
end Go.Proofs.YtjcnhoagccdclaaDoor
