/-
  LexBlanks: the walk.
-/
import Derived.Test.YtjcnhoagccdclaaDoorJoinsW
import Derived.Test.YtjcnhoagccdclaaDoorBlanksL
namespace Go.Proofs.YtjcnhoagccdclaaDoor
open Go.RowKit
open Lx (Byte)

/-- What of the texts is put ahead of the i-th token. -/
def sepOf (b : ByteArray) : List Byte := if Lx.tokens (b.data.toList ++ [10]) = .ok [] ∧ b.size < 50 then 10 :: (b.data.toList ++ [10]) else []
def sepAt (bs : List ByteArray) (i : Nat) : List Byte :=
  match bs[i % bs.length]? with
  | none => []
  | some b => sepOf b
theorem sepAt_sep (bs : List ByteArray) (i : Nat) : Sep (sepAt bs i) := by
  unfold sepAt sepOf
  split
  · exact .inl rfl
  · rename_i b _
    by_cases h : Lx.tokens (b.data.toList ++ [10]) = .ok [] ∧ b.size < 50
    · rw [if_pos h]; exact .inr ⟨b.data.toList, rfl, h.1⟩
    · rw [if_neg h]; exact .inl rfl
theorem sepOf_len (b : ByteArray) : (sepOf b).length ≤ 52 := by
  unfold sepOf
  split
  · rename_i h
    have : b.data.toList.length = b.size := by simp
    simp only [List.length_cons, List.length_append, List.length_nil]; omega
  · simp
theorem sepOf_no {b : ByteArray} (h : ¬ (Lx.tokens (b.data.toList ++ [10]) = .ok [] ∧ b.size < 50)) : sepOf b = [] := by unfold sepOf; rw [if_neg h]
theorem sepOf_yes {b : ByteArray} (h : Lx.tokens (b.data.toList ++ [10]) = .ok []) (h2 : b.size < 50) : sepOf b = 10 :: (b.data.toList ++ [10]) := by unfold sepOf; rw [if_pos ⟨h, h2⟩]
theorem sepAt_get {bs : List ByteArray} {i : Nat} (h : i % bs.length < bs.length) : sepAt bs i = sepOf bs[i % bs.length] := by
  unfold sepAt; rw [List.getElem?_eq_getElem h]
theorem sepAt_nil (i : Nat) : sepAt [] i = [] := rfl

/-- What has been written when k tokens are done. -/
structure Written (T : List Byte) (sep : Nat → List Byte) (l : List Lx.Tok) (k : Nat) (O : ByteArray) : Prop where
  eq : put T sep 0 l = O.data.toList ++ put T sep k (l.drop k)
  size : O.size ≤ k * 2060
theorem Written.start (T : List Byte) (sep : Nat → List Byte) (l : List Lx.Tok) : Written T sep l 0 ⟨#[]⟩ := ⟨rfl, Nat.zero_le _⟩
theorem Written.step {text : ByteArray} {sep : Nat → List Byte} {l : List Lx.Tok} {k : Nat} {O O' : ByteArray} (h : Written text.data.toList sep l k O) (hk : k < l.length) {t : Lx.Tok} (ht : l[k] = t) {e : Nat} (ha : t.at_ ≤ e) (hle : e ≤ text.size) (ht2 : text.size ≤ 2000)
    (he : e = if h : k + 1 < l.length then l[k + 1].at_ else text.size) (hs : (sep k).length ≤ 52) (hO : O'.data.toList = O.data.toList ++ (sep k ++ (text.extract t.at_ e).data.toList)) : Written text.data.toList sep l (k + 1) O' := by
  have hdrop : l.drop k = t :: l.drop (k + 1) := by rw [← ht]; exact List.drop_eq_getElem_cons hk
  have hend : endOf text.data.toList (l.drop (k + 1)) = e := by
    rw [he]
    split
    · rename_i h1; rw [List.drop_eq_getElem_cons h1]; rfl
    · rename_i h1; rw [List.drop_of_length_le (by omega)]; show text.data.toList.length = text.size; simp
  refine ⟨?_, ?_⟩
  · rw [h.eq, hdrop, hO, part_list ha]
    show _ ++ (sep k ++ ((text.data.toList.drop t.at_).take (endOf text.data.toList (l.drop (k + 1)) - t.at_) ++ put text.data.toList sep (k + 1) (l.drop (k + 1)))) = _
    rw [hend]; simp only [List.append_assoc]
  · have h1 : O'.size = O'.data.toList.length := by simp
    have h2 : O.data.toList.length = O.size := by simp
    have h3 := h.size
    rw [h1, hO, List.length_append, List.length_append, part_list ha, List.length_take, List.length_drop, h2]
    have : text.data.toList.length = text.size := by simp
    omega
theorem Written.done {T : List Byte} {sep : Nat → List Byte} {l : List Lx.Tok} {k : Nat} {O : ByteArray} (h : Written T sep l k O) (hk : k = l.length) : put T sep 0 l = O.data.toList := by
  rw [h.eq, List.drop_of_length_le (by omega)]
  show _ ++ [] = _
  rw [List.append_nil]

/-- A slice of strings that came in. -/
def StrsAt (w : World) (v : Value) (bs : List ByteArray) : Prop :=
  (bs = [] ∧ ∃ ao cap, v = .slice ao 0 cap) ∨
  ∃ (b off cap : Nat), v = .slice (some ⟨b, off, none⟩) bs.length cap ∧ 0 < bs.length ∧ bs.length ≤ cap ∧ bs.length ≤ 140737488351232 ∧ (∀ i (h : i < bs.length), w.cell? ⟨b, off + i, none⟩ = some (.string bs[i])) ∧ ∀ s ∈ bs, s.size ≤ 140737488351232

set_option maxRecDepth 100000 in
set_option maxHeartbeats 4000000 in
theorem blanks_err (text : ByteArray) (vb : Value) (w : World) (hv : Vars w) {c a : Nat} (ht : Lx.tokens text.data.toList = .err c a) :
    Calls Tryd.prog 4 #[.string text, vb] w fun e w' => e = .returned (.bool true) ∧ Below w.heap.size w w' := by
  have hT := fun wx hv => tokens_err (w := wx) hv ht
  clear ht
  have HT := Lib.hid hT
  clear hT
  go_enter Tryd.func4, Tryd.ntmps4
  go_wp2_with fail
  refine (alive_any _ hv).mono ?_
  rintro e w1 ⟨rfl, hb1⟩
  have hv1 := hv.below hb1
  go_wp2_with fail
  refine (HT.out _ hv1).mono ?_
  rintro e w2 ⟨fv, rfl, ⟨N, rfl, hN⟩, hb2⟩
  go_wp2
  go_ret
  exact ⟨rfl, below_step hb1 hb2 hb1.size⟩

set_option maxRecDepth 100000 in
set_option maxHeartbeats 4000000 in
theorem blanks_long (text : ByteArray) (vb : Value) (w : World) (hv : Vars w) {l : List Lx.Tok} (ht : Lx.tokens text.data.toList = .ok l) (hl : 2000 < text.size) :
    Calls Tryd.prog 4 #[.string text, vb] w fun e w' => e = .returned (.bool true) ∧ Below w.heap.size w w' := by
  have hT := fun wx hv => tokens_ok (w := wx) hv ht
  have hl1 : (2000 : Int) < (text.size : Int) := by omega
  clear ht
  have HT := Lib.hid hT
  clear hT
  go_enter Tryd.func4, Tryd.ntmps4
  go_wp2_with fail
  refine (alive_any _ hv).mono ?_
  rintro e w1 ⟨rfl, hb1⟩
  have hv1 := hv.below hb1
  go_wp2_with fail
  refine (HT.out _ hv1).mono ?_
  rintro e w2 ⟨v, rfl, hr, hb2⟩
  go_wp2
  go_ret
  exact ⟨rfl, below_step hb1 hb2 hb1.size⟩

theorem nodot_step {l : List Lx.Tok} {k : Nat} {t : Lx.Tok} {hk : k < l.length} (h : ∀ j (hj : j < l.length), j < k → ¬ dotName l[j].kind l[j].text l[j].quoted) (ht : l[k] = t) (hd : ¬ dotName t.kind t.text t.quoted) :
    ∀ j (hj : j < l.length), j < k + 1 → ¬ dotName l[j].kind l[j].text l[j].quoted := by
  intro j hj hjk
  by_cases hjk2 : j < k
  · exact h j hj hjk2
  · obtain rfl : j = k := by omega
    rw [ht]; exact hd

set_option maxRecDepth 100000 in
set_option maxHeartbeats 40000000 in
theorem blanks_none (text : ByteArray) (ht2 : text.size ≤ 2000) (ao : Option Addr) (bcap : Nat) (w : World) (hv : Vars w) {l : List Lx.Tok} (ht : Lx.tokens text.data.toList = .ok l) :
    Calls Tryd.prog 4 #[.string text, (.slice ao 0 bcap)] w fun e w' => e = .returned (.bool true) ∧ Below w.heap.size w w' := by
  have hll : l.length ≤ 2000 := by have h1 := (tokens_count ht).1; have h2 : text.data.toList.length = text.size := by simp
                                   omega
  have HPL := Lib.hid (tokens_places ht)
  have HPUT := Lib.hid (fun hd hl => tokens_put (sep := sepAt []) (sepAt_sep []) ht hd hl)
  have HT := Lib.hid ht
  clear ht
  have ht2i : (text.size : Int) ≤ 2000 := by omega
  go_enter Tryd.func4, Tryd.ntmps4
  go_wp2_with fail
  refine (alive_any _ hv).mono ?_
  rintro e w1 ⟨rfl, hb1⟩
  have hv1 := hv.below hb1
  go_wp2_with fail
  refine (tokens_ok hv1 HT.out).mono ?_
  rintro e w2 ⟨v, rfl, hr, hb2⟩
  have hv2 := hv1.below hb2
  have HROW := Lib.hid (RowOf.of hr)
  obtain ⟨xo, cap, rfl, hcap, hto⟩ := RowOf.gen (RowOf.of hr)
  have HTO := Lib.hid hto
  have hbw : Below w.heap.size w w2 := below_step hb1 hb2 hb1.size
  clear hr hto hb1 hb2
  go_wp2
  go_loopw [7, 32] (fun o i wr => ∃ (k : Nat) (O : ByteArray), k ≤ l.length ∧ i = .int .i64 k ∧ o = .string O ∧ Written text.data.toList (sepAt []) l k O ∧ Below w2.heap.size w2 wr ∧ ∀ j (h : j < l.length), j < k → ¬ dotName l[j].kind l[j].text l[j].quoted) (fun _ i _ => l.length - (intOf i).toNat)
  case atStart => exact ⟨0, ⟨#[]⟩, Nat.zero_le _, rfl, rfl, Written.start _ _ _, Below.refl _ _, fun j _ h => by omega⟩
  case round =>
    obtain ⟨k, O, hk, rfl, rfl, hW, hbr, hnd⟩ := hrel
    have HND := Lib.hid hnd
    clear hnd
    have hOz : O.size ≤ 4120000 := by have := hW.size; omega
    have HW := Lib.hid hW
    clear hW
    have hbs' := hbr.size
    have hbwr := below_step hbw hbr hbw.size
    by_cases hlt : k < l.length
    · obtain ⟨g, hao, hT⟩ := HTO.out k hlt
      subst hao
      obtain ⟨t, ht⟩ : ∃ t, l[k] = t := ⟨_, rfl⟩
      rw [ht] at hT
      have hpl : t.at_ < text.size := by have := (HPL.out.2.1 k hlt).lt; rw [ht] at this; simpa using this
      have HTK := Lib.hid ht
      clear ht
      obtain ⟨c0, c1, c2, c3, c4, c5⟩ := hT.below hbr
      clear hT
      have hg := World.block_lt_of_cell? _ _ c0
      simp only at hg
      have hx0 : (0 : Int) ≤ (k : Int) := by omega
      by_cases hn : k + 1 < l.length
      · obtain ⟨u, hu⟩ : ∃ u, l[k + 1]'hn = u := ⟨_, rfl⟩
        obtain ⟨g', hg', hT2⟩ := HTO.out (k + 1) hn
        have hgg : g' = g := by simpa using hg'.symm
        subst hgg
        have n3 := (hT2.below hbr).at_
        rw [hu] at n3
        clear hT2 hg'
        have hu1 : t.at_ ≤ u.at_ := by have := (HPL.out.2.2 k hn).lt; rw [hu, HTK.out] at this; omega
        have hu2 : u.at_ ≤ text.size := by have := (HPL.out.2.1 (k + 1) hn).lt; rw [hu] at this; simp at this; omega
        have HU := Lib.hid hu
        clear hu
        have hn1 : (k : Int) + 1 < (l.length : Int) := by omega
        go_wp2
        all_goals first
          | (go_ret; exact ⟨rfl, below_step hbw (hbr.alloc hbs' _) hbw.size⟩)
          | (have hd : ¬ dotName t.kind t.text t.quoted := by first | exact not_dot1 (by assumption) | exact not_dot2 (by assumption) | exact not_dot3 (by assumption)
             have HD := Lib.hid hd
             clear hd
             have hO := Written.step HW.out hlt HTK.out (e := u.at_) hu1 hu2 ht2 (by rw [dif_pos hn]; exact congrArg Lx.Tok.at_ HU.out.symm) (by simp [sepAt_nil]) (O' := O ++ text.extract t.at_ u.at_) (by rw [ba_app, sepAt_nil, List.nil_append])
             go_roundw
             case rel => exact ⟨k + 1, _, by omega, by go_num, rfl, hO, hbr.alloc hbs' _, nodot_step HND.out HTK.out HD.out⟩
             case measure => simp [intOf]; omega)
      · have hn1 : ¬ (k : Int) + 1 < (l.length : Int) := by omega
        have hpl1 : t.at_ ≤ text.size := by omega
        go_wp2
        all_goals first
          | (go_ret; exact ⟨rfl, below_step hbw (hbr.alloc hbs' _) hbw.size⟩)
          | (have hd : ¬ dotName t.kind t.text t.quoted := by first | exact not_dot1 (by assumption) | exact not_dot2 (by assumption) | exact not_dot3 (by assumption)
             have HD := Lib.hid hd
             clear hd
             have hO := Written.step HW.out hlt HTK.out (e := text.size) (by omega) (Nat.le_refl _) ht2 (by rw [dif_neg hn]) (by simp [sepAt_nil]) (O' := O ++ text.extract t.at_ text.size) (by rw [ba_app, sepAt_nil, List.nil_append])
             go_roundw
             case rel => exact ⟨k + 1, _, by omega, by go_num, rfl, hO, hbr.alloc hbs' _, nodot_step HND.out HTK.out HD.out⟩
             case measure => simp [intOf]; omega)
    · have hkl : k = l.length := by omega
      have hput := HW.out.done hkl
      have hnd : ∀ t ∈ l, ¬ dotName t.kind t.text t.quoted := by
        intro t ht
        obtain ⟨j, hj, rfl⟩ := List.getElem_of_mem ht
        exact HND.out j hj (by omega)
      by_cases hbig : O.size ≤ 16000
      · obtain ⟨l', hl1, hl2⟩ := HPUT.out hnd (by rw [hput, Array.length_toList, ByteArray.size_data]; omega)
        rw [hput] at hl1
        have HL := Lib.hid (And.intro hl1 hl2)
        have hbig' : (O.size : Int) ≤ 16000 := by omega
        have HX := Lib.hid hkl
        clear hl1 hl2 hput hnd hkl
        go_wp2_with fail
        have hvr := hv2.below hbr
        refine (tokens_ok hvr HL.out.1).mono ?_
        rintro e w4 ⟨vz, rfl, hrz, hb4⟩
        have hb24 := below_then hbr hb4
        go_wp2_with fail
        refine (like_yes _ _ l' l _ (SliceOf.row (RowOf.of hrz)) ((SliceOf.row HROW.out).below hb24) HL.out.2 (by have := tokens_count HL.out.1; omega)).mono ?_
        rintro e w5 ⟨rfl, n5, rfl⟩
        go_wp2
        go_ret
        exact ⟨rfl, below_drewN (below_step hbw hb24 hbw.size) _⟩
      · have hbig' : (16000 : Int) < (O.size : Int) := by omega
        have HX := Lib.hid hkl
        clear hput hnd hkl
        go_wp2
        go_ret
        exact ⟨rfl, hbwr⟩

set_option maxRecDepth 100000 in
set_option maxHeartbeats 40000000 in
theorem blanks_some (text : ByteArray) (ht2 : text.size ≤ 2000) (b off bcap : Nat) (bs : List ByteArray) (hbs : 0 < bs.length) (_ : bs.length ≤ bcap) (hbr : bs.length ≤ 140737488351232) (w : World) (hv : Vars w) (hcell : ∀ i (h : i < bs.length), w.cell? ⟨b, off + i, none⟩ = some (.string bs[i])) (hsz : ∀ s ∈ bs, s.size ≤ 140737488351232) {l : List Lx.Tok} (ht : Lx.tokens text.data.toList = .ok l) :
    Calls Tryd.prog 4 #[.string text, (.slice (some ⟨b, off, none⟩) bs.length bcap)] w fun e w' => e = .returned (.bool true) ∧ Below w.heap.size w w' := by
  have hll : l.length ≤ 2000 := by have h1 := (tokens_count ht).1; have h2 : text.data.toList.length = text.size := by simp
                                   omega
  have HPL := Lib.hid (tokens_places ht)
  have HPUT := Lib.hid (fun hd hl => tokens_put (sep := sepAt bs) (sepAt_sep bs) ht hd hl)
  have HT := Lib.hid ht
  clear ht
  have hbs0 : (0 : Int) < (bs.length : Int) := by omega
  have HC := Lib.hid (And.intro hcell hsz)
  clear hcell hsz
  have ht2i : (text.size : Int) ≤ 2000 := by omega
  go_enter Tryd.func4, Tryd.ntmps4
  go_wp2_with fail
  refine (alive_any _ hv).mono ?_
  rintro e w1 ⟨rfl, hb1⟩
  have hv1 := hv.below hb1
  go_wp2_with fail
  refine (tokens_ok hv1 HT.out).mono ?_
  rintro e w2 ⟨v, rfl, hr, hb2⟩
  have hv2 := hv1.below hb2
  have HROW := Lib.hid (RowOf.of hr)
  obtain ⟨xo, cap, rfl, hcap, hto⟩ := RowOf.gen (RowOf.of hr)
  have HTO := Lib.hid hto
  have hbw : Below w.heap.size w w2 := below_step hb1 hb2 hb1.size
  clear hr hto hb1 hb2
  go_wp2
  go_loopw [7, 32] (fun o i wr => ∃ (k : Nat) (O : ByteArray), k ≤ l.length ∧ i = .int .i64 k ∧ o = .string O ∧ Written text.data.toList (sepAt bs) l k O ∧ Below w2.heap.size w2 wr ∧ ∀ j (h : j < l.length), j < k → ¬ dotName l[j].kind l[j].text l[j].quoted) (fun _ i _ => l.length - (intOf i).toNat)
  case atStart => exact ⟨0, ⟨#[]⟩, Nat.zero_le _, rfl, rfl, Written.start _ _ _, Below.refl _ _, fun j _ h => by omega⟩
  case round =>
    obtain ⟨k, O, hk, rfl, rfl, hW, hbr, hnd⟩ := hrel
    have HND := Lib.hid hnd
    clear hnd
    have hOz : O.size ≤ 4120000 := by have := hW.size; omega
    have HW := Lib.hid hW
    clear hW
    have hbs' := hbr.size
    have hbwr := below_step hbw hbr hbw.size
    by_cases hlt : k < l.length
    · obtain ⟨g, hao, hT⟩ := HTO.out k hlt
      subst hao
      obtain ⟨t, ht⟩ : ∃ t, l[k] = t := ⟨_, rfl⟩
      rw [ht] at hT
      have hpl : t.at_ < text.size := by have := (HPL.out.2.1 k hlt).lt; rw [ht] at this; simpa using this
      have HTK := Lib.hid ht
      clear ht
      obtain ⟨c0, c1, c2, c3, c4, c5⟩ := hT.below hbr
      clear hT
      have hg := World.block_lt_of_cell? _ _ c0
      simp only at hg
      have hx0 : (0 : Int) ≤ (k : Int) := by omega
      have hkm : k % bs.length < bs.length := Nat.mod_lt _ hbs
      obtain ⟨bb, hbb⟩ : ∃ bb, bs[k % bs.length]'hkm = bb := ⟨_, rfl⟩
      have hbz : bb.size ≤ 140737488351232 := by rw [← hbb]; exact HC.out.2 _ (List.getElem_mem _)
      have b0 := (Chg.of_below (S := fun _ => False) hbwr).cell (HC.out.1 (k % bs.length) hkm) (fun x => x)
      rw [hbb] at b0
      have hsp : sepAt bs k = sepOf bb := by rw [sepAt_get hkm, hbb]
      have HSP := Lib.hid hsp
      clear hbb hsp
      have hbk := World.block_lt_of_cell? _ _ b0
      simp only at hbk
      have hkm0 : (0 : Int) ≤ (k : Int) % (bs.length : Int) := by omega
      have hkm1 : (k : Int) % (bs.length : Int) < (bs.length : Int) := Int.emod_lt_of_pos _ hbs0
      by_cases hn : k + 1 < l.length
      · obtain ⟨u, hu⟩ : ∃ u, l[k + 1]'hn = u := ⟨_, rfl⟩
        obtain ⟨g', hg', hT2⟩ := HTO.out (k + 1) hn
        have hgg : g' = g := by simpa using hg'.symm
        subst hgg
        have n3 := (hT2.below hbr).at_
        rw [hu] at n3
        clear hT2 hg'
        have hu1 : t.at_ ≤ u.at_ := by have := (HPL.out.2.2 k hn).lt; rw [hu, HTK.out] at this; omega
        have hu2 : u.at_ ≤ text.size := by have := (HPL.out.2.1 (k + 1) hn).lt; rw [hu] at this; simp at this; omega
        have HU := Lib.hid hu
        clear hu
        have hn1 : (k : Int) + 1 < (l.length : Int) := by omega
        go_wp2_with fail
        all_goals first
          | (go_ret; exact ⟨rfl, below_step hbw (hbr.alloc hbs' _) hbw.size⟩)
          | (have hd : ¬ dotName t.kind t.text t.quoted := by first | exact not_dot1 (by assumption) | exact not_dot2 (by assumption) | exact not_dot3 (by assumption)
             have HD := Lib.hid hd
             clear hd
             cases hbt : Lx.tokens (bb.data.toList ++ [10]) with
             | err cc ca =>
               have HBT := Lib.hid hbt
               clear hbt
               refine (tokens_err (hv2.below (hbr.alloc hbs' _)) (by rw [ba_app]; exact HBT.out)).mono ?_
               rintro e w5 ⟨fv5, rfl, ⟨N5, rfl, hN5⟩, hb5⟩
               have a3 : w5.cell? ⟨wr.heap.size, 3, none⟩ = some (.int .i64 (t.at_ : Int)) := (Chg.of_below (S := fun _ => False) hb5).cell (by rw [cell_block (heap_alloc_new wr _) 3]; rfl) (fun x => x)
               go_wp2
               have hO := Written.step HW.out hlt HTK.out (e := u.at_) hu1 hu2 ht2 (by rw [dif_pos hn]; exact congrArg Lx.Tok.at_ HU.out.symm) (by rw [HSP.out]; exact sepOf_len _) (O' := O ++ text.extract t.at_ u.at_) (by rw [HSP.out, sepOf_no (fun h => by rw [HBT.out] at h; cases h.1)]; rw [ba_app, List.nil_append])
               go_roundw
               case rel => exact ⟨k + 1, _, by omega, by go_num, rfl, hO, below_then (hbr.alloc hbs' _) hb5, nodot_step HND.out HTK.out HD.out⟩
               case measure => simp [intOf]; omega
             | ok us =>
               have HBT := Lib.hid hbt
               clear hbt
               refine (tokens_ok (hv2.below (hbr.alloc hbs' _)) (by rw [ba_app]; exact HBT.out)).mono ?_
               rintro e w5 ⟨v5, rfl, hr5, hb5⟩
               have a3 : w5.cell? ⟨wr.heap.size, 3, none⟩ = some (.int .i64 (t.at_ : Int)) := (Chg.of_below (S := fun _ => False) hb5).cell (by rw [cell_block (heap_alloc_new wr _) 3]; rfl) (fun x => x)
               obtain ⟨ao5, cap5, rfl⟩ := (RowOf.of hr5).len
               clear hr5
               by_cases hu0 : us.length = 0
               · have hun : us = [] := List.eq_nil_of_length_eq_zero hu0
                 subst hun
                 simp only [List.length_nil]
                 clear hu0
                 by_cases h50 : bb.size < 50
                 · have h50' : (bb.size : Int) < 50 := by omega
                   go_wp2
                   have hO := Written.step HW.out hlt HTK.out (e := u.at_) hu1 hu2 ht2 (by rw [dif_pos hn]; exact congrArg Lx.Tok.at_ HU.out.symm) (by rw [HSP.out]; exact sepOf_len _) (O' := O ++ ⟨#[10]⟩ ++ bb ++ ⟨#[10]⟩ ++ text.extract t.at_ u.at_) (by rw [HSP.out, sepOf_yes HBT.out h50]; simp only [ba_app, List.append_assoc, List.cons_append]; rfl)
                   go_roundw
                   case rel => exact ⟨k + 1, _, by omega, by go_num, rfl, hO, below_then (hbr.alloc hbs' _) hb5, nodot_step HND.out HTK.out HD.out⟩
                   case measure => simp [intOf]; omega
                 · have h50' : ¬ (bb.size : Int) < 50 := by omega
                   have H50 := Lib.hid h50
                   clear h50
                   go_wp2
                   have hO := Written.step HW.out hlt HTK.out (e := u.at_) hu1 hu2 ht2 (by rw [dif_pos hn]; exact congrArg Lx.Tok.at_ HU.out.symm) (by rw [HSP.out]; exact sepOf_len _) (O' := O ++ text.extract t.at_ u.at_) (by rw [HSP.out, sepOf_no (fun h => H50.out h.2)]; rw [ba_app, List.nil_append])
                   go_roundw
                   case rel => exact ⟨k + 1, _, by omega, by go_num, rfl, hO, below_then (hbr.alloc hbs' _) hb5, nodot_step HND.out HTK.out HD.out⟩
                   case measure => simp [intOf]; omega
               · have hu1' : ((us.length : Int) == 0) = false := by rw [beq_eq_false_iff_ne]; omega
                 have HUN := Lib.hid hu0
                 clear hu0
                 go_wp2
                 have hO := Written.step HW.out hlt HTK.out (e := u.at_) hu1 hu2 ht2 (by rw [dif_pos hn]; exact congrArg Lx.Tok.at_ HU.out.symm) (by rw [HSP.out]; exact sepOf_len _) (O' := O ++ text.extract t.at_ u.at_) (by rw [HSP.out, sepOf_no (fun h => by rw [HBT.out] at h; injection h.1 with h; rw [h] at HUN; exact HUN.out rfl)]; rw [ba_app, List.nil_append])
                 go_roundw
                 case rel => exact ⟨k + 1, _, by omega, by go_num, rfl, hO, below_then (hbr.alloc hbs' _) hb5, nodot_step HND.out HTK.out HD.out⟩
                 case measure => simp [intOf]; omega)
      · have hn1 : ¬ (k : Int) + 1 < (l.length : Int) := by omega
        have hpl1 : t.at_ ≤ text.size := by omega
        go_wp2_with fail
        all_goals first
          | (go_ret; exact ⟨rfl, below_step hbw (hbr.alloc hbs' _) hbw.size⟩)
          | (have hd : ¬ dotName t.kind t.text t.quoted := by first | exact not_dot1 (by assumption) | exact not_dot2 (by assumption) | exact not_dot3 (by assumption)
             have HD := Lib.hid hd
             clear hd
             cases hbt : Lx.tokens (bb.data.toList ++ [10]) with
             | err cc ca =>
               have HBT := Lib.hid hbt
               clear hbt
               refine (tokens_err (hv2.below (hbr.alloc hbs' _)) (by rw [ba_app]; exact HBT.out)).mono ?_
               rintro e w5 ⟨fv5, rfl, ⟨N5, rfl, hN5⟩, hb5⟩
               have a3 : w5.cell? ⟨wr.heap.size, 3, none⟩ = some (.int .i64 (t.at_ : Int)) := (Chg.of_below (S := fun _ => False) hb5).cell (by rw [cell_block (heap_alloc_new wr _) 3]; rfl) (fun x => x)
               go_wp2
               have hO := Written.step HW.out hlt HTK.out (e := text.size) (by omega) (Nat.le_refl _) ht2 (by rw [dif_neg hn]) (by rw [HSP.out]; exact sepOf_len _) (O' := O ++ text.extract t.at_ text.size) (by rw [HSP.out, sepOf_no (fun h => by rw [HBT.out] at h; cases h.1)]; rw [ba_app, List.nil_append])
               go_roundw
               case rel => exact ⟨k + 1, _, by omega, by go_num, rfl, hO, below_then (hbr.alloc hbs' _) hb5, nodot_step HND.out HTK.out HD.out⟩
               case measure => simp [intOf]; omega
             | ok us =>
               have HBT := Lib.hid hbt
               clear hbt
               refine (tokens_ok (hv2.below (hbr.alloc hbs' _)) (by rw [ba_app]; exact HBT.out)).mono ?_
               rintro e w5 ⟨v5, rfl, hr5, hb5⟩
               have a3 : w5.cell? ⟨wr.heap.size, 3, none⟩ = some (.int .i64 (t.at_ : Int)) := (Chg.of_below (S := fun _ => False) hb5).cell (by rw [cell_block (heap_alloc_new wr _) 3]; rfl) (fun x => x)
               obtain ⟨ao5, cap5, rfl⟩ := (RowOf.of hr5).len
               clear hr5
               by_cases hu0 : us.length = 0
               · have hun : us = [] := List.eq_nil_of_length_eq_zero hu0
                 subst hun
                 simp only [List.length_nil]
                 clear hu0
                 by_cases h50 : bb.size < 50
                 · have h50' : (bb.size : Int) < 50 := by omega
                   go_wp2
                   have hO := Written.step HW.out hlt HTK.out (e := text.size) (by omega) (Nat.le_refl _) ht2 (by rw [dif_neg hn]) (by rw [HSP.out]; exact sepOf_len _) (O' := O ++ ⟨#[10]⟩ ++ bb ++ ⟨#[10]⟩ ++ text.extract t.at_ text.size) (by rw [HSP.out, sepOf_yes HBT.out h50]; simp only [ba_app, List.append_assoc, List.cons_append]; rfl)
                   go_roundw
                   case rel => exact ⟨k + 1, _, by omega, by go_num, rfl, hO, below_then (hbr.alloc hbs' _) hb5, nodot_step HND.out HTK.out HD.out⟩
                   case measure => simp [intOf]; omega
                 · have h50' : ¬ (bb.size : Int) < 50 := by omega
                   have H50 := Lib.hid h50
                   clear h50
                   go_wp2
                   have hO := Written.step HW.out hlt HTK.out (e := text.size) (by omega) (Nat.le_refl _) ht2 (by rw [dif_neg hn]) (by rw [HSP.out]; exact sepOf_len _) (O' := O ++ text.extract t.at_ text.size) (by rw [HSP.out, sepOf_no (fun h => H50.out h.2)]; rw [ba_app, List.nil_append])
                   go_roundw
                   case rel => exact ⟨k + 1, _, by omega, by go_num, rfl, hO, below_then (hbr.alloc hbs' _) hb5, nodot_step HND.out HTK.out HD.out⟩
                   case measure => simp [intOf]; omega
               · have hu1' : ((us.length : Int) == 0) = false := by rw [beq_eq_false_iff_ne]; omega
                 have HUN := Lib.hid hu0
                 clear hu0
                 go_wp2
                 have hO := Written.step HW.out hlt HTK.out (e := text.size) (by omega) (Nat.le_refl _) ht2 (by rw [dif_neg hn]) (by rw [HSP.out]; exact sepOf_len _) (O' := O ++ text.extract t.at_ text.size) (by rw [HSP.out, sepOf_no (fun h => by rw [HBT.out] at h; injection h.1 with h; rw [h] at HUN; exact HUN.out rfl)]; rw [ba_app, List.nil_append])
                 go_roundw
                 case rel => exact ⟨k + 1, _, by omega, by go_num, rfl, hO, below_then (hbr.alloc hbs' _) hb5, nodot_step HND.out HTK.out HD.out⟩
                 case measure => simp [intOf]; omega)
    · have hkl : k = l.length := by omega
      have hput := HW.out.done hkl
      have hnd : ∀ t ∈ l, ¬ dotName t.kind t.text t.quoted := by
        intro t ht
        obtain ⟨j, hj, rfl⟩ := List.getElem_of_mem ht
        exact HND.out j hj (by omega)
      by_cases hbig : O.size ≤ 16000
      · obtain ⟨l', hl1, hl2⟩ := HPUT.out hnd (by rw [hput, Array.length_toList, ByteArray.size_data]; omega)
        rw [hput] at hl1
        have HL := Lib.hid (And.intro hl1 hl2)
        have hbig' : (O.size : Int) ≤ 16000 := by omega
        have HX := Lib.hid hkl
        clear hl1 hl2 hput hnd hkl
        go_wp2_with fail
        have hvr := hv2.below hbr
        refine (tokens_ok hvr HL.out.1).mono ?_
        rintro e w4 ⟨vz, rfl, hrz, hb4⟩
        have hb24 := below_then hbr hb4
        go_wp2_with fail
        refine (like_yes _ _ l' l _ (SliceOf.row (RowOf.of hrz)) ((SliceOf.row HROW.out).below hb24) HL.out.2 (by have := tokens_count HL.out.1; omega)).mono ?_
        rintro e w5 ⟨rfl, n5, rfl⟩
        go_wp2
        go_ret
        exact ⟨rfl, below_drewN (below_step hbw hb24 hbw.size) _⟩
      · have hbig' : (16000 : Int) < (O.size : Int) := by omega
        have HX := Lib.hid hkl
        clear hput hnd hkl
        go_wp2
        go_ret
        exact ⟨rfl, hbwr⟩

theorem blanks_walk (text : ByteArray) (_ : text.size ≤ 140737488351232) (vb : Value) (w : World) (hb : ∃ bs, StrsAt w vb bs) (hv : Vars w) :
    Calls Tryd.prog 4 #[.string text, vb] w fun e w' => e = .returned (.bool true) ∧ Below w.heap.size w w' := by
  cases ht : Lx.tokens text.data.toList with
  | err c a => exact blanks_err text vb w hv ht
  | ok l =>
    by_cases hl : text.size ≤ 2000
    · obtain ⟨bs, ⟨_, ao, cap, rfl⟩ | ⟨b, off, cap, rfl, h0, h1, h2, h3, h4⟩⟩ := hb
      · exact blanks_none text hl ao cap w hv ht
      · exact blanks_some text hl b off cap bs h0 h1 h2 w hv h3 h4 ht
    · exact blanks_long text vb w hv ht (by omega)
end Go.Proofs.YtjcnhoagccdclaaDoor
