/-
  LexQuotes: the walk.
-/
import Derived.Test.YtjcnhoagccdclaaDoorBytes
import Derived.Test.YtjcnhoagccdclaaDoorPlacesW
import Derived.Test.YtjcnhoagccdclaaDoorQuotesL
namespace Go.Proofs.YtjcnhoagccdclaaDoor
open Go.RowKit
open Lx (Byte)

theorem qBody_snoc (l : List Byte) (c : Byte) : qBody (l ++ [c]) = qBody l ++ qByte c := by simp [qBody]
theorem take_snoc (s : ByteArray) (k : Nat) (h : k < s.size) : s.data.toList.take (k + 1) = s.data.toList.take k ++ [s[k]] := by
  rw [List.take_succ_eq_append_getElem (by simpa using h)]; rfl
theorem qBody_len (l : List Byte) : (qBody l).length ≤ 2 * l.length := by
  induction l with
  | nil => simp [qBody]
  | cons c s ih =>
    have : qBody (c :: s) = qByte c ++ qBody s := rfl
    rw [this, List.length_append, List.length_cons]
    have : (qByte c).length ≤ 2 := by unfold qByte; split <;> simp
    omega
theorem ba_append (a b : ByteArray) : (a ++ b).data.toList = a.data.toList ++ b.data.toList := by simp
theorem bare_tokens {s : List Byte} (h : bare s = true) : ∃ t, Lx.tokens s = .ok [t] ∧ t.text = s ∧ t.quoted = false := by
  unfold bare at h
  split at h
  · rename_i t ht
    simp only [Bool.and_eq_true, Bool.not_eq_true', beq_iff_eq] at h
    exact ⟨t, ht, h.2, h.1.2⟩
  · cases h
theorem qText_size {l : List Byte} (h : (39 :: qBody l).length ≤ 2097153) : (⟨((39 :: qBody l) ++ [39]).toArray⟩ : ByteArray).size ≤ 2097154 := by
  show (((39 :: qBody l) ++ [39]).toArray).size ≤ _
  rw [List.size_toArray, List.length_append, List.length_singleton]; omega
theorem below_grown {B : Nat} {a w w' : World} {row : Option Nat} (h : Below B a w) (hg : w.grownBy w' row) (hB : B ≤ w.heap.size) (hr : ∀ j, row = some j → B ≤ j) : Below B a w' := Below.grown h hg hB hr
theorem seen_cast {c : Byte} : seen c = true ↔ (32 : Int) ≤ (c.toNat : Int) ∧ (c.toNat : Int) ≤ 126 := by
  simp only [seen, Bool.and_eq_true, decide_eq_true_eq, UInt8.le_iff_toNat_le]
  have e1 : (32 : Byte).toNat = 32 := rfl
  have e2 : (126 : Byte).toNat = 126 := rfl
  omega
theorem quotes_more {s : ByteArray} {k : Nat} (h : k < s.size) (hs : ∀ c ∈ s.data.toList.take k, seen c = true) (hc : seen s[k] = true) : ∀ c ∈ s.data.toList.take (k + 1), seen c = true := by
  rw [take_snoc s k h]
  intro c hm
  rw [List.mem_append, List.mem_singleton] at hm
  rcases hm with hm | rfl
  · exact hs c hm
  · exact hc

set_option maxRecDepth 100000 in
set_option maxHeartbeats 40000000 in
theorem quotes_walk (s : ByteArray) (hsz : s.size ≤ 1048576) (w : World) (hv : Vars w) :
    Calls Tryd.prog 7 #[.string s] w fun e w' => e = .returned (.bool true) ∧ Below w.heap.size w w' := by
  have hsl : s.data.toList.length = s.size := by simp
  have HSL := Lib.hid hsl
  clear hsl
  go_enter Tryd.func7, Tryd.ntmps7
  go_wp2_with fail
  refine (alive_any _ hv).mono ?_
  rintro e w1 ⟨rfl, hb1⟩
  have hv1 := hv.below hb1
  have hw1 := hb1.size
  go_wp2
  go_loopw [3, 4] (fun v i wr => ∃ k : Nat, k ≤ s.size ∧ i = .int .i64 k ∧ (∀ c ∈ s.data.toList.take k, seen c = true) ∧ Bytes wr w1.heap.size v (39 :: qBody (s.data.toList.take k)) ∧ Below w1.heap.size w1 wr) (fun _ i _ => s.size - (intOf i).toNat)
  case atStart => exact ⟨0, Nat.zero_le _, rfl, by simp, World.ownsRow_lit w1 #[.int .u8 39] 1 (Nat.le_refl _) (by decide) rfl, (Below.refl _ _).alloc (Nat.le_refl _) _⟩
  case round =>
    obtain ⟨k, hk, rfl, hseen, hrow, hbr⟩ := hrel
    have hql : (39 :: qBody (s.data.toList.take k)).length ≤ 2097153 := by
      have h1 := qBody_len (s.data.toList.take k)
      have h2 : (s.data.toList.take k).length ≤ k := List.length_take_le _ _
      simp only [List.length_cons]; omega
    have hbs := hbr.size
    by_cases hlt : k < s.size
    · have H := Lib.hid (And.intro hseen hql)
      clear hseen hql
      have hx0 : (0 : Int) ≤ (k : Int) := by omega
      by_cases hs : seen s[k] = true
      · have HS := Lib.hid hs
        obtain ⟨h32, h126⟩ := seen_cast.1 hs
        clear hs
        by_cases hq : s[k] = 39 ∨ s[k] = 92
        · have hqb : qByte s[k] = [s[k], s[k]] := by unfold qByte; rw [if_pos hq]
          have HQ := Lib.hid hqb
          clear hqb
          rcases hq with hq | hq
          · have e39 : (((s[k].toNat : Int)) == 39) = true := (byte_eq _ 39 (by omega)).2 hq
            
            clear hq
            go_wp2_with (at_builtin; refine append_byte (by rfl) _ _ (by rfl) w1.heap.size _ _ (by rfl) (by first | exact hrow1.alloc _ | exact hrow.alloc _) _ _ s[k] (by rfl) (by exact cell_new _ _ _) (by have := H.out.2; (try rw [List.length_append, List.length_singleton]); omega) (by simp; omega) ?_; intro v1 w2 hrow1 hgb hz1; have hbr1 : Below w1.heap.size w1 w2 := Below.trans (by first | exact hbr1.alloc (by omega) _ | exact hbr.alloc (by omega) _) hgb)
            go_roundw
            case rel =>
              refine ⟨k + 1, by omega, by go_num, quotes_more hlt H.out.1 HS.out, ?_, hbr1⟩
              rw [take_snoc s k hlt, qBody_snoc, HQ.out]
              simpa using hrow1
            case measure => simp [intOf]; omega
          · have e92 : (((s[k].toNat : Int)) == 92) = true := (byte_eq _ 92 (by omega)).2 hq
            have e39 : (((s[k].toNat : Int)) == 39) = false := by rw [hq]; rfl
            clear hq
            go_wp2_with (at_builtin; refine append_byte (by rfl) _ _ (by rfl) w1.heap.size _ _ (by rfl) (by first | exact hrow1.alloc _ | exact hrow.alloc _) _ _ s[k] (by rfl) (by exact cell_new _ _ _) (by have := H.out.2; (try rw [List.length_append, List.length_singleton]); omega) (by simp; omega) ?_; intro v1 w2 hrow1 hgb hz1; have hbr1 : Below w1.heap.size w1 w2 := Below.trans (by first | exact hbr1.alloc (by omega) _ | exact hbr.alloc (by omega) _) hgb)
            go_roundw
            case rel =>
              refine ⟨k + 1, by omega, by go_num, quotes_more hlt H.out.1 HS.out, ?_, hbr1⟩
              rw [take_snoc s k hlt, qBody_snoc, HQ.out]
              simpa using hrow1
            case measure => simp [intOf]; omega
        · have hqb : qByte s[k] = [s[k]] := by unfold qByte; rw [if_neg hq]
          have HQ := Lib.hid hqb
          have e39 : (((s[k].toNat : Int)) == 39) = false := byte_ne _ 39 (by omega) (fun h => hq (.inl h))
          have e92 : (((s[k].toNat : Int)) == 92) = false := byte_ne _ 92 (by omega) (fun h => hq (.inr h))
          clear hqb hq
          go_wp2_with (at_builtin; refine append_byte (by rfl) _ _ (by rfl) w1.heap.size _ _ (by rfl) (by first | exact hrow1.alloc _ | exact hrow.alloc _) _ _ s[k] (by rfl) (by exact cell_new _ _ _) (by have := H.out.2; (try rw [List.length_append, List.length_singleton]); omega) (by simp; omega) ?_; intro v1 w2 hrow1 hgb hz1; have hbr1 : Below w1.heap.size w1 w2 := Below.trans (by first | exact hbr1.alloc (by omega) _ | exact hbr.alloc (by omega) _) hgb)
          go_roundw
          case rel =>
            refine ⟨k + 1, by omega, by go_num, quotes_more hlt H.out.1 HS.out, ?_, hbr1⟩
            rw [take_snoc s k hlt, qBody_snoc, HQ.out]
            exact hrow1
          case measure => simp [intOf]; omega
      · have hns : ¬ ((32 : Int) ≤ (s[k].toNat : Int) ∧ (s[k].toNat : Int) ≤ 126) := fun h => hs (seen_cast.2 h)
        have HNS := Lib.hid hns
        by_cases h32 : (s[k].toNat : Int) < 32
        · clear hs hns
          go_wp2
          go_ret
          exact ⟨rfl, below_step hb1 hbr hb1.size⟩
        · have h126 : (126 : Int) < (s[k].toNat : Int) := by omega
          clear hs hns
          go_wp2
          go_ret
          exact ⟨rfl, below_step hb1 hbr hb1.size⟩
    · have hks : k = s.size := by omega
      have hall : s.data.toList.take k = s.data.toList := List.take_of_length_le (by rw [HSL.out]; omega)
      rw [hall] at hseen hrow hql
      have H := Lib.hid (And.intro hseen hql)
      have HK := Lib.hid (And.intro hks hall)
      clear hseen hql hks hall
      go_wp2_with (first | (at_builtin; refine append_byte (by rfl) _ _ (by rfl) w1.heap.size _ _ (by rfl) (by first | exact hrow1.alloc _ | exact hrow.alloc _) _ _ 39 (by rfl) (by exact cell_new _ _ _) (by have := H.out.2; (try rw [List.length_append, List.length_singleton]); omega) (by simp; omega) ?_; intro v1 w2 hrow1 hgb hz1; have hbr1 : Below w1.heap.size w1 w2 := Below.trans (by first | exact hbr1.alloc (by omega) _ | exact hbr.alloc (by omega) _) hgb; obtain ⟨g3, n3, cap3, rfl, hn3, hcells⟩ := Bytes.form hrow1 (by simp); obtain ⟨q, hq⟩ : ∃ q : ByteArray, q = ⟨((39 :: qBody s.data.toList) ++ [39]).toArray⟩ := ⟨_, rfl⟩; have hconv := bytes_string (cap := cap3) hn3 hcells; rw [← hq] at hconv; have hqz : q.size ≤ 2097154 := hq ▸ qText_size H.out.2; have HQ := Lib.hid (And.intro hq hn3); clear hq hn3 hcells))
      have hqs : q.data.toList = qText s.data.toList := by rw [HQ.out.1]; rfl
      have hlaw : (q ++ ⟨#[32, 120, 32]⟩ ++ q).data.toList = qLaw s.data.toList := by
        rw [ba_append, ba_append, hqs, List.append_assoc]; rfl
      have hseen := H.out.1
      have hqsz : q.size = (qText s.data.toList).length := by rw [← hqs]; simp
      have hv2 := hv1.below hbr1
      have hbw2 := below_step hb1 hbr1 hb1.size
      by_cases hl : s.size ≤ 64
      · have ht := tokens_quotes hseen (by rw [HSL.out]; exact hl)
        rw [← hlaw] at ht
        have HT := Lib.hid (And.intro ht (And.intro hqs (And.intro hlaw (And.intro hseen hqsz))))
        clear ht hqs hlaw hseen hqsz
        refine (tokens_ok hv2 HT.out.1).mono ?_
        rintro e w3 ⟨v, rfl, hr, hb3⟩
        obtain ⟨g4, cap4, rfl, hcap4, hto⟩ := (RowOf.of hr).at_ (by simp [qToks])
        have hs0 : (⟨s.data.toList.toArray⟩ : ByteArray) = s := by simp
        have a1 : w3.cell? ⟨g4, 1, none⟩ = some (.string s) := by have := (hto 0 (by simp [qToks])).text; rw [show ((qToks s.data.toList)[0]'(by simp [qToks])).text = s.data.toList from rfl, hs0] at this; exact this
        have a4 : w3.cell? ⟨g4, 4, none⟩ = some (.bool true) := (hto 0 (by simp [qToks])).quoted
        have a13 : w3.cell? ⟨g4, 13, none⟩ = some (.string s) := by have := (hto 2 (by simp [qToks])).text; rw [show ((qToks s.data.toList)[2]'(by simp [qToks])).text = s.data.toList from rfl, hs0] at this; exact this
        have a15 : w3.cell? ⟨g4, 15, none⟩ = some (.int .i64 ((q.size : Int) + 3)) := by have := (hto 2 (by simp [qToks])).at_; rw [show ((qToks s.data.toList)[2]'(by simp [qToks])).at_ = (qText s.data.toList).length + 3 from rfl, ← HT.out.2.2.2.2] at this; exact this
        have hcap5 : 3 ≤ cap4 := hcap4
        clear hto hr hs0 hcap4
        have hle3 : (qToks s.data.toList).length = 3 := rfl
        rw [hle3]
        clear hle3
        have hv3 := hv2.below hb3
        have hbw3 := below_step hbw2 hb3 hbw2.size
        go_wp2_with fail
        refine (bare_any s _ hv3).mono ?_
        rintro e w4 ⟨rfl, hb4⟩
        have hv4 := hv3.below hb4
        have hbw4 := below_step hbw3 hb4 hbw3.size
        cases hbare : bare s.data.toList with
        | false =>
          go_wp2
          go_ret
          exact ⟨rfl, hbw4⟩
        | true =>
          obtain ⟨t, ht1, ht2, ht3⟩ := bare_tokens hbare
          have HB := Lib.hid (And.intro hbare ht1)
          clear hbare ht1
          go_wp2_with fail
          refine (tokens_ok hv4 HB.out.2).mono ?_
          rintro e w5 ⟨v, rfl, hr, hb5⟩
          obtain ⟨g5, cap5, rfl, hcap5, t0, t1, t2, t3, t4, t5⟩ := RowOf.one (RowOf.of hr)
          rw [ht2, show (⟨s.data.toList.toArray⟩ : ByteArray) = s from by simp] at t1
          rw [ht3] at t4
          clear hr ht2 ht3
          go_wp2
          go_ret
          exact ⟨rfl, below_step hbw4 hb5 hbw4.size⟩
      · have ht := tokens_quotes_long hseen (by rw [HSL.out]; exact hl)
        rw [← hlaw] at ht
        have HT := Lib.hid (And.intro ht (And.intro hqs (And.intro hlaw (And.intro hseen hqsz))))
        clear ht hqs hlaw hseen hqsz
        refine (tokens_err hv2 HT.out.1).mono ?_
        rintro e w3 ⟨fv, rfl, hf, hb3⟩
        have hv3 := hv2.below hb3
        have hbw3 := below_step hbw2 hb3 hbw2.size
        have hl64 : (64 : Int) < (s.size : Int) := by omega
        go_wp2_with fail
        refine (code_fault _ 2 _ _ hf hv3.err).mono ?_
        rintro e w4 ⟨rfl, hb4⟩
        go_wp2
        go_ret
        exact ⟨rfl, below_step hbw3 hb4 hbw3.size⟩
end Go.Proofs.YtjcnhoagccdclaaDoor
