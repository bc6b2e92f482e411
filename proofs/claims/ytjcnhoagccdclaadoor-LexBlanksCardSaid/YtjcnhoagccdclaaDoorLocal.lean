/-
  What stands behind a token's end does not change it, but for what it is put apart by: plain Lean.
-/
import Derived.Test.YtjcnhoagccdclaaDoorToks
namespace Go.Proofs.YtjcnhoagccdclaaDoor
open Lx (Byte)

/-- Nothing, or a blank. -/
def Brk (y : List Byte) : Prop := ∀ c, y.head? = some c → Lx.blank c = true
/-- A remark begins here. -/
def Rem (x : List Byte) : Prop := ∃ r, x = 47 :: 42 :: r
def SameHead (x y : List Byte) : Prop := x.head? = y.head? ∧ (Rem x ↔ Rem y)
/-- The name that is a point. -/
def dotName (kind : Int) (text : List Byte) (quoted : Bool) : Prop := kind = 1 ∧ text = [46] ∧ quoted = false
/-- One tail may stand in another one's place. -/
def Swap (x y : List Byte) (t : Lx.Raw) : Prop := (Brk y ∧ ¬ dotName t.kind t.text t.quoted) ∨ SameHead x y

theorem blank_not {c : Byte} (h : Lx.blank c = true) : Lx.letter c = false ∧ Lx.digit c = false ∧ c ≠ 39 ∧ Lx.sign c = false ∧ c ≠ 42 ∧ c ≠ 47 := by
  simp only [Lx.blank, Bool.or_eq_true, beq_iff_eq] at h
  rcases h with ((rfl | rfl) | rfl) | rfl <;> decide

theorem head_of {x y : List Byte} {t : Lx.Raw} (h : Swap x y t) {p : Byte → Bool} (hb : ∀ c, Lx.blank c = true → p c = false) (hx : ∀ c, x.head? = some c → p c = false) : ∀ c, y.head? = some c → p c = false := by
  intro c hc
  rcases h with ⟨h, _⟩ | ⟨h, _⟩
  · exact hb c (h c hc)
  · exact hx c (h.trans hc)

theorem run_app {p : Byte → Bool} : ∀ (u x : List Byte), Lx.run p (u ++ x) = u.length → (∀ c ∈ u, p c = true) ∧ ∀ c, x.head? = some c → p c = false
  | [], [], _ => by simp
  | [], c :: x, h => by
    simp only [List.nil_append, Lx.run] at h
    split at h
    · simp at h
    · rename_i hc; simpa using hc
  | d :: u, x, h => by
    simp only [List.cons_append, Lx.run] at h
    split at h
    · rename_i hd
      have := run_app u x (by simpa using h)
      exact ⟨by simpa using ⟨by simpa using hd, this.1⟩, this.2⟩
    · simp at h
theorem run_mk {p : Byte → Bool} : ∀ (u y : List Byte), (∀ c ∈ u, p c = true) → (∀ c, y.head? = some c → p c = false) → Lx.run p (u ++ y) = u.length
  | [], [], _, _ => rfl
  | [], c :: y, _, h => by simp only [List.nil_append, Lx.run]; rw [if_neg]; · rfl
                           · simpa using h c rfl
  | d :: u, y, h1, h2 => by
    simp only [List.cons_append, Lx.run]
    rw [if_pos (h1 d (by simp)), run_mk u y (fun c hc => h1 c (by simp [hc])) h2]; rfl

theorem sym_app : ∀ (u x : List Byte), Lx.symbols (u ++ x) = u.length → (∀ y : List Byte, Lx.symbols y = 0 → (u.getLast? = some 47 → y.head? ≠ some 42) → Lx.symbols (u ++ y) = u.length) ∧ Lx.symbols x = 0 ∧ (u.getLast? = some 47 → x.head? ≠ some 42)
  | [], x, h => ⟨fun y hy _ => hy, h, by simp⟩
  | d :: u, x, h => by
    simp only [List.cons_append, Lx.symbols] at h
    split at h
    · rename_i hd
      have ih := sym_app u x (by simpa using h)
      refine ⟨fun y hy hl => ?_, ih.2.1, ?_⟩
      · simp only [List.cons_append, Lx.symbols]
        rw [if_pos]
        · rw [ih.1 y hy]; · rfl
          · intro hu; apply hl
            cases u with
            | nil => simp at hu
            | cons e u => simpa using hu
        · refine ⟨hd.1, ?_⟩
          rintro ⟨rfl, h2⟩
          cases u with
          | nil => exact hl rfl (by simpa using h2)
          | cons e u => exact hd.2 ⟨rfl, by simpa using h2⟩
      · intro hl
        cases u with
        | nil =>
          simp only [List.getLast?_singleton, Option.some.injEq] at hl
          subst hl
          intro h2; exact hd.2 ⟨rfl, by simpa using h2⟩
        | cons e u => exact ih.2.2 (by simpa using hl)
    · simp at h

theorem quoted_local : ∀ (v x : List Byte) {k : Nat} {l : List Byte}, Lx.quoted k (v ++ x) = .ok (l, k + v.length) → x.head? ≠ some 39 ∧ ∀ y : List Byte, y.head? ≠ some 39 → Lx.quoted k (v ++ y) = .ok (l, k + v.length)
  | [], x, k, l, h => by
    have := (quoted_le _ h).2
    simp at this
  | [c], x, k, l, h => by
    simp only [List.cons_append, List.nil_append] at h ⊢
    unfold Lx.quoted at h
    by_cases h39 : c = 39
    · rw [if_pos h39] at h
      have hl : x.head? ≠ some 39 ∧ ([], k + 1) = (l, k + [c].length) := by
        cases x with
        | nil => simp only [Lx.Res.ok.injEq] at h; exact ⟨by simp, h⟩
        | cons e x =>
          simp only at h
          by_cases he : e = 39
          · rw [if_pos he] at h
            obtain ⟨z, hz, e⟩ := map_ok h
            have := (quoted_le _ (l := z.1) (n := z.2) hz).2
            simp only [Prod.mk.injEq, List.length_singleton] at e; omega
          · rw [if_neg he] at h
            simp only [Lx.Res.ok.injEq] at h
            exact ⟨by simpa using he, h⟩
      refine ⟨hl.1, fun y hy => ?_⟩
      rw [← hl.2]
      unfold Lx.quoted
      rw [if_pos h39]
      cases y with
      | nil => rfl
      | cons d y =>
        simp only
        rw [if_neg (by simpa using hy)]
    · exfalso
      rw [if_neg h39] at h
      split at h
      · cases x with
        | nil => simp at h
        | cons e x =>
          simp only at h
          split at h
          · obtain ⟨z, hz, e⟩ := map_ok h
            have := (quoted_le _ (l := z.1) (n := z.2) hz).2
            simp only [Prod.mk.injEq, List.length_singleton] at e; omega
          · simp at h
      · split at h
        · obtain ⟨z, hz, e⟩ := map_ok h
          have := (quoted_le _ (l := z.1) (n := z.2) hz).2
          simp only [Prod.mk.injEq, List.length_singleton] at e; omega
        · simp at h
  | c :: d :: v, x, k, l, h => by
    simp only [List.cons_append, List.length_cons] at h ⊢
    unfold Lx.quoted at h
    by_cases h39 : c = 39
    · rw [if_pos h39] at h
      simp only at h
      by_cases hd : d = 39
      · rw [if_pos hd] at h
        obtain ⟨z, hz, e⟩ := map_ok h
        simp only [Prod.mk.injEq] at e
        obtain ⟨rfl, e2⟩ := e
        have := quoted_local v x (k := k + 2) (l := z.1) (by rw [hz, show k + 2 + v.length = z.2 from by omega])
        refine ⟨this.1, fun y hy => ?_⟩
        have := this.2 y hy
        unfold Lx.quoted
        rw [if_pos h39]
        simp only
        rw [if_pos hd, this]; simp only [Lx.Res.map]; congr 2; omega
      · rw [if_neg hd] at h
        simp only [Lx.Res.ok.injEq, Prod.mk.injEq] at h
        omega
    · rw [if_neg h39] at h
      by_cases h92 : c = 92
      · rw [if_pos h92] at h
        simp only at h
        cases hx2 : Lx.esc d with
        | none => rw [hx2] at h; simp at h
        | some b =>
          rw [hx2] at h
          simp only at h
          obtain ⟨z, hz, e⟩ := map_ok h
          simp only [Prod.mk.injEq] at e
          obtain ⟨rfl, e2⟩ := e
          have := quoted_local v x (k := k + 2) (l := z.1) (by rw [hz, show k + 2 + v.length = z.2 from by omega])
          refine ⟨this.1, fun y hy => ?_⟩
          have := this.2 y hy
          unfold Lx.quoted
          rw [if_neg h39, if_pos h92]
          simp only [hx2]
          rw [this]; simp only [Lx.Res.map]; congr 2; omega
      · rw [if_neg h92] at h
        by_cases hc : 32 ≤ c ∧ c ≤ 126
        · rw [if_pos hc] at h
          obtain ⟨z, hz, e⟩ := map_ok h
          simp only [Prod.mk.injEq] at e
          obtain ⟨rfl, e2⟩ := e
          have := quoted_local (d :: v) x (k := k + 1) (l := z.1) (by simp only [List.cons_append, List.length_cons]; rw [hz, show k + 1 + (v.length + 1) = z.2 from by omega])
          refine ⟨this.1, fun y hy => ?_⟩
          have := this.2 y hy
          simp only [List.cons_append, List.length_cons] at this
          unfold Lx.quoted
          rw [if_neg h39, if_neg h92, if_pos hc, this]; simp only [Lx.Res.map]; congr 2; omega
        · rw [if_neg hc] at h
          simp at h

theorem code_local {v x y : List Byte} {i : Int} (h : Lx.code (v ++ x) = .ok (i, v.length + 2)) : Lx.code (v ++ y) = .ok (i, v.length + 2) := by
  match v with
  | [] => have := h; unfold Lx.code at this; repeat' split at this
          all_goals simp at this
  | [c] =>
    simp only [List.cons_append, List.nil_append, List.length_singleton, Lx.code] at h ⊢
    by_cases h39 : c = 39
    · rw [if_pos h39] at h
      cases x with
      | nil => simp at h
      | cons e x => simp only at h; split at h <;> simp at h
    · rw [if_neg h39] at h ⊢
      by_cases h92 : c = 92
      · rw [if_pos h92] at h
        cases x with
        | nil => simp at h
        | cons e x => simp only at h; split at h <;> simp at h
      · rw [if_neg h92] at h ⊢; exact h
  | c :: d :: v => exact h

theorem number_local {u x y : List Byte} {t : Lx.Raw} {i : Int} (hu : 0 < u.length) (hs : Swap x y t) (h : Lx.number (u ++ x) = .ok (i, u.length)) : Lx.number (u ++ y) = .ok (i, u.length) := by
  have hh : (u ++ x).head? = (u ++ y).head? := by
    cases u with
    | nil => simp at hu
    | cons c u => rfl
  have hy39 : x.head? ≠ some 39 → y.head? ≠ some 39 := by
    intro hx hy
    rcases hs with ⟨hb, _⟩ | ⟨hb, _⟩
    · exact (blank_not (hb 39 hy)).2.2.1 rfl
    · exact hx (hb.trans hy)
  unfold Lx.number at h ⊢
  split at h
  · rename_i hc
    match u, hu with
    | [c], _ =>
      have := (code_le h).1
      unfold Lx.code at h; repeat' split at h
      all_goals simp at h
    | [c, d], _ =>
      unfold Lx.code at h; repeat' split at h
      all_goals simp at h
    | c :: d :: e :: u, _ =>
      rw [if_pos (show (c :: d :: e :: u ++ y).head? = some 48 ∧ (List.drop 1 (c :: d :: e :: u ++ y)).head? = some 39 from hc)]
      exact code_local (v := e :: u) h
  · rename_i hc
    simp only at h
    split at h
    · rename_i hw
      simp only [Lx.Res.ok.injEq, Prod.mk.injEq] at h
      have hr := run_app _ _ h.2
      have hr2 : Lx.run Lx.digit (u ++ y) = u.length := run_mk u y hr.1 (head_of hs (fun c hc => (blank_not hc).2.1) hr.2)
      rw [if_neg]
      · rw [h.2, List.take_left] at hw
        simp only
        rw [hr2, List.take_left, if_pos hw]
        congr 2
        rw [← h.1, h.2, List.take_left]
      · rintro ⟨h1, h2⟩
        refine hc ⟨hh.trans h1, ?_⟩
        match u, hu with
        | [c], _ =>
          simp only [List.cons_append, List.nil_append, List.drop_succ_cons, List.drop_zero] at h2 ⊢
          apply Classical.byContradiction
          intro hx
          exact hy39 hx h2
        | c :: d :: u, _ => exact h2
    · simp at h

theorem sym_zero {x : List Byte} (h : Lx.symbols x = 0) : ∀ c, x.head? = some c → Lx.sign c = false ∨ Rem x := by
  intro c hc
  cases x with
  | nil => simp at hc
  | cons d x =>
    simp only [List.head?_cons, Option.some.injEq] at hc
    subst hc
    simp only [Lx.symbols] at h
    split at h
    · simp at h
    · rename_i hn
      by_cases hs : Lx.sign d = true
      · right
        have : d = 47 ∧ x.head? = some 42 := by
          apply Classical.byContradiction; intro hx; exact hn ⟨hs, hx⟩
        obtain ⟨rfl, h2⟩ := this
        cases x with
        | nil => simp at h2
        | cons e x => simp only [List.head?_cons, Option.some.injEq] at h2; subst h2; exact ⟨x, rfl⟩
      · left; simpa using hs
theorem sym_zero_mk {y : List Byte} (h : ∀ c, y.head? = some c → Lx.sign c = false ∨ Rem y) : Lx.symbols y = 0 := by
  cases y with
  | nil => rfl
  | cons d y =>
    simp only [Lx.symbols]
    rw [if_neg]
    rintro ⟨h1, h2⟩
    rcases h d rfl with h3 | ⟨r, h3⟩
    · simp [h3] at h1
    · simp only [List.cons.injEq] at h3
      obtain ⟨rfl, rfl⟩ := h3
      exact h2 ⟨rfl, rfl⟩

theorem stop_head {x y : List Byte} (h : x.head? = y.head?) : Lx.stop x = Lx.stop y := by
  cases x with
  | nil => cases y with
    | nil => rfl
    | cons d y => simp at h
  | cons c x => cases y with
    | nil => simp at h
    | cons d y => simp only [List.head?_cons, Option.some.injEq] at h; subst h; rfl
theorem stop_brk {y : List Byte} (h : Brk y) : Lx.stop y = true := by
  cases y with
  | nil => rfl
  | cons d y => simp [Lx.stop, h d rfl]

theorem token_local {u x y : List Byte} {t : Lx.Raw} (hu : u.length = t.len) (h0 : 0 < t.len) (hs : Swap x y t) (h : Lx.token (u ++ x) = .ok t) : Lx.token (u ++ y) = .ok t := by
  cases u with
  | nil => simp at hu; omega
  | cons c u =>
    have tk : ∀ z, List.take (c :: u).length (c :: (u ++ z)) = c :: u := fun z => List.take_left (l₁ := c :: u) (l₂ := z)
    simp only [List.cons_append, Lx.token] at h ⊢
    by_cases h1 : Lx.small c = true
    · rw [if_pos h1] at h ⊢
      simp only [Lx.Res.ok.injEq] at h
      have hl : Lx.run Lx.letter (c :: u ++ x) = (c :: u).length := by rw [hu, ← h]; rfl
      have hr := run_app _ _ hl
      have hr2 : Lx.run Lx.letter (c :: u ++ y) = (c :: u).length := run_mk _ _ hr.1 (head_of hs (fun c hc => (blank_not hc).1) hr.2)
      simp only [List.cons_append] at hl hr2
      rw [hr2, ← h, hl]; simp only [Lx.plain, tk]
    rw [if_neg h1] at h ⊢
    by_cases h2 : Lx.capital c = true
    · rw [if_pos h2] at h ⊢
      simp only [Lx.Res.ok.injEq] at h
      have hl : Lx.run Lx.letter (c :: u ++ x) = (c :: u).length := by rw [hu, ← h]; rfl
      have hr := run_app _ _ hl
      have hr2 : Lx.run Lx.letter (c :: u ++ y) = (c :: u).length := run_mk _ _ hr.1 (head_of hs (fun c hc => (blank_not hc).1) hr.2)
      simp only [List.cons_append] at hl hr2
      rw [hr2, ← h, hl]; simp only [Lx.plain, tk]
    rw [if_neg h2] at h ⊢
    by_cases h3 : Lx.digit c = true
    · rw [if_pos h3] at h ⊢
      obtain ⟨z, hz, e⟩ := map_ok h
      have hzl : z.2 = (c :: u).length := by rw [hu, e]
      have hn : Lx.number (c :: u ++ y) = .ok (z.1, (c :: u).length) := number_local (x := x) (by simp) hs (by rw [← hzl]; exact hz)
      rw [List.cons_append] at hn
      rw [hn, e]
      simp only [Lx.Res.map, hzl, tk]
    rw [if_neg h3] at h ⊢
    by_cases h4 : Lx.punct c = true
    · rw [if_pos h4] at h ⊢
      rw [← h]; rfl
    rw [if_neg h4] at h ⊢
    by_cases h5 : c = 33 ∨ c = 59
    · rw [if_pos h5] at h ⊢
      rw [← h]; rfl
    rw [if_neg h5] at h ⊢
    by_cases h6 : c = 39
    · rw [if_pos h6] at h ⊢
      obtain ⟨z, hz, e⟩ := map_ok h
      have hzl : z.2 = 1 + u.length := by rw [show 1 + u.length = (c :: u).length from by simp; omega, hu, e]
      have hq := quoted_local u x (k := 1) (l := z.1) (by rw [← hzl]; exact hz)
      have hx39 : x.head? ≠ some 39 := hq.1
      have hy39 : y.head? ≠ some 39 := by
        intro hy
        rcases hs with ⟨hb, _⟩ | ⟨hb, _⟩
        · exact (blank_not (hb 39 hy)).2.2.1 rfl
        · exact hx39 (hb.trans hy)
      rw [hq.2 y hy39, e]
      simp only [Lx.Res.map, hzl]
    rw [if_neg h6] at h ⊢
    by_cases h7 : c = 46 ∧ Lx.stop (u ++ x) = true
    · rw [if_pos h7] at h
      have hl : u = [] := by
        simp only [Lx.Res.ok.injEq] at h
        rw [← h] at hu; simpa [Lx.plain] using hu
      subst hl
      rw [if_pos]
      · rw [← h]; rfl
      · refine ⟨h7.1, ?_⟩
        rcases hs with ⟨hb, _⟩ | ⟨hb, _⟩
        · exact stop_brk hb
        · rw [← h7.2]; exact (stop_head hb).symm
    rw [if_neg h7] at h
    by_cases h8 : Lx.sign c = true
    · rw [if_pos h8] at h
      simp only [Lx.Res.ok.injEq] at h
      have hl : Lx.symbols (c :: u ++ x) = (c :: u).length := by rw [hu, ← h]; rfl
      have hr := sym_app _ _ hl
      have hy : Lx.symbols y = 0 := by
        apply sym_zero_mk
        intro d hd
        rcases hs with ⟨hb, _⟩ | ⟨hb, hb2⟩
        · exact .inl (blank_not (hb d hd)).2.2.2.1
        · rcases sym_zero hr.2.1 d (hb.trans hd) with h | h
          · exact .inl h
          · exact .inr (hb2.1 h)
      have hl2 := hr.1 y hy (by
        intro hla hy42
        rcases hs with ⟨hb, _⟩ | ⟨hb, hb2⟩
        · exact (blank_not (hb 42 hy42)).2.2.2.2.1 rfl
        · exact hr.2.2 hla (hb.trans hy42))
      rw [if_neg, if_pos h8]
      · simp only [List.cons_append] at hl hl2
        rw [hl2, ← h, hl]; simp only [Lx.plain, tk]
      · rintro ⟨rfl, hst⟩
        apply h7
        refine ⟨rfl, ?_⟩
        cases u with
        | nil =>
          rcases hs with ⟨hb, hd⟩ | ⟨hb, hb2⟩
          · exfalso; apply hd
            rw [← h]
            simp only [List.cons_append] at hl
            rw [hl]; exact ⟨rfl, rfl, rfl⟩
          · rw [← hst]; exact stop_head hb
        | cons e u => exact hst
    rw [if_neg h8] at h
    simp at h
end Go.Proofs.YtjcnhoagccdclaaDoor
