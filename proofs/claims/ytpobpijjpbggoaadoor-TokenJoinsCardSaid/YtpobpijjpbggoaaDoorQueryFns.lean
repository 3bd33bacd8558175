/- What the package query computes, as functions on lists. -/
import Derived.WalkKit
namespace Go.Ten.Qy

/-- A byte as it counts in a term. -/
def letter (c : UInt8) : UInt8 := if (97 ≤ c ∧ c ≤ 122) ∨ (48 ≤ c ∧ c ≤ 57) then c else if 65 ≤ c ∧ c ≤ 90 then c - 65 + 97 else 0

structure Part where
  kind : Int
  term : List UInt8
deriving DecidableEq

structure R where
  s : List UInt8
  deep : Int
  out : List Part
  bad : Int

def isTerm (s : List UInt8) : Bool := s.all (fun c => letter c == c && c != 0) && s != [] && decide (s.length ≤ 12)

def takesQ (p : Part) : Int :=
  if p.kind = 1 ∧ isTerm p.term = true then 0
  else if p.kind = 4 ∧ p.term = [] then 1
  else if (p.kind = 2 ∨ p.kind = 3) ∧ p.term = [] then 2
  else -1

/-- How many sets lie on the stack behind these parts; none: it is no query. -/
def depthOf : List Part → Int → Option Int
  | [], n => some n
  | p :: l, n => if takesQ p < 0 ∨ n < takesQ p then none else depthOf l (n + (1 - takesQ p))

def rightQ (q : List Part) : Bool := depthOf q 0 == some 1 && decide (q.length ≤ 64)

def skipB : List UInt8 → List UInt8
  | [] => []
  | c :: t => if c = 32 then skipB t else c :: t

def pk (r : R) : R := { r with s := skipB r.s }

def tk (c : UInt8) (r : R) : R × Bool :=
  match skipB r.s with
  | [] => ({ r with s := [] }, false)
  | d :: t => if d = c then ({ r with s := t }, true) else ({ r with s := d :: t }, false)

def rdWrong (e : Int) (r : R) : R := if r.bad = 0 then { r with bad := e } else r

def rdPart (k : Int) (t : List UInt8) (r : R) : R :=
  let r1 := if 64 ≤ r.out.length then rdWrong 11 r else r
  if r1.bad = 0 then { r1 with out := r1.out ++ [⟨k, t⟩] } else r1

def wordOf : List UInt8 → List UInt8
  | [] => []
  | c :: t => if letter c = 0 then [] else letter c :: wordOf t

def wordRest : List UInt8 → List UInt8
  | [] => []
  | c :: t => if letter c = 0 then c :: t else wordRest t

def rdWord (r : R) : R :=
  let w := wordOf r.s
  let r1 := { r with s := wordRest r.s }
  rdPart 1 w (if 12 < w.length then rdWrong 6 r1 else r1)

def rdAndLoop (F : R → R) : Nat → R → R
  | 0, r => r
  | n + 1, r =>
    if r.bad = 0 then
      match skipB r.s with
      | [] => pk r
      | c :: _ => if c = 124 ∨ c = 41 then pk r else rdAndLoop F n (rdPart 2 [] (F (tk 38 (pk r)).1))
    else r

def rdAnd (F : R → R) (r : R) : R := rdAndLoop F ((F r).s.length + 1) (F r)

def rdOrLoop (F : R → R) : Nat → R → R
  | 0, r => r
  | n + 1, r =>
    if r.bad = 0 then
      if (tk 124 r).2 then rdOrLoop F n (rdPart 3 [] (rdAnd F (tk 124 r).1)) else (tk 124 r).1
    else r

def rdOr (F : R → R) (r : R) : R := rdOrLoop F ((rdAnd F r).s.length + 1) (rdAnd F r)

def headB (s : List UInt8) : UInt8 := s.headD 0

def facBody (F : R → R) (r : R) : R :=
  if (tk 33 r).2 then rdPart 4 [] (F (tk 33 r).1)
  else if (tk 40 r).2 then
    let r4 := rdOr F (tk 40 r).1
    if r4.bad = 0 then
      if (tk 41 r4).2 then (tk 41 r4).1 else rdWrong 7 (tk 41 r4).1
    else r4
  else if letter (headB (skipB r.s)) ≠ 0 then rdWord (pk r) else rdWrong 7 (pk r)

def rdFactor : Nat → R → R
  | 0, r => rdWrong 11 { r with deep := r.deep + 1 }
  | d + 1, r =>
    if r.bad = 0 then
      let r' := facBody (rdFactor d) { r with deep := r.deep + 1 }
      { r' with deep := r'.deep - 1 }
    else { r with deep := r.deep + 1 }

def rdParse (s : List UInt8) : List Part × Int :=
  if 512 < s.length then ([], 11) else
  let r := rdOr (rdFactor 64) ⟨s, 0, [], 0⟩
  let r1 := if skipB r.s = [] then pk r else rdWrong 7 (pk r)
  if r1.bad = 0 then (r1.out, 0) else ([], r1.bad)

/-! ### A query's text, a query's value: the stack's top is the head -/
def textStep (p : Part) (st : List (List UInt8)) : List (List UInt8) :=
  if p.kind = 1 then p.term :: st
  else if p.kind = 4 then (match st with | x :: r => (33 :: x) :: r | [] => [])
  else if p.kind = 2 then (match st with | y :: x :: r => (40 :: x ++ 38 :: y ++ [41]) :: r | _ => [])
  else (match st with | y :: x :: r => (40 :: x ++ 124 :: y ++ [41]) :: r | _ => [])
def textGo : List Part → List (List UInt8) → List (List UInt8)
  | [], st => st
  | p :: l, st => textGo l (textStep p st)
def text (q : List Part) : List UInt8 := if rightQ q = true then (textGo q []).headD [] else []
def terms (q : List Part) : List (List UInt8) := (q.filter fun p => p.kind = 1).map Part.term

/-! ### What the steps keep -/
theorem skipB_le (s : List UInt8) : (skipB s).length ≤ s.length := by
  induction s with
  | nil => simp [skipB]
  | cons c t ih =>
    rw [skipB]
    split
    · simp; omega
    · simp
theorem skipB_idem (s : List UInt8) : skipB (skipB s) = skipB s := by
  induction s with
  | nil => rfl
  | cons c t ih =>
    rw [skipB]
    split
    · exact ih
    · rename_i h; rw [skipB, if_neg h]
theorem tk_pk (c : UInt8) (r : R) : tk c (pk r) = tk c r := by
  unfold tk pk
  simp only [skipB_idem]
theorem tk_false {c : UInt8} {r : R} (h : ¬ (tk c r).2 = true) : (tk c r).1 = pk r := by
  unfold tk pk at *
  rcases hk : skipB r.s with _ | ⟨d, t⟩
  · rfl
  · rw [hk] at h
    simp only at h ⊢
    split
    · rename_i e; rw [if_pos e] at h; simp at h
    · rfl
theorem pk_le (r : R) : (pk r).s.length ≤ r.s.length := skipB_le r.s
theorem tk_keeps (c : UInt8) (r : R) : (tk c r).1.bad = r.bad ∧ (tk c r).1.deep = r.deep ∧ (tk c r).1.out = r.out ∧ (tk c r).1.s.length ≤ r.s.length ∧ ((tk c r).2 = true → (tk c r).1.s.length < r.s.length) := by
  have := skipB_le r.s
  rw [tk]
  split
  · rename_i h; rw [h] at this; simp at this; simp
  · rename_i d t h
    rw [h] at this
    simp at this
    split
    · refine ⟨rfl, rfl, rfl, ?_, fun _ => ?_⟩ <;> simp <;> omega
    · simp; omega
theorem rdWrong_keeps (e : Int) (r : R) : (rdWrong e r).s = r.s ∧ (rdWrong e r).deep = r.deep ∧ (rdWrong e r).out = r.out ∧ (r.bad ≠ 0 → rdWrong e r = r) := by
  rw [rdWrong]
  split
  · exact ⟨rfl, rfl, rfl, fun h => absurd (by assumption) h⟩
  · exact ⟨rfl, rfl, rfl, fun _ => rfl⟩
theorem rdPart_keeps (k : Int) (t : List UInt8) (r : R) : (rdPart k t r).s = r.s ∧ (rdPart k t r).deep = r.deep ∧ (r.bad ≠ 0 → rdPart k t r = r) := by
  have h1 := rdWrong_keeps 11 r
  rw [rdPart]
  by_cases h : 64 ≤ r.out.length
  · simp only [if_pos h]
    split
    · exact ⟨h1.1, h1.2.1, fun hb => by rw [h1.2.2.2 hb] at *; exact absurd (by assumption) hb⟩
    · exact ⟨h1.1, h1.2.1, fun hb => h1.2.2.2 hb⟩
  · simp only [if_neg h]
    split
    · exact ⟨rfl, rfl, fun hb => absurd (by assumption) hb⟩
    · exact ⟨rfl, rfl, fun _ => rfl⟩
theorem wordRest_le (s : List UInt8) : (wordRest s).length ≤ s.length := by
  induction s with
  | nil => simp [wordRest]
  | cons c t ih =>
    rw [wordRest]
    split
    · simp
    · simp; omega
theorem rdWord_keeps (r : R) : (rdWord r).s = wordRest r.s ∧ (rdWord r).deep = r.deep := by
  rw [rdWord]
  have h := rdPart_keeps 1 (wordOf r.s) (if 12 < (wordOf r.s).length then rdWrong 6 { r with s := wordRest r.s } else { r with s := wordRest r.s })
  rw [h.1, h.2.1]
  split
  · exact ⟨(rdWrong_keeps 6 _).1, (rdWrong_keeps 6 _).2.1⟩
  · exact ⟨rfl, rfl⟩

/-- How deep the reader is, at a depth. -/
def Iv (dl : Int) (r : R) : Prop := (r.bad = 0 → r.deep = dl) ∧ dl ≤ r.deep ∧ r.deep ≤ dl + 1

def FOK (F : R → R) (dl : Int) : Prop := ∀ r, r.bad = 0 → Iv dl r → Iv dl (F r) ∧ (F r).s.length ≤ r.s.length ∧ ((F r).bad = 0 → (F r).s.length < r.s.length)

theorem Iv.tk {dl : Int} {r : R} (h : Iv dl r) (c : UInt8) : Iv dl (tk c r).1 := by
  have := tk_keeps c r
  unfold Iv at *
  rw [this.1, this.2.1]
  exact h
theorem Iv.pk {dl : Int} {r : R} (h : Iv dl r) : Iv dl (pk r) := h
theorem Iv.part {dl : Int} {r : R} (h : Iv dl r) (k : Int) (t : List UInt8) : Iv dl (rdPart k t r) := by
  have := rdPart_keeps k t r
  unfold Iv at *
  rw [this.2.1]
  refine ⟨fun hb => ?_, h.2⟩
  by_cases hr : r.bad = 0
  · exact h.1 hr
  · rw [this.2.2 hr] at hb; exact absurd hb hr
theorem Iv.wrong {dl : Int} {r : R} (h : Iv dl r) (e : Int) : Iv dl (rdWrong e r) := by
  have := rdWrong_keeps e r
  unfold Iv at *
  rw [this.2.1]
  refine ⟨fun hb => ?_, h.2⟩
  by_cases hr : r.bad = 0
  · exact h.1 hr
  · rw [this.2.2.2 hr] at hb; exact absurd hb hr

theorem rdAndLoop_bad {F : R → R} {r : R} (h : r.bad ≠ 0) (n : Nat) : rdAndLoop F n r = r := by
  cases n with
  | zero => rfl
  | succ n => rw [rdAndLoop, if_neg h]
theorem rdOrLoop_bad {F : R → R} {r : R} (h : r.bad ≠ 0) (n : Nat) : rdOrLoop F n r = r := by
  cases n with
  | zero => rfl
  | succ n => rw [rdOrLoop, if_neg h]

theorem rdAndLoop_iv {F : R → R} {dl : Int} (hF : FOK F dl) : ∀ (n : Nat) (r : R), Iv dl r → Iv dl (rdAndLoop F n r) ∧ (rdAndLoop F n r).s.length ≤ r.s.length := by
  intro n
  induction n with
  | zero => intro r h; exact ⟨h, Nat.le_refl _⟩
  | succ n ih =>
    intro r h
    rw [rdAndLoop]
    split
    · rename_i hb
      split
      · exact ⟨h.pk, pk_le r⟩
      · split
        · exact ⟨h.pk, pk_le r⟩
        · have h1 := tk_keeps 38 (pk r)
          have h2 := hF (tk 38 (pk r)).1 (by rw [h1.1]; exact hb) (h.pk.tk 38)
          have h3 := rdPart_keeps 2 [] (F (tk 38 (pk r)).1)
          have h4 := ih (rdPart 2 [] (F (tk 38 (pk r)).1)) (h2.1.part 2 [])
          refine ⟨h4.1, ?_⟩
          have := pk_le r
          rw [h3.1] at h4
          omega
    · exact ⟨h, Nat.le_refl _⟩
theorem rdAnd_ok {F : R → R} {dl : Int} (hF : FOK F dl) : FOK (rdAnd F) dl := by
  intro r hb hi
  have h1 := hF r hb hi
  have h2 := rdAndLoop_iv hF ((F r).s.length + 1) (F r) h1.1
  refine ⟨h2.1, Nat.le_trans h2.2 h1.2.1, fun h => ?_⟩
  by_cases hb' : (F r).bad = 0
  · exact Nat.lt_of_le_of_lt h2.2 (h1.2.2 hb')
  · rw [rdAnd, rdAndLoop_bad hb'] at h; exact absurd h hb'
theorem rdOrLoop_iv {F : R → R} {dl : Int} (hF : FOK F dl) : ∀ (n : Nat) (r : R), Iv dl r → Iv dl (rdOrLoop F n r) ∧ (rdOrLoop F n r).s.length ≤ r.s.length := by
  intro n
  induction n with
  | zero => intro r h; exact ⟨h, Nat.le_refl _⟩
  | succ n ih =>
    intro r h
    rw [rdOrLoop]
    have h1 := tk_keeps 124 r
    split
    · rename_i hb
      split
      · have h2 := rdAnd_ok hF (tk 124 r).1 (by rw [h1.1]; exact hb) (h.tk 124)
        have h3 := rdPart_keeps 3 [] (rdAnd F (tk 124 r).1)
        have h4 := ih (rdPart 3 [] (rdAnd F (tk 124 r).1)) (h2.1.part 3 [])
        refine ⟨h4.1, ?_⟩
        rw [h3.1] at h4
        omega
      · exact ⟨h.tk 124, h1.2.2.2.1⟩
    · exact ⟨h, Nat.le_refl _⟩
theorem rdOr_ok {F : R → R} {dl : Int} (hF : FOK F dl) : FOK (rdOr F) dl := by
  intro r hb hi
  have h1 := rdAnd_ok hF r hb hi
  have h2 := rdOrLoop_iv hF ((rdAnd F r).s.length + 1) (rdAnd F r) h1.1
  refine ⟨h2.1, Nat.le_trans h2.2 h1.2.1, fun h => ?_⟩
  by_cases hb' : (rdAnd F r).bad = 0
  · exact Nat.lt_of_le_of_lt h2.2 (h1.2.2 hb')
  · rw [rdOr, rdOrLoop_bad hb'] at h; exact absurd h hb'

theorem wordRest_lt {s : List UInt8} (h : letter (headB s) ≠ 0) : (wordRest s).length < s.length := by
  cases s with
  | nil => simp [headB, letter] at h
  | cons c t =>
    simp [headB] at h
    rw [wordRest, if_neg h]
    have := wordRest_le t
    simp; omega

theorem facBody_ok {F : R → R} {dl : Int} (hF : FOK F dl) (r : R) (hb : r.bad = 0) (hi : Iv dl r) : Iv dl (facBody F r) ∧ (facBody F r).s.length ≤ r.s.length ∧ ((facBody F r).bad = 0 → (facBody F r).s.length < r.s.length) := by
  have t1 := tk_keeps 33 r
  have t2 := tk_keeps 40 r
  have hpk := pk_le r
  rw [facBody]
  split
  · rename_i h
    have h2 := hF (tk 33 r).1 (by rw [t1.1]; exact hb) (hi.tk 33)
    have h3 := rdPart_keeps 4 [] (F (tk 33 r).1)
    rw [h3.1]
    exact ⟨h2.1.part 4 [], by omega, fun _ => by have := t1.2.2.2.2 h; omega⟩
  · split
    · rename_i h
      have h2 := rdOr_ok hF (tk 40 r).1 (by rw [t2.1]; exact hb) (hi.tk 40)
      have h4 := t2.2.2.2.2 h
      have t3 := tk_keeps 41 (rdOr F (tk 40 r).1)
      simp only
      split
      · split
        · exact ⟨h2.1.tk 41, by omega, fun _ => by omega⟩
        · rw [(rdWrong_keeps 7 _).1]
          exact ⟨(h2.1.tk 41).wrong 7, by omega, fun _ => by omega⟩
      · exact ⟨h2.1, by omega, fun _ => by omega⟩
    · split
      · rename_i h
        have h1 := rdWord_keeps (pk r)
        have h2 := wordRest_lt h
        have h3 : (pk r).s = skipB r.s := rfl
        rw [h1.1, h3]
        have h5 : (skipB r.s).length ≤ r.s.length := skipB_le _
        refine ⟨?_, by omega, fun _ => by omega⟩
        unfold Iv at *
        rw [h1.2]
        exact ⟨fun _ => hi.1 hb, hi.2⟩
      · refine ⟨hi.pk.wrong 7, by rw [(rdWrong_keeps 7 _).1]; exact hpk, fun h => ?_⟩
        rw [rdWrong, if_pos (show (pk r).bad = 0 from hb)] at h
        simp at h

theorem rdFactor_ok : ∀ (d : Nat) (dl : Int), FOK (rdFactor d) dl := by
  intro d
  induction d with
  | zero =>
    intro dl r hb hi
    rw [rdFactor, rdWrong, if_pos (by exact hb)]
    have := hi.1 hb
    exact ⟨⟨fun h => by simp at h, by simp; omega, by simp; omega⟩, by simp, fun h => by simp at h⟩
  | succ d ih =>
    intro dl r hb hi
    have h0 := hi.1 hb
    have h := facBody_ok (ih (dl + 1)) { r with deep := r.deep + 1 } hb ⟨fun _ => by simp; omega, by simp; omega, by simp; omega⟩
    rw [rdFactor, if_pos hb]
    simp only
    obtain ⟨⟨h1, h2, h3⟩, h4, h5⟩ := h
    exact ⟨⟨fun hh => by have := h1 hh; simp; omega, by simp; omega, by simp; omega⟩, h4, h5⟩
end Go.Ten.Qy
