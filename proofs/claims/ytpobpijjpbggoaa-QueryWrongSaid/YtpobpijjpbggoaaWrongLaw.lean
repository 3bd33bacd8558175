/- Plain laws of the reader of queries: texts that are none. -/
import Derived.Test.YtpobpijjpbggoaaBackLaw
set_option linter.unusedSimpArgs false
set_option linter.unusedVariables false
namespace Go.Ten.Qy

theorem fac_wrong (d : Nat) (r : R) (hb : r.bad = 0) (h : r.s = [] ∨ ∃ c t, r.s = c :: t ∧ c ≠ 32 ∧ c ≠ 33 ∧ c ≠ 40 ∧ letter c = 0) : (rdFactor (d + 1) r).bad = 7 := by
  rw [rdFactor, if_pos hb]
  simp only
  have hb' : ({ r with deep := r.deep + 1 } : R).bad = 0 := hb
  have h' : ({ r with deep := r.deep + 1 } : R).s = [] ∨ ∃ c t, ({ r with deep := r.deep + 1 } : R).s = c :: t ∧ c ≠ 32 ∧ c ≠ 33 ∧ c ≠ 40 ∧ letter c = 0 := h
  generalize ({ r with deep := r.deep + 1 } : R) = r1 at hb' h'
  rw [facBody]
  rcases h' with hs | ⟨c, t, hs, n1, n2, n3, hl⟩
  · have t33 : tk 33 r1 = (r1, false) := tk_nil hs
    have t40 : tk 40 r1 = (r1, false) := tk_nil hs
    have hh : letter (headB (skipB r1.s)) = 0 := by rw [hs]; decide
    rw [t33, t40]
    simp only [Bool.false_eq_true, if_false, hh, ne_eq, not_true_eq_false]
    rw [rdWrong, if_pos (by exact hb')]
  · have hh : letter (headB (skipB r1.s)) = 0 := by rw [hs, skipB_cons n1]; exact hl
    rw [tk_no hs n1 n2, tk_no hs n1 n3]
    simp only [Bool.false_eq_true, if_false, hh, ne_eq, not_true_eq_false]
    rw [rdWrong, if_pos (by exact hb')]
theorem fac_word (d : Nat) (r : R) (x rest : List UInt8) (hx : isTerm x = true) (hb : r.bad = 0) (hs : r.s = x ++ rest) (hrest : letter (headB rest) = 0) (hl : r.out.length < 64) :
    rdFactor (d + 1) r = { r with s := rest, out := r.out ++ [⟨1, x⟩] } := by
  rw [isTerm_iff] at hx
  obtain ⟨h1, h2, h3⟩ := hx
  obtain ⟨w1, w2⟩ := wordOf_app x rest h1 hrest
  rcases x with _ | ⟨c, u⟩
  · exact absurd rfl h2
  · obtain ⟨l1, l2⟩ := h1 c (List.mem_cons_self ..)
    obtain ⟨n1, n2, n3⟩ := letter_head c l1 l2
    have hs' : ({ r with deep := r.deep + 1 } : R).s = c :: (u ++ rest) := hs
    rw [rdFactor, if_pos hb]
    simp only
    rw [facBody, tk_no hs' n1 n2, tk_no hs' n1 n3]
    simp only [Bool.false_eq_true, if_false]
    rw [pk_cons hs' n1]
    rw [hs, List.cons_append, skipB_cons n1, if_pos (by simp [headB, l1, l2]), rdWord]
    simp only [List.cons_append] at hs w1 w2
    simp only [hs, w1, w2]
    rw [if_neg (by omega), rdPart]
    simp only [if_neg (show ¬ 64 ≤ r.out.length by omega), if_pos hb]
    simp
theorem fac_long (d : Nat) (r : R) (x : List UInt8) (hx : ∀ c ∈ x, letter c = c ∧ c ≠ 0) (h12 : 12 < x.length) (hb : r.bad = 0) (hs : r.s = x) : (rdFactor (d + 1) r).bad = 6 := by
  obtain ⟨w1, w2⟩ := wordOf_app x [] hx (by decide)
  rw [List.append_nil] at w1 w2
  rcases x with _ | ⟨c, u⟩
  · simp at h12
  · obtain ⟨l1, l2⟩ := hx c (List.mem_cons_self ..)
    obtain ⟨n1, n2, n3⟩ := letter_head c l1 l2
    have hs' : ({ r with deep := r.deep + 1 } : R).s = c :: u := hs
    rw [rdFactor, if_pos hb]
    simp only
    rw [facBody, tk_no hs' n1 n2, tk_no hs' n1 n3]
    simp only [Bool.false_eq_true, if_false]
    rw [pk_cons hs' n1]
    rw [hs, skipB_cons n1, if_pos (by simp [headB, l1, l2]), rdWord]
    simp only [hs, w1, w2]
    rw [if_pos (by omega)]
    have e : (rdWrong 6 { s := [], deep := r.deep + 1, out := r.out, bad := r.bad }).bad = 6 := by rw [rdWrong, if_pos hb]
    rw [(rdPart_keeps 1 (c :: u) _).2.2 (by rw [e]; decide)]
    exact e

/-- A reader with an error in it answers that. -/
theorem parse_bad {s : List UInt8} {e : Int} (hl : s.length ≤ 512) (he : e ≠ 0) (h : (rdOr (rdFactor 64) ⟨s, 0, [], 0⟩).bad = e) : rdParse s = ([], e) := by
  rw [rdParse, if_neg (by omega)]
  simp only
  generalize rdOr (rdFactor 64) ⟨s, 0, [], 0⟩ = r at *
  by_cases hs : skipB r.s = []
  · have e2 : (pk r).bad = e := h
    rw [if_pos hs, if_neg (by omega), e2]
  · have e1 : rdWrong 7 (pk r) = pk r := (rdWrong_keeps 7 (pk r)).2.2.2 (by show r.bad ≠ 0; omega)
    have e2 : (pk r).bad = e := h
    rw [if_neg hs, e1, if_neg (by omega), e2]
theorem and_bad {F : R → R} {r : R} {e : Int} (he : e ≠ 0) (h : (F r).bad = e) : (rdAnd F r).bad = e := by
  rw [rdAnd, rdAndLoop_bad (by omega)]; exact h
theorem or_bad {F : R → R} {r : R} {e : Int} (he : e ≠ 0) (h : (F r).bad = e) : (rdOr F r).bad = e := by
  have := and_bad he h
  rw [rdOr, rdOrLoop_bad (by omega)]; exact this
theorem parse_fac {s : List UInt8} {e : Int} (hl : s.length ≤ 512) (he : e ≠ 0) (h : (rdFactor 64 ⟨s, 0, [], 0⟩).bad = e) : rdParse s = ([], e) := parse_bad hl he (or_bad he h)
theorem parse_wrong {s : List UInt8} (hl : s.length ≤ 512) (h : s = [] ∨ ∃ c t, s = c :: t ∧ c ≠ 32 ∧ c ≠ 33 ∧ c ≠ 40 ∧ letter c = 0) : rdParse s = ([], 7) :=
  parse_fac hl (by decide) (fac_wrong 63 _ rfl h)
theorem part_keep_bad {k : Int} {t : List UInt8} {r : R} {e : Int} (he : e ≠ 0) (h : r.bad = e) : (rdPart k t r).bad = e := by
  rw [(rdPart_keeps k t r).2.2 (by omega)]; exact h
theorem parse_neg {s : List UInt8} {e : Int} (hl : s.length + 1 ≤ 512) (he : e ≠ 0) (h : (rdFactor 63 ⟨s, 1, [], 0⟩).bad = e) : rdParse (33 :: s) = ([], e) := by
  refine parse_fac (by simpa using hl) he ?_
  rw [rdFactor, if_pos rfl]
  simp only
  rw [facBody, tk_yes (r := ⟨33 :: s, 0 + 1, [], 0⟩) rfl (by decide)]
  simp only [if_true]
  exact part_keep_bad he h
theorem parse_open {s : List UInt8} {e : Int} (hl : s.length + 1 ≤ 512) (he : e ≠ 0) (h : (rdOr (rdFactor 63) ⟨s, 1, [], 0⟩).bad = e) : rdParse (40 :: s) = ([], e) := by
  refine parse_fac (by simpa using hl) he ?_
  rw [rdFactor, if_pos rfl]
  simp only
  rw [facBody, tk_no (r := ⟨40 :: s, 0 + 1, [], 0⟩) rfl (by decide) (by decide), tk_yes (r := ⟨40 :: s, 0 + 1, [], 0⟩) rfl (by decide)]
  simp only [if_true, Bool.false_eq_true, if_false]
  rw [if_neg (by show ¬ (rdOr (rdFactor 63) ⟨s, 0 + 1, [], 0⟩).bad = 0; rw [show (0 + 1 : Int) = 1 from rfl, h]; exact he)]
  exact h

theorem letter_low : ∀ c : UInt8, 97 ≤ c ∧ c ≤ 122 → letter c = c ∧ c ≠ 0 := u8_all (by decide +kernel)

theorem lows_term {x : List UInt8} (hx : ∀ c ∈ x, 97 ≤ c ∧ c ≤ 122) (hl : x.length ≤ 12) (h0 : x ≠ []) : isTerm x = true :=
  (isTerm_iff x).2 ⟨fun c hc => letter_low c (hx c hc), h0, hl⟩

def wrongTexts (x : List UInt8) : List (List UInt8) := [[], [33], 124 :: x, x ++ [124], x ++ [38], 40 :: x, x ++ [41], [40, 41], x ++ (124 :: 124 :: x), 33 :: 124 :: x, 38 :: 32 :: x]

theorem wrong_law {x : List UInt8} (hx : ∀ c ∈ x, 97 ≤ c ∧ c ≤ 122) (hl : x.length ≤ 8) : ∀ s ∈ wrongTexts x, rdParse s = ([], 7) := by
  have bar : ∀ t : List UInt8, ∃ c u, (124 :: t : List UInt8) = c :: u ∧ c ≠ 32 ∧ c ≠ 33 ∧ c ≠ 40 ∧ letter c = 0 := fun t => ⟨124, t, rfl, by decide, by decide, by decide, by decide⟩
  have amp : ∀ t : List UInt8, ∃ c u, (38 :: t : List UInt8) = c :: u ∧ c ≠ 32 ∧ c ≠ 33 ∧ c ≠ 40 ∧ letter c = 0 := fun t => ⟨38, t, rfl, by decide, by decide, by decide, by decide⟩
  have cls : ∀ t : List UInt8, ∃ c u, (41 :: t : List UInt8) = c :: u ∧ c ≠ 32 ∧ c ≠ 33 ∧ c ≠ 40 ∧ letter c = 0 := fun t => ⟨41, t, rfl, by decide, by decide, by decide, by decide⟩
  have l124 : ∀ t : List UInt8, letter (headB (124 :: t)) = 0 := fun t => by simp [headB]; decide
  have l38 : ∀ t : List UInt8, letter (headB (38 :: t)) = 0 := fun t => by simp [headB]; decide
  have l41 : ∀ t : List UInt8, letter (headB (41 :: t)) = 0 := fun t => by simp [headB]; decide
  have w : ∀ (d : Nat) (dl : Int) (rest : List UInt8), x ≠ [] → letter (headB rest) = 0 → rdFactor (d + 1) ⟨x ++ rest, dl, [], 0⟩ = ⟨rest, dl, [⟨1, x⟩], 0⟩ := fun d dl rest h0 hr =>
    fac_word d ⟨x ++ rest, dl, [], 0⟩ x rest (lows_term hx (by omega) h0) rfl rfl hr (by simp)
  intro s hs
  simp only [wrongTexts, List.mem_cons, List.not_mem_nil, or_false] at hs
  rcases hs with rfl | rfl | rfl | rfl | rfl | rfl | rfl | rfl | rfl | rfl | rfl
  · exact parse_wrong (by simp) (.inl rfl)
  · exact parse_neg (by simp) (by decide) (fac_wrong 62 _ rfl (.inl rfl))
  · exact parse_wrong (by simp; omega) (.inr (bar _))
  · by_cases h0 : x = []
    · subst h0; exact parse_wrong (by simp) (.inr (bar _))
    · refine parse_bad (by simp; omega) (by decide) ?_
      rw [rdOr, rdAnd, w 63 0 [124] h0 (l124 _), andLoop_stop _ (.inr ⟨124, [], rfl, .inl rfl⟩), rdOrLoop, if_pos rfl, tk_yes (r := ⟨[124], 0, [⟨1, x⟩], 0⟩) rfl (by decide)]
      simp only [if_true]
      have h1 := part_keep_bad (k := 3) (t := []) (by decide) (and_bad (e := 7) (by decide) (fac_wrong 63 ⟨[], 0, [⟨1, x⟩], 0⟩ rfl (.inl rfl)))
      rw [rdOrLoop_bad (by rw [h1]; decide)]
      exact h1
  · by_cases h0 : x = []
    · subst h0; exact parse_wrong (by simp) (.inr (amp _))
    · refine parse_bad (by simp; omega) (by decide) (e := 7) ?_
      have h2 : (rdAnd (rdFactor 64) ⟨x ++ [38], 0, [], 0⟩).bad = 7 := by
        rw [rdAnd, w 63 0 [38] h0 (l38 _), rdAndLoop, if_pos rfl]
        simp only
        rw [skipB_cons (by decide)]
        simp only
        rw [if_neg (by decide), pk_cons (d := 38) (t := []) rfl (by decide), tk_yes (r := ⟨[38], 0, [⟨1, x⟩], 0⟩) rfl (by decide)]
        have h1 := part_keep_bad (k := 2) (t := []) (by decide) (fac_wrong 63 ⟨[], 0, [⟨1, x⟩], 0⟩ rfl (.inl rfl))
        rw [rdAndLoop_bad (by rw [h1]; decide)]
        exact h1
      rw [rdOr, rdOrLoop_bad (by rw [h2]; decide)]
      exact h2
  · by_cases h0 : x = []
    · subst h0; exact parse_open (by simp) (by decide) (or_bad (by decide) (fac_wrong 62 _ rfl (.inl rfl)))
    · refine parse_fac (by simp; omega) (by decide) ?_
      rw [rdFactor, if_pos rfl]
      simp only
      rw [facBody, tk_no (r := ⟨40 :: x, 0 + 1, [], 0⟩) rfl (by decide) (by decide), tk_yes (r := ⟨40 :: x, 0 + 1, [], 0⟩) rfl (by decide)]
      simp only [if_true, Bool.false_eq_true, if_false]
      have e : rdOr (rdFactor 63) ⟨x, 0 + 1, [], 0⟩ = ⟨[], 0 + 1, [⟨1, x⟩], 0⟩ := by
        have := w 62 (0 + 1) [] h0 (by decide)
        rw [List.append_nil] at this
        rw [rdOr, rdAnd, this, andLoop_stop _ (.inl rfl), orLoop_stop _ (.inl rfl)]
      rw [e]
      simp [tk, skipB, rdWrong]
  · by_cases h0 : x = []
    · subst h0; exact parse_wrong (by simp) (.inr (cls _))
    · rw [rdParse, if_neg (by simp; omega)]
      simp only
      have e : rdOr (rdFactor 64) ⟨x ++ [41], 0, [], 0⟩ = ⟨[41], 0, [⟨1, x⟩], 0⟩ := by
        rw [rdOr, rdAnd, w 63 0 [41] h0 (l41 _), andLoop_stop _ (.inr ⟨41, [], rfl, .inr rfl⟩), orLoop_stop _ (.inr ⟨[], rfl⟩)]
      rw [e]
      simp [skipB, pk, rdWrong]
  · exact parse_open (by simp) (by decide) (or_bad (by decide) (fac_wrong 62 _ rfl (.inr (cls _))))
  · by_cases h0 : x = []
    · subst h0; exact parse_wrong (by simp) (.inr (bar _))
    · refine parse_bad (by simp; omega) (by decide) ?_
      rw [rdOr, rdAnd, w 63 0 (124 :: 124 :: x) h0 (l124 _), andLoop_stop _ (.inr ⟨124, _, rfl, .inl rfl⟩), rdOrLoop, if_pos rfl, tk_yes (r := ⟨124 :: 124 :: x, 0, [⟨1, x⟩], 0⟩) rfl (by decide)]
      simp only [if_true]
      have h1 := part_keep_bad (k := 3) (t := []) (by decide) (and_bad (e := 7) (by decide) (fac_wrong 63 ⟨124 :: x, 0, [⟨1, x⟩], 0⟩ rfl (.inr (bar _))))
      rw [rdOrLoop_bad (by rw [h1]; decide)]
      exact h1
  · exact parse_neg (by simp; omega) (by decide) (fac_wrong 62 _ rfl (.inr (bar _)))
  · exact parse_wrong (by simp; omega) (.inr (amp _))

theorem long_law {x : List UInt8} (hx : ∀ c ∈ x, 97 ≤ c ∧ c ≤ 122) (hl : x.length ≤ 8) : (rdParse ([97, 98, 99, 100, 101, 102, 103, 104, 105, 106, 107, 108, 109] ++ x)).2 = 6 := by
  rw [parse_fac (s := [97, 98, 99, 100, 101, 102, 103, 104, 105, 106, 107, 108, 109] ++ x) (e := 6) (by simp; omega) (by decide)
    (fac_long 63 _ _ (fun c hc => by
      rcases List.mem_append.1 hc with h | h
      · exact (by decide : ∀ c ∈ ([97, 98, 99, 100, 101, 102, 103, 104, 105, 106, 107, 108, 109] : List UInt8), letter c = c ∧ c ≠ 0) c h
      · exact letter_low c (hx c h)) (by simp) rfl rfl)]

theorem odd_law {b : UInt8} (h : letter b = 0) (h1 : b ≠ 32) (h2 : b ≠ 33) (h3 : b ≠ 40) (h4 : b ≠ 41) (h5 : b ≠ 38) (h6 : b ≠ 124) : (rdParse [97, 98, b, 99, 100]).2 = 7 := by
  rw [parse_bad (s := [97, 98, b, 99, 100]) (e := 7) (by simp) (by decide)]
  have hb : ∃ c u, ([b, 99, 100] : List UInt8) = c :: u ∧ c ≠ 32 ∧ c ≠ 33 ∧ c ≠ 40 ∧ letter c = 0 := ⟨b, _, rfl, h1, h2, h3, h⟩
  have hand : (rdAnd (rdFactor 64) ⟨[97, 98, b, 99, 100], 0, [], 0⟩).bad = 7 := by
    have e := fac_word 63 ⟨[97, 98, b, 99, 100], 0, [], 0⟩ [97, 98] [b, 99, 100] (by decide) rfl rfl h (by simp)
    rw [rdAnd, e, rdAndLoop, if_pos rfl]
    simp only
    rw [skipB_cons h1]
    simp only
    rw [if_neg (by rintro (h | h) <;> contradiction), pk_cons (d := b) (t := [99, 100]) rfl h1, tk_no (c := 38) (d := b) (t := [99, 100]) rfl h1 h5]
    have k := part_keep_bad (k := 2) (t := []) (by decide) (fac_wrong 63 ⟨[b, 99, 100], 0, [] ++ [⟨1, [97, 98]⟩], 0⟩ rfl (.inr hb))
    rw [rdAndLoop_bad (by rw [k]; decide)]
    exact k
  rw [rdOr, rdOrLoop_bad (by rw [hand]; decide)]
  exact hand
end Go.Ten.Qy
