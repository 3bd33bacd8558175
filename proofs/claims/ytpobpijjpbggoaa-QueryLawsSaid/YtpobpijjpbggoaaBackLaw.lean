/- Plain laws of the reader of queries: what it reads is the postfix of a tree; a tree's text is read as that tree again, or is too long. -/
import Derived.Test.YtpobpijjpbggoaaQueryFns
set_option linter.unusedSimpArgs false
set_option linter.unusedVariables false
namespace Go.Ten.Qy

theorem u8_all {p : UInt8 → Prop} [DecidablePred p] (h : ∀ n : Fin 256, p (UInt8.ofFin n)) (c : UInt8) : p c := h c.toFin
theorem letter_head (c : UInt8) : letter c = c → c ≠ 0 → c ≠ 32 ∧ c ≠ 33 ∧ c ≠ 40 := by
  revert c
  exact u8_all (by decide +kernel)
theorem letter_letter (c : UInt8) : letter (letter c) = letter c := by
  revert c
  exact u8_all (by decide +kernel)

inductive Q where
  | term (t : List UInt8)
  | neg (a : Q)
  | bin (o : Bool) (a b : Q)

namespace Q
def ok : Q → Prop
  | .term t => isTerm t = true
  | .neg a => a.ok
  | .bin _ a b => a.ok ∧ b.ok
def post : Q → List Part
  | .term t => [⟨1, t⟩]
  | .neg a => a.post ++ [⟨4, []⟩]
  | .bin o a b => a.post ++ (b.post ++ [⟨if o then 3 else 2, []⟩])
def txt : Q → List UInt8
  | .term t => t
  | .neg a => 33 :: a.txt
  | .bin o a b => 40 :: (a.txt ++ (if o then 124 else 38) :: (b.txt ++ [41]))

theorem depth (t : Q) : t.ok → ∀ (m : List Part) (n : Int), 0 ≤ n → depthOf (t.post ++ m) n = depthOf m (n + 1) := by
  induction t with
  | term s =>
    intro h m n hn
    have h : isTerm s = true := h
    have e : takesQ ⟨1, s⟩ = 0 := by simp [takesQ, h]
    show depthOf (⟨1, s⟩ :: m) n = _
    rw [depthOf, e, if_neg (by omega)]
    congr 1
  | neg a ih =>
    intro h m n hn
    have e : takesQ ⟨4, []⟩ = 1 := by simp [takesQ]
    show depthOf ((a.post ++ [⟨4, []⟩]) ++ m) n = _
    rw [List.append_assoc, ih h _ n hn]
    show depthOf (⟨4, []⟩ :: m) (n + 1) = _
    rw [depthOf, e, if_neg (by omega)]
    congr 1
    omega
  | bin o a b iha ihb =>
    intro h m n hn
    have e : takesQ ⟨if o then 3 else 2, []⟩ = 2 := by cases o <;> simp [takesQ]
    show depthOf ((a.post ++ (b.post ++ [⟨if o then 3 else 2, []⟩])) ++ m) n = _
    rw [List.append_assoc, iha h.1 _ n hn, List.append_assoc, ihb h.2 _ (n + 1) (by omega)]
    show depthOf (⟨if o then 3 else 2, []⟩ :: m) (n + 1 + 1) = _
    rw [depthOf, e, if_neg (by omega)]
    congr 1
    omega
theorem textGo (t : Q) : ∀ (m : List Part) (st : List (List UInt8)), Qy.textGo (t.post ++ m) st = Qy.textGo m (t.txt :: st) := by
  induction t with
  | term s => intro m st; rfl
  | neg a ih =>
    intro m st
    show Qy.textGo ((a.post ++ [⟨4, []⟩]) ++ m) st = _
    rw [List.append_assoc, ih]
    rfl
  | bin o a b iha ihb =>
    intro m st
    show Qy.textGo ((a.post ++ (b.post ++ [⟨if o then 3 else 2, []⟩])) ++ m) st = _
    rw [List.append_assoc, iha, List.append_assoc, ihb]
    cases o
    · show Qy.textGo m (textStep ⟨2, []⟩ (b.txt :: a.txt :: st)) = _
      simp [textStep, txt]
    · show Qy.textGo m (textStep ⟨3, []⟩ (b.txt :: a.txt :: st)) = _
      simp [textStep, txt]
theorem right {t : Q} (h : t.ok) (hl : t.post.length ≤ 64) : rightQ t.post = true := by
  have := t.depth h [] 0 (by omega)
  rw [List.append_nil] at this
  rw [rightQ, this]
  simp [depthOf, hl]
theorem text {t : Q} (h : t.ok) (hl : t.post.length ≤ 64) : Qy.text t.post = t.txt := by
  have := t.textGo [] []
  rw [List.append_nil] at this
  rw [Qy.text, if_pos (right h hl), this]
  rfl
end Q

/-! ### What is kept by every step -/
structure Closed (P : R → Prop) : Prop where
  s : ∀ r s, P r → P { r with s := s }
  deep : ∀ r d, P r → P { r with deep := d }
  wrong : ∀ r e, (e = 6 ∨ e = 7 ∨ e = 11) → P r → P (rdWrong e r)
  part : ∀ r k t, P r → P (rdPart k t r)

theorem tk_shape (c : UInt8) (r : R) : (tk c r).1 = { r with s := (tk c r).1.s } := by
  have h := tk_keeps c r
  rcases h : tk c r with ⟨⟨a1, a2, a3, a4⟩, b⟩
  simp_all
section
variable {P : R → Prop} (hP : Closed P)
include hP
theorem Closed.tk (c : UInt8) {r : R} (h : P r) : P (tk c r).1 := by rw [tk_shape]; exact hP.s _ _ h
theorem Closed.pk {r : R} (h : P r) : P (pk r) := hP.s _ _ h
theorem Closed.word {r : R} (h : P r) : P (rdWord r) := by
  rw [rdWord]
  refine hP.part _ _ _ ?_
  split
  · exact hP.wrong _ _ (.inl rfl) (hP.s _ _ h)
  · exact hP.s _ _ h
theorem Closed.andLoop {F : R → R} (hF : ∀ r, P r → P (F r)) : ∀ n r, P r → P (rdAndLoop F n r) := by
  intro n
  induction n with
  | zero => intro r h; exact h
  | succ n ih =>
    intro r h
    rw [rdAndLoop]
    split
    · split
      · exact hP.pk h
      · split
        · exact hP.pk h
        · exact ih _ (hP.part _ _ _ (hF _ (hP.tk _ (hP.pk h))))
    · exact h
theorem Closed.and {F : R → R} (hF : ∀ r, P r → P (F r)) {r : R} (h : P r) : P (rdAnd F r) := hP.andLoop hF _ _ (hF _ h)
theorem Closed.orLoop {F : R → R} (hF : ∀ r, P r → P (F r)) : ∀ n r, P r → P (rdOrLoop F n r) := by
  intro n
  induction n with
  | zero => intro r h; exact h
  | succ n ih =>
    intro r h
    rw [rdOrLoop]
    split
    · split
      · exact ih _ (hP.part _ _ _ (hP.and hF (hP.tk _ h)))
      · exact hP.tk _ h
    · exact h
theorem Closed.or {F : R → R} (hF : ∀ r, P r → P (F r)) {r : R} (h : P r) : P (rdOr F r) := hP.orLoop hF _ _ (hP.and hF h)
theorem Closed.factor : ∀ (d : Nat) (r : R), P r → P (rdFactor d r) := by
  intro d
  induction d with
  | zero => intro r h; exact hP.wrong _ _ (.inr (.inr rfl)) (hP.deep _ _ h)
  | succ d ih =>
    intro r h
    rw [rdFactor]
    split
    · refine hP.deep _ _ ?_
      have h1 := hP.deep r (r.deep + 1) h
      generalize ({ r with deep := r.deep + 1 } : R) = r1 at h1
      rw [facBody]
      split
      · exact hP.part _ _ _ (ih _ (hP.tk _ h1))
      · split
        · simp only
          have h2 := hP.or ih (hP.tk 40 h1)
          split
          · split
            · exact hP.tk _ h2
            · exact hP.wrong _ _ (.inr (.inl rfl)) (hP.tk _ h2)
          · exact h2
        · split
          · exact hP.word (hP.pk h1)
          · exact hP.wrong _ _ (.inr (.inl rfl)) (hP.pk h1)
    · exact hP.deep _ _ h
end

def LenOk (r : R) : Prop := r.out.length ≤ 64
def BadOk (r : R) : Prop := r.bad = 0 ∨ r.bad = 6 ∨ r.bad = 7 ∨ r.bad = 11
theorem lenOk : Closed LenOk where
  s r s h := h
  deep r d h := h
  wrong r e _ h := by unfold LenOk at *; rw [(rdWrong_keeps e r).2.2.1]; exact h
  part r k t h := by
    unfold LenOk at *
    have h1 := rdWrong_keeps 11 r
    rw [rdPart]
    by_cases hl : 64 ≤ r.out.length
    · simp only [if_pos hl]
      have hb : ¬ (rdWrong 11 r).bad = 0 := by
        by_cases hb : r.bad = 0
        · rw [rdWrong, if_pos hb]; simp
        · rw [h1.2.2.2 hb]; exact hb
      rw [if_neg hb, h1.2.2.1]; exact h
    · simp only [if_neg hl]
      split
      · simp; omega
      · exact h
theorem badOk_wrong {r : R} {e : Int} (he : e = 6 ∨ e = 7 ∨ e = 11) (h : BadOk r) : BadOk (rdWrong e r) := by
  unfold BadOk at *
  rw [rdWrong]
  split
  · right; exact he
  · exact h
theorem badOk : Closed BadOk where
  s r s h := h
  deep r d h := h
  wrong r e he h := badOk_wrong he h
  part r k t h := by
    have h1 := badOk_wrong (e := 11) (.inr (.inr rfl)) h
    rw [rdPart]
    by_cases hl : 64 ≤ r.out.length
    · simp only [if_pos hl]
      split <;> exact h1
    · simp only [if_neg hl]
      split <;> exact h

/-! ### What is read is a tree -/
def Reads (F : R → R) : Prop := ∀ r, (F r).bad = 0 → r.bad = 0 → ∃ t : Q, t.ok ∧ (F r).out = r.out ++ t.post

theorem part_reads {k : Int} {t : List UInt8} {r : R} (h : (rdPart k t r).bad = 0) : r.bad = 0 ∧ (rdPart k t r).out = r.out ++ [⟨k, t⟩] := by
  have hk := rdPart_keeps k t r
  by_cases hb : r.bad = 0
  · refine ⟨hb, ?_⟩
    rw [rdPart] at h ⊢
    by_cases hl : 64 ≤ r.out.length
    · simp [if_pos hl, rdWrong, hb] at h
    · simp [if_neg hl, hb]
  · rw [hk.2.2 hb] at h
    exact absurd h hb
theorem andLoop_reads {F : R → R} (hF : Reads F) : ∀ n r o (t : Q), t.ok → r.out = o ++ t.post → (rdAndLoop F n r).bad = 0 → ∃ t : Q, t.ok ∧ (rdAndLoop F n r).out = o ++ t.post := by
  intro n
  induction n with
  | zero => intro r o t ht ho _; exact ⟨t, ht, ho⟩
  | succ n ih =>
    intro r o t ht ho hb
    by_cases hr : r.bad = 0
    · rw [rdAndLoop, if_pos hr] at hb ⊢
      split at hb
      · exact ⟨t, ht, ho⟩
      · rename_i c u e
        by_cases hc : c = 124 ∨ c = 41
        · rw [if_pos hc] at hb ⊢
          exact ⟨t, ht, ho⟩
        · rw [if_neg hc] at hb ⊢
          have hp : (rdPart 2 [] (F (tk 38 (pk r)).1)).bad = 0 := by
            by_cases hp : (rdPart 2 [] (F (tk 38 (pk r)).1)).bad = 0
            · exact hp
            · rw [rdAndLoop_bad hp] at hb; exact absurd hb hp
          obtain ⟨h1, h2⟩ := part_reads hp
          have hk := tk_keeps 38 (pk r)
          obtain ⟨t', ht', ho'⟩ := hF _ h1 (by rw [hk.1]; exact hr)
          rw [hk.2.2.1] at ho'
          have ho2 : (F (tk 38 (pk r)).1).out = r.out ++ t'.post := ho'
          refine ih _ o (.bin false t t') ⟨ht, ht'⟩ ?_ hb
          rw [h2, ho2, ho]
          simp [Q.post]
    · rw [rdAndLoop_bad hr] at hb
      exact absurd hb hr
theorem and_reads {F : R → R} (hF : Reads F) : Reads (rdAnd F) := by
  intro r hb hr
  have h1 : (F r).bad = 0 := by
    by_cases h : (F r).bad = 0
    · exact h
    · rw [rdAnd, rdAndLoop_bad h] at hb; exact absurd hb h
  obtain ⟨t, ht, ho⟩ := hF r h1 hr
  exact andLoop_reads hF _ _ _ t ht ho hb
theorem orLoop_reads {F : R → R} (hF : Reads F) : ∀ n r o (t : Q), t.ok → r.out = o ++ t.post → (rdOrLoop F n r).bad = 0 → ∃ t : Q, t.ok ∧ (rdOrLoop F n r).out = o ++ t.post := by
  intro n
  induction n with
  | zero => intro r o t ht ho _; exact ⟨t, ht, ho⟩
  | succ n ih =>
    intro r o t ht ho hb
    have hk := tk_keeps 124 r
    by_cases hr : r.bad = 0
    · rw [rdOrLoop, if_pos hr] at hb ⊢
      by_cases hc : (tk 124 r).2 = true
      · rw [if_pos hc] at hb ⊢
        have hp : (rdPart 3 [] (rdAnd F (tk 124 r).1)).bad = 0 := by
          by_cases hp : (rdPart 3 [] (rdAnd F (tk 124 r).1)).bad = 0
          · exact hp
          · rw [rdOrLoop_bad hp] at hb; exact absurd hb hp
        obtain ⟨h1, h2⟩ := part_reads hp
        obtain ⟨t', ht', ho'⟩ := and_reads hF _ h1 (by rw [hk.1]; exact hr)
        rw [hk.2.2.1] at ho'
        refine ih _ o (.bin true t t') ⟨ht, ht'⟩ ?_ hb
        rw [h2, ho', ho]
        simp [Q.post]
      · rw [if_neg hc] at hb ⊢
        exact ⟨t, ht, by rw [hk.2.2.1]; exact ho⟩
    · rw [rdOrLoop_bad hr] at hb
      exact absurd hb hr
theorem or_reads {F : R → R} (hF : Reads F) : Reads (rdOr F) := by
  intro r hb hr
  have h1 : (rdAnd F r).bad = 0 := by
    by_cases h : (rdAnd F r).bad = 0
    · exact h
    · rw [rdOr, rdOrLoop_bad h] at hb; exact absurd hb h
  obtain ⟨t, ht, ho⟩ := and_reads hF r h1 hr
  exact orLoop_reads hF _ _ _ t ht ho hb

theorem wordOf_letters (s : List UInt8) : ∀ c ∈ wordOf s, letter c = c ∧ c ≠ 0 := by
  induction s with
  | nil => simp [wordOf]
  | cons c t ih =>
    rw [wordOf]
    split
    · simp
    · rename_i h
      intro d hd
      rcases List.mem_cons.1 hd with rfl | hd
      · exact ⟨letter_letter c, h⟩
      · exact ih d hd
theorem isTerm_iff (s : List UInt8) : isTerm s = true ↔ (∀ c ∈ s, letter c = c ∧ c ≠ 0) ∧ s ≠ [] ∧ s.length ≤ 12 := by
  simp [isTerm, and_assoc]
theorem word_reads {r : R} (hl : letter (headB r.s) ≠ 0) (hb : (rdWord r).bad = 0) (hr : r.bad = 0) : ∃ t : Q, t.ok ∧ (rdWord r).out = r.out ++ t.post := by
  rw [rdWord] at hb ⊢
  obtain ⟨h1, h2⟩ := part_reads hb
  by_cases hw : 12 < (wordOf r.s).length
  · rw [if_pos hw, rdWrong, if_pos (by exact hr)] at h1
    simp at h1
  · rw [if_neg hw] at h2
    refine ⟨.term (wordOf r.s), (isTerm_iff _).2 ⟨wordOf_letters _, ?_, by omega⟩, by rw [if_neg hw, h2]; rfl⟩
    rcases hs : r.s with _ | ⟨c, t⟩
    · rw [hs] at hl; simp [headB, letter] at hl
    · rw [hs] at hl
      simp [headB] at hl
      simp [wordOf, hl]
theorem factor_reads : ∀ d, Reads (rdFactor d) := by
  intro d
  induction d with
  | zero =>
    intro r hb hr
    rw [rdFactor, rdWrong, if_pos (by exact hr)] at hb
    simp at hb
  | succ d ih =>
    intro r hb hr
    rw [rdFactor, if_pos hr] at hb ⊢
    simp only at hb ⊢
    have key : ∀ r1 : R, r1.bad = 0 → (facBody (rdFactor d) r1).bad = 0 → ∃ t : Q, t.ok ∧ (facBody (rdFactor d) r1).out = r1.out ++ t.post := by
      intro r1 hr hb
      have k1 := tk_keeps 33 r1
      have k2 := tk_keeps 40 r1
      rw [facBody] at hb ⊢
      by_cases c1 : (tk 33 r1).2 = true
      · rw [if_pos c1] at hb ⊢
        obtain ⟨h1, h2⟩ := part_reads hb
        obtain ⟨t, ht, ho⟩ := ih _ h1 (by rw [k1.1]; exact hr)
        rw [k1.2.2.1] at ho
        exact ⟨.neg t, ht, by rw [h2, ho]; simp [Q.post]⟩
      · rw [if_neg c1] at hb ⊢
        by_cases c2 : (tk 40 r1).2 = true
        · rw [if_pos c2] at hb ⊢
          simp only at hb ⊢
          have hb4 : (rdOr (rdFactor d) (tk 40 r1).1).bad = 0 := by
            by_cases h : (rdOr (rdFactor d) (tk 40 r1).1).bad = 0
            · exact h
            · rw [if_neg h] at hb; exact absurd hb h
          rw [if_pos hb4] at hb ⊢
          obtain ⟨t, ht, ho⟩ := or_reads ih _ hb4 (by rw [k2.1]; exact hr)
          rw [k2.2.2.1] at ho
          have k3 := tk_keeps 41 (rdOr (rdFactor d) (tk 40 r1).1)
          by_cases c3 : (tk 41 (rdOr (rdFactor d) (tk 40 r1).1)).2 = true
          · rw [if_pos c3]
            exact ⟨t, ht, by rw [k3.2.2.1, ho]⟩
          · rw [if_neg c3, rdWrong, if_pos (by rw [k3.1]; exact hb4)] at hb
            simp at hb
        · rw [if_neg c2] at hb ⊢
          by_cases c3 : letter (headB (skipB r1.s)) ≠ 0
          · rw [if_pos c3] at hb ⊢
            exact word_reads (r := pk r1) c3 hb hr
          · rw [if_neg c3, rdWrong, if_pos (by exact hr)] at hb
            simp at hb
    exact key _ hr hb

/-- What rdParse answers. -/
theorem parse_reads (s : List UInt8) : (∃ t : Q, t.ok ∧ t.post.length ≤ 64 ∧ rdParse s = (t.post, 0)) ∨ ((rdParse s).1 = [] ∧ ((rdParse s).2 = 6 ∨ (rdParse s).2 = 7 ∨ (rdParse s).2 = 11)) := by
  rw [rdParse]
  by_cases hl : 512 < s.length
  · rw [if_pos hl]; exact .inr ⟨rfl, .inr (.inr rfl)⟩
  · rw [if_neg hl]
    simp only
    have l1 : LenOk (rdOr (rdFactor 64) ⟨s, 0, [], 0⟩) := lenOk.or (lenOk.factor 64) (by simp [LenOk])
    have b1 : BadOk (rdOr (rdFactor 64) ⟨s, 0, [], 0⟩) := badOk.or (badOk.factor 64) (by simp [BadOk])
    have r1 := or_reads (factor_reads 64) ⟨s, 0, [], 0⟩
    generalize rdOr (rdFactor 64) ⟨s, 0, [], 0⟩ = r at *
    by_cases hs : skipB r.s = []
    · simp only [if_pos hs]
      by_cases hb : (pk r).bad = 0
      · rw [if_pos hb]
        obtain ⟨t, ht, ho⟩ := r1 hb rfl
        have : (pk r).out = t.post := ho
        left
        refine ⟨t, ht, ?_, by rw [this]⟩
        have h2 : r.out = t.post := ho
        rw [← h2]; exact l1
      · rw [if_neg hb]
        right
        refine ⟨rfl, ?_⟩
        have b1 : BadOk (pk r) := b1
        unfold BadOk at b1
        rcases b1 with h | h | h | h
        · exact absurd h hb
        · exact .inl h
        · exact .inr (.inl h)
        · exact .inr (.inr h)
    · simp only [if_neg hs]
      have b2 : BadOk (rdWrong 7 (pk r)) := badOk_wrong (.inr (.inl rfl)) b1
      by_cases hb : (rdWrong 7 (pk r)).bad = 0
      · exfalso
        rw [rdWrong] at hb
        by_cases h0 : (pk r).bad = 0
        · rw [if_pos h0] at hb; simp at hb
        · rw [if_neg h0] at hb; exact h0 hb
      · rw [if_neg hb]
        right
        refine ⟨rfl, ?_⟩
        unfold BadOk at b2
        rcases b2 with h | h | h | h
        · exact absurd h hb
        · exact .inl h
        · exact .inr (.inl h)
        · exact .inr (.inr h)

/-! ### A tree's text read again -/
theorem skipB_cons {c : UInt8} (h : c ≠ 32) (t : List UInt8) : skipB (c :: t) = c :: t := by rw [skipB, if_neg h]
theorem tk_yes {c : UInt8} {r : R} {t : List UInt8} (hs : r.s = c :: t) (h : c ≠ 32) : tk c r = ({ r with s := t }, true) := by
  rw [tk, hs, skipB_cons h]
  simp
theorem tk_no {c d : UInt8} {r : R} {t : List UInt8} (hs : r.s = d :: t) (h : d ≠ 32) (hn : d ≠ c) : tk c r = (r, false) := by
  rw [tk, hs, skipB_cons h]
  simp only [if_neg hn, ← hs]
theorem pk_cons {d : UInt8} {r : R} {t : List UInt8} (hs : r.s = d :: t) (h : d ≠ 32) : pk r = r := by
  rw [pk, hs, skipB_cons h, ← hs]
theorem tk_nil {c : UInt8} {r : R} (hs : r.s = []) : tk c r = (r, false) := by
  rcases r with ⟨s, d, o, b⟩
  simp only at hs
  subst hs
  simp [tk, skipB]
theorem andLoop_stop {F : R → R} {r : R} (n : Nat) (hs : r.s = [] ∨ ∃ c t, r.s = c :: t ∧ (c = 124 ∨ c = 41)) : rdAndLoop F (n + 1) r = r := by
  by_cases hb : r.bad = 0
  · rw [rdAndLoop, if_pos hb]
    rcases hs with hs | ⟨c, t, hs, hc⟩
    · rw [hs]
      simp only [skipB]
      rw [pk, hs]
      simp only [skipB]
      rw [← hs]
    · have h32 : c ≠ 32 := by rcases hc with rfl | rfl <;> decide
      rw [pk_cons hs h32, hs, skipB_cons h32]
      simp only
      rw [if_pos hc]
  · exact rdAndLoop_bad hb _
theorem orLoop_stop {F : R → R} {r : R} (n : Nat) (hs : r.s = [] ∨ ∃ t, r.s = 41 :: t) : rdOrLoop F (n + 1) r = r := by
  by_cases hb : r.bad = 0
  · rw [rdOrLoop, if_pos hb]
    rcases hs with hs | ⟨t, hs⟩
    · rw [tk_nil hs]
      simp
    · rw [tk_no hs (by decide) (by decide)]
      simp
  · exact rdOrLoop_bad hb _

def Back (F : R → R) : Prop := ∀ (t : Q) (r : R) (rest : List UInt8), t.ok → r.bad = 0 → r.s = t.txt ++ rest → letter (headB rest) = 0 → (F r).bad = 11 ∨ F r = { r with s := rest, out := r.out ++ t.post }

theorem part_back (k : Int) (t : List UInt8) (r : R) (h : r.bad = 0) : (rdPart k t r).bad = 11 ∨ rdPart k t r = { r with out := r.out ++ [⟨k, t⟩] } := by
  rw [rdPart]
  by_cases hl : 64 ≤ r.out.length
  · left; simp [if_pos hl, rdWrong, h]
  · right; simp [if_neg hl, h]
theorem part_bad {k : Int} {t : List UInt8} {r : R} (h : r.bad = 11) : (rdPart k t r).bad = 11 := by
  rw [(rdPart_keeps k t r).2.2 (by omega)]; exact h
theorem wordOf_app : ∀ (t rest : List UInt8), (∀ c ∈ t, letter c = c ∧ c ≠ 0) → letter (headB rest) = 0 → wordOf (t ++ rest) = t ∧ wordRest (t ++ rest) = rest
  | [], rest, _, hr => by
    cases rest with
    | nil => exact ⟨rfl, rfl⟩
    | cons c u =>
      have hr : letter c = 0 := hr
      simp [wordOf, wordRest, hr]
  | c :: t, rest, h, hr => by
    obtain ⟨h1, h2⟩ := h c (List.mem_cons_self ..)
    obtain ⟨i1, i2⟩ := wordOf_app t rest (fun d hd => h d (List.mem_cons_of_mem _ hd)) hr
    simp [wordOf, wordRest, h1, h2, i1, i2]

theorem factor_back : ∀ d, Back (rdFactor d) := by
  intro d
  induction d with
  | zero =>
    intro t r rest _ hb _ _
    left
    rw [rdFactor, rdWrong, if_pos (by exact hb)]
  | succ d ih =>
    have key : ∀ (t : Q) (r : R) (rest : List UInt8), t.ok → r.bad = 0 → r.s = t.txt ++ rest → letter (headB rest) = 0 → (facBody (rdFactor d) r).bad = 11 ∨ facBody (rdFactor d) r = { r with s := rest, out := r.out ++ t.post } := by
      intro t r rest ht hb hs hrest
      rcases t with u | a | ⟨o, a, b⟩
      · have hu : isTerm u = true := ht
        rw [isTerm_iff] at hu
        obtain ⟨h1, h2, h3⟩ := hu
        have hs : r.s = u ++ rest := hs
        obtain ⟨w1, w2⟩ := wordOf_app u rest h1 hrest
        rcases u with _ | ⟨c, u⟩
        · exact absurd rfl h2
        · obtain ⟨l1, l2⟩ := h1 c (List.mem_cons_self ..)
          obtain ⟨n1, n2, n3⟩ := letter_head c l1 l2
          have hs' : r.s = c :: (u ++ rest) := hs
          rw [facBody, tk_no hs' n1 n2, tk_no hs' n1 n3]
          simp only [Bool.false_eq_true, if_false]
          rw [pk_cons hs' n1, hs', skipB_cons n1, if_pos (by simp [headB, l1, l2]), rdWord, hs, w1, w2, if_neg (by omega)]
          exact part_back 1 (c :: u) { r with s := rest } hb
      · have hs' : r.s = 33 :: (a.txt ++ rest) := hs
        rw [facBody, tk_yes hs' (by decide)]
        simp only [if_true]
        rcases ih a { r with s := a.txt ++ rest } rest ht hb rfl hrest with h | h
        · left; exact part_bad h
        · rw [h]
          rcases part_back 4 [] { r with s := rest, out := r.out ++ a.post } hb with h | h
          · left; exact h
          · right
            have e : ∀ (o : List UInt8), ({ ({ r with s := o } : R) with s := rest, out := ({ r with s := o } : R).out ++ a.post } : R) = { r with s := rest, out := r.out ++ a.post } := fun _ => rfl
            rw [e, h]
            simp [Q.post]
      · have hs' : r.s = 40 :: (a.txt ++ ((if o then 124 else 38) :: (b.txt ++ (41 :: rest)))) := by rw [hs]; simp [Q.txt]
        rw [facBody, tk_no hs' (by decide) (by decide), tk_yes hs' (by decide)]
        simp only [Bool.false_eq_true, if_false, if_true]
        suffices hor : (rdOr (rdFactor d) { r with s := a.txt ++ ((if o then 124 else 38) :: (b.txt ++ (41 :: rest))) }).bad = 11 ∨
            rdOr (rdFactor d) { r with s := a.txt ++ ((if o then 124 else 38) :: (b.txt ++ (41 :: rest))) } = { r with s := 41 :: rest, out := r.out ++ (Q.bin o a b).post } by
          rcases hor with h | h
          · left; rw [if_neg (by omega)]; exact h
          · right
            rw [h, if_pos hb, tk_yes (r := { r with s := 41 :: rest, out := r.out ++ (Q.bin o a b).post }) rfl (by decide)]
            simp
        have hl41 : letter (headB (41 :: rest)) = 0 := by simp [headB]; decide
        cases o
        · -- and
          simp only [Bool.false_eq_true, if_false]
          have hand : (rdAnd (rdFactor d) { r with s := a.txt ++ (38 :: (b.txt ++ (41 :: rest))) }).bad = 11 ∨
              rdAnd (rdFactor d) { r with s := a.txt ++ (38 :: (b.txt ++ (41 :: rest))) } = { r with s := 41 :: rest, out := r.out ++ (Q.bin false a b).post } := by
            rw [rdAnd]
            rcases ih a { r with s := a.txt ++ (38 :: (b.txt ++ (41 :: rest))) } (38 :: (b.txt ++ (41 :: rest))) ht.1 hb rfl (by simp [headB]; decide) with h | h
            · left; rw [rdAndLoop_bad (by omega)]; exact h
            · rw [h, rdAndLoop, if_pos (by exact hb)]
              simp only
              rw [skipB_cons (by decide)]
              simp only
              rw [if_neg (by decide), pk_cons (d := 38) rfl (by decide), tk_yes (c := 38) rfl (by decide)]
              simp only
              rcases ih b { r with s := b.txt ++ (41 :: rest), out := r.out ++ a.post } (41 :: rest) ht.2 hb rfl hl41 with h | h
              · left
                have := part_bad (k := 2) (t := []) h
                rw [rdAndLoop_bad (by omega)]; exact this
              · rw [h]
                rcases part_back 2 [] { r with s := 41 :: rest, out := r.out ++ a.post ++ b.post } hb with h | h
                · left
                  rw [rdAndLoop_bad (by rw [h]; decide)]; exact h
                · right
                  simp only at h ⊢
                  rw [h, List.length_cons, andLoop_stop _ (.inr ⟨41, rest, rfl, .inr rfl⟩)]
                  simp [Q.post]
          rw [rdOr]
          rcases hand with h | h
          · left; rw [rdOrLoop_bad (by omega)]; exact h
          · right; rw [h, orLoop_stop _ (.inr ⟨rest, rfl⟩)]
        · -- or
          simp only [if_true]
          have hand : (rdAnd (rdFactor d) { r with s := a.txt ++ (124 :: (b.txt ++ (41 :: rest))) }).bad = 11 ∨
              rdAnd (rdFactor d) { r with s := a.txt ++ (124 :: (b.txt ++ (41 :: rest))) } = { r with s := 124 :: (b.txt ++ (41 :: rest)), out := r.out ++ a.post } := by
            rw [rdAnd]
            rcases ih a { r with s := a.txt ++ (124 :: (b.txt ++ (41 :: rest))) } (124 :: (b.txt ++ (41 :: rest))) ht.1 hb rfl (by simp [headB]; decide) with h | h
            · left; rw [rdAndLoop_bad (by omega)]; exact h
            · right; rw [h, andLoop_stop _ (.inr ⟨124, _, rfl, .inl rfl⟩)]
          rw [rdOr]
          rcases hand with h | h
          · left; rw [rdOrLoop_bad (by omega)]; exact h
          · rw [h, rdOrLoop, if_pos (by exact hb), tk_yes (c := 124) rfl (by decide)]
            simp only [if_true]
            have hand2 : (rdAnd (rdFactor d) { r with s := b.txt ++ (41 :: rest), out := r.out ++ a.post }).bad = 11 ∨
                rdAnd (rdFactor d) { r with s := b.txt ++ (41 :: rest), out := r.out ++ a.post } = { r with s := 41 :: rest, out := r.out ++ a.post ++ b.post } := by
              rw [rdAnd]
              rcases ih b { r with s := b.txt ++ (41 :: rest), out := r.out ++ a.post } (41 :: rest) ht.2 hb rfl hl41 with h | h
              · left; rw [rdAndLoop_bad (by omega)]; exact h
              · right; rw [h, andLoop_stop _ (.inr ⟨41, rest, rfl, .inr rfl⟩)]
            rcases hand2 with h | h
            · left
              have := part_bad (k := 3) (t := []) h
              rw [rdOrLoop_bad (by omega)]; exact this
            · rw [h]
              rcases part_back 3 [] { r with s := 41 :: rest, out := r.out ++ a.post ++ b.post } hb with h | h
              · left
                rw [rdOrLoop_bad (by rw [h]; decide)]; exact h
              · right
                rw [h, List.length_cons, orLoop_stop _ (.inr ⟨rest, rfl⟩)]
                simp [Q.post]
    intro t r rest ht hb hs hrest
    rw [rdFactor, if_pos hb]
    simp only
    rcases key t { r with deep := r.deep + 1 } rest ht hb hs hrest with h | h
    · left; exact h
    · right
      rw [h]
      simp

/-- A tree's text is read as that tree, or is too long. -/
theorem parse_back {t : Q} (ht : t.ok) : (rdParse t.txt).2 = 11 ∨ rdParse t.txt = (t.post, 0) := by
  rw [rdParse]
  by_cases hl : 512 < t.txt.length
  · rw [if_pos hl]; exact .inl rfl
  · rw [if_neg hl]
    simp only
    suffices hor : (rdOr (rdFactor 64) ⟨t.txt, 0, [], 0⟩).bad = 11 ∨ rdOr (rdFactor 64) ⟨t.txt, 0, [], 0⟩ = ⟨[], 0, t.post, 0⟩ by
      rcases hor with h | h
      · left
        generalize rdOr (rdFactor 64) ⟨t.txt, 0, [], 0⟩ = r at *
        by_cases hs : skipB r.s = []
        · have e : (pk r).bad = 11 := h
          rw [if_pos hs, if_neg (by omega)]; exact e
        · have e : rdWrong 7 (pk r) = pk r := (rdWrong_keeps 7 (pk r)).2.2.2 (by show r.bad ≠ 0; omega)
          have e2 : (pk r).bad = 11 := h
          rw [if_neg hs, e, if_neg (by omega)]; exact e2
      · right
        rw [h]
        simp [skipB, pk]
    have hand : (rdAnd (rdFactor 64) ⟨t.txt, 0, [], 0⟩).bad = 11 ∨ rdAnd (rdFactor 64) ⟨t.txt, 0, [], 0⟩ = ⟨[], 0, t.post, 0⟩ := by
      rw [rdAnd]
      rcases factor_back 64 t ⟨t.txt, 0, [], 0⟩ [] ht rfl (by simp) (by decide) with h | h
      · left; rw [rdAndLoop_bad (by omega)]; exact h
      · right; rw [h, andLoop_stop _ (.inl rfl)]; simp
    rw [rdOr]
    rcases hand with h | h
    · left; rw [rdOrLoop_bad (by omega)]; exact h
    · right; rw [h, orLoop_stop _ (.inl rfl)]

/-- QueryBack's own sentence, of a text. -/
theorem back_law (s : List UInt8) : ((rdParse s).2 ≠ 0 → (rdParse s).1 = [] ∧ ((rdParse s).2 = 6 ∨ (rdParse s).2 = 7 ∨ (rdParse s).2 = 11)) ∧
    ((rdParse s).2 = 0 → rightQ (rdParse s).1 = true ∧ ((rdParse (text (rdParse s).1)).2 = 11 ∨ rdParse (text (rdParse s).1) = ((rdParse s).1, 0))) := by
  rcases parse_reads s with ⟨t, ht, hl, h⟩ | ⟨h1, h2⟩
  · rw [h]
    refine ⟨fun h => absurd rfl h, fun _ => ⟨Q.right ht hl, ?_⟩⟩
    simp only
    rw [Q.text ht hl]
    exact parse_back ht
  · exact ⟨fun _ => ⟨h1, h2⟩, fun h => by omega⟩
end Go.Ten.Qy
