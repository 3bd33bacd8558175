/- Plain laws of what query.Eval computes: contraries, ands, ors. -/
import Derived.Test.YtpobpijjpbggoaaRuns
set_option linter.unusedSimpArgs false
set_option linter.unusedVariables false
namespace Go.Ten.Mg
open Go.Ten.Qy Go.Proofs.Ytpobpijjpbggoaa

theorem depth_append : ∀ (q r : List Part) (n m : Int), depthOf q n = some m → depthOf (q ++ r) n = depthOf r m
  | [], r, n, m, h => by simp only [depthOf, Option.some.injEq] at h; rw [h]; rfl
  | p :: q, r, n, m, h => by
    rw [depthOf] at h
    rw [List.cons_append, depthOf]
    by_cases hh : takesQ p < 0 ∨ n < takesQ p
    · rw [if_pos hh] at h; simp at h
    · rw [if_neg hh] at h ⊢
      exact depth_append q r _ m h
theorem depth_shift : ∀ (q : List Part) (n m c : Int), 0 ≤ c → depthOf q n = some m → depthOf q (n + c) = some (m + c)
  | [], n, m, c, _, h => by simp only [depthOf, Option.some.injEq] at h ⊢; rw [h]
  | p :: q, n, m, c, hc, h => by
    rw [depthOf] at h ⊢
    by_cases hh : takesQ p < 0 ∨ n < takesQ p
    · rw [if_pos hh] at h; simp at h
    · rw [if_neg hh] at h
      rw [if_neg (by omega)]
      have := depth_shift q _ m c hc h
      rw [← this]
      congr 1
      omega

theorem evalStep_below {U : List Int} {p : Part} {st1 st2 sets : List (List Int)} (h0 : ¬ takesQ p < 0) (h1 : ¬ (st1.length : Int) < takesQ p) : evalStep U p (st1 ++ st2) sets = evalStep U p st1 sets ++ st2 := by
  rcases step_cases h0 h1 with ⟨hk, ht⟩ | ⟨hk, ht, hs⟩ | ⟨hk, ht, hs⟩
  · simp [evalStep, hk]
  · rcases st1 with _ | ⟨x, r⟩
    · simp at hs
    · simp [evalStep, hk]
  · rcases st1 with _ | ⟨y, _ | ⟨x, r⟩⟩
    · simp at hs
    · simp at hs
    · rcases hk with hk | hk <;> simp [evalStep, hk]
theorem evalGo_below {U : List Int} : ∀ (q : List Part) (st1 st2 sets : List (List Int)) (m : Int), depthOf q st1.length = some m → evalGo U q (st1 ++ st2) sets = evalGo U q st1 sets ++ st2
  | [], _, _, _, _, _ => rfl
  | p :: q, st1, st2, sets, m, h => by
    rw [depthOf] at h
    by_cases hh : takesQ p < 0 ∨ (st1.length : Int) < takesQ p
    · rw [if_pos hh] at h; simp at h
    · rw [if_neg hh] at h
      have h0 : ¬ takesQ p < 0 := fun e => hh (.inl e)
      have h1 : ¬ (st1.length : Int) < takesQ p := fun e => hh (.inr e)
      rw [evalGo, evalGo, evalStep_below h0 h1]
      refine evalGo_below q _ st2 _ m ?_
      rw [evalStep_len h0 h1]; exact h
theorem evalGo_len {U : List Int} : ∀ (q : List Part) (st sets : List (List Int)) (m : Int), depthOf q st.length = some m → ((evalGo U q st sets).length : Int) = m
  | [], st, sets, m, h => by simp only [depthOf, Option.some.injEq] at h; exact h
  | p :: q, st, sets, m, h => by
    rw [depthOf] at h
    by_cases hh : takesQ p < 0 ∨ (st.length : Int) < takesQ p
    · rw [if_pos hh] at h; simp at h
    · rw [if_neg hh] at h
      have h0 : ¬ takesQ p < 0 := fun e => hh (.inl e)
      have h1 : ¬ (st.length : Int) < takesQ p := fun e => hh (.inr e)
      rw [evalGo]
      refine evalGo_len q _ _ m ?_
      rw [evalStep_len h0 h1]; exact h
theorem evalGo_append {U : List Int} : ∀ (q r : List Part) (st sets : List (List Int)), evalGo U (q ++ r) st sets = evalGo U r (evalGo U q st sets) (sets.drop (terms q).length)
  | [], r, st, sets => by simp [evalGo, terms]
  | p :: q, r, st, sets => by
    rw [List.cons_append, evalGo, evalGo, evalGo_append q r]
    congr 1
    by_cases hk : p.kind = 1
    · simp [terms, hk, List.filter_cons]
    · simp [terms, hk, List.filter_cons]

/-- Out of U, strictly rising. -/
def OutOf (U xs : List Int) : Prop := xs.Pairwise (· < ·) ∧ ∀ x ∈ xs, x ∈ U
theorem mem_inter {a b : List Int} (ha : a.Pairwise (· < ·)) (hb : b.Pairwise (· < ·)) (x : Int) : x ∈ inter a b ↔ x ∈ a ∧ x ∈ b := by
  rw [inter, rising_id ha, rising_id hb, mem_both]; simp
theorem mem_minus {a b : List Int} (ha : a.Pairwise (· < ·)) (hb : b.Pairwise (· < ·)) (x : Int) : x ∈ minus a b ↔ x ∈ a ∧ ¬ x ∈ b := by
  rw [minus, rising_id ha, rising_id hb, mem_both]; simp
theorem inter_sub {U : List Int} (hU : U.Pairwise (· < ·)) (b : List Int) : OutOf U (inter U b) := ⟨inter_sorted _ _, fun x hx => by
  have := (mem_both.1 hx).1
  rwa [rising_id hU] at this⟩
theorem minus_sub {U : List Int} (hU : U.Pairwise (· < ·)) (b : List Int) : OutOf U (minus U b) := ⟨minus_sorted _ _, fun x hx => by
  have := (mem_both.1 hx).1
  rwa [rising_id hU] at this⟩
theorem OutOf.inter {U a b : List Int} (ha : OutOf U a) : OutOf U (inter a b) := ⟨inter_sorted _ _, fun x hx => by
  have := (mem_both.1 hx).1
  rw [rising_id ha.1] at this
  exact ha.2 x this⟩
theorem OutOf.union {U a b : List Int} (ha : OutOf U a) (hb : OutOf U b) : OutOf U (union2 a b) := ⟨union2_sorted _ _, fun x hx => by
  rcases (mem_union2 a b x).1 hx with h | h
  · exact ha.2 x h
  · exact hb.2 x h⟩
theorem evalGo_out {U : List Int} (hU : U.Pairwise (· < ·)) : ∀ (q : List Part) (st sets : List (List Int)), (∀ s ∈ st, OutOf U s) → ∀ s ∈ evalGo U q st sets, OutOf U s
  | [], st, sets, h => h
  | p :: q, st, sets, h => by
    rw [evalGo]
    refine evalGo_out hU q _ _ ?_
    unfold evalStep
    split
    · intro s hs
      rcases List.mem_cons.1 hs with rfl | hs
      · exact inter_sub hU _
      · exact h s hs
    · split
      · rcases st with _ | ⟨x, r⟩
        · simp
        · intro s hs
          rcases List.mem_cons.1 hs with rfl | hs
          · exact minus_sub hU _
          · exact h s (List.mem_cons_of_mem _ hs)
      · split
        · rcases st with _ | ⟨y, _ | ⟨x, r⟩⟩
          · simp
          · simp
          · intro s hs
            rcases List.mem_cons.1 hs with rfl | hs
            · exact (h x (by simp)).inter
            · exact h s (by simp [hs])
        · rcases st with _ | ⟨y, _ | ⟨x, r⟩⟩
          · simp
          · simp
          · intro s hs
            rcases List.mem_cons.1 hs with rfl | hs
            · exact (h x (by simp)).union (h y (by simp))
            · exact h s (by simp [hs])

theorem rightQ_iff (q : List Part) : rightQ q = true ↔ depthOf q 0 = some 1 ∧ q.length ≤ 64 := by simp [rightQ]
theorem right_depth {q : List Part} (h : rightQ q = true) : depthOf q 0 = some 1 := ((rightQ_iff q).1 h).1
theorem eval_right {q : List Part} (h : rightQ q = true) (sets : List (List Int)) (all : List Int) : evalGo (setL all) q [] sets = [eval q sets all] := by
  have hl := evalGo_len (U := setL all) q [] sets 1 (right_depth h)
  rw [eval, if_pos h]
  generalize evalGo (setL all) q [] sets = L at *
  rcases L with _ | ⟨x, _ | ⟨y, r⟩⟩
  · simp at hl
  · rfl
  · simp at hl; omega
theorem eval_out {q : List Part} (h : rightQ q = true) (sets : List (List Int)) (all : List Int) : OutOf (setL all) (eval q sets all) :=
  evalGo_out (U := setL all) (set_sorted all) q [] sets (by simp) _ (by rw [eval_right h]; simp)

theorem eval_of {q : List Part} {sets : List (List Int)} {all x : List Int} (h : evalGo (setL all) q [] sets = [x]) (hr : rightQ q = true) : eval q sets all = x := by
  rw [eval, if_pos hr, h]; rfl

/-- One query with operators behind it. -/
theorem right1 {a r : List Part} (ha : rightQ a = true) (hr : depthOf r 1 = some 1) (hl : a.length + r.length ≤ 64) : rightQ (a ++ r) = true :=
  (rightQ_iff _).2 ⟨by rw [depth_append a r 0 1 (right_depth ha)]; exact hr, by simpa using hl⟩
theorem eval1 {a r : List Part} (ha : rightQ a = true) (sets : List (List Int)) (all : List Int) : evalGo (setL all) (a ++ r) [] sets = evalGo (setL all) r [eval a sets all] (sets.drop (terms a).length) := by
  rw [evalGo_append, eval_right ha]
/-- Two queries with operators behind them. -/
theorem right2 {a b r : List Part} (ha : rightQ a = true) (hb : rightQ b = true) (hr : depthOf r 2 = some 1) (hl : a.length + b.length + r.length ≤ 64) : rightQ (a ++ b ++ r) = true :=
  (rightQ_iff _).2 ⟨by
    rw [List.append_assoc, depth_append a _ 0 1 (right_depth ha), depth_append b r 1 2 (depth_shift b 0 1 1 (by omega) (right_depth hb))]; exact hr, by simp; omega⟩
theorem eval2 {a b r : List Part} (ha : rightQ a = true) (hb : rightQ b = true) (sets : List (List Int)) (all : List Int) :
    evalGo (setL all) (a ++ b ++ r) [] sets = evalGo (setL all) r [eval b (sets.drop (terms a).length) all, eval a sets all] ((sets.drop (terms a).length).drop (terms b).length) := by
  rw [List.append_assoc, eval1 ha, evalGo_append]
  have := evalGo_below (U := setL all) b [] [eval a sets all] (sets.drop (terms a).length) 1 (right_depth hb)
  rw [List.nil_append] at this
  rw [this, eval_right hb]
  rfl

section
variable {a b : List Part} (ha : rightQ a = true) (hb : rightQ b = true) (sets : List (List Int)) (all : List Int)
include ha
theorem eval_not (hl : a.length ≤ 63) : eval (a ++ [⟨4, []⟩]) sets all = minus (setL all) (eval a sets all) :=
  eval_of (by rw [eval1 ha]; simp [evalGo, evalStep]) (right1 ha (by decide) (by simpa using by omega))
theorem eval_notnot (hl : a.length ≤ 62) : eval (a ++ [⟨4, []⟩, ⟨4, []⟩]) sets all = eval a sets all := by
  have ho := eval_out ha sets all
  have hU : (setL all).Pairwise (· < ·) := set_sorted all
  have hm := minus_sub hU (eval a sets all)
  refine (eval_of (x := minus (setL all) (minus (setL all) (eval a sets all))) (by rw [eval1 ha]; simp [evalGo, evalStep]) (right1 ha (by decide) (by simpa using by omega))).trans ?_
  refine rise_ext (minus_sorted _ _) ho.1 fun x => ?_
  rw [mem_minus hU hm.1, mem_minus hU ho.1]
  by_cases hx : x ∈ eval a sets all
  · simp [hx, ho.2 x hx]
  · simp only [hx, not_false_eq_true, and_true, iff_false]
    exact fun h => h.2 h.1
include hb
theorem eval_and (hl : a.length + b.length ≤ 63) : eval (a ++ b ++ [⟨2, []⟩]) sets all = inter (eval a sets all) (eval b (sets.drop (terms a).length) all) :=
  eval_of (by rw [eval2 ha hb]; simp [evalGo, evalStep]) (right2 ha hb (by decide) (by simpa using by omega))
theorem eval_or (hl : a.length + b.length ≤ 63) : eval (a ++ b ++ [⟨3, []⟩]) sets all = union2 (eval a sets all) (eval b (sets.drop (terms a).length) all) :=
  eval_of (by rw [eval2 ha hb]; simp [evalGo, evalStep]) (right2 ha hb (by decide) (by simpa using by omega))
theorem eval_nand (hl : a.length + b.length ≤ 62) : eval (a ++ b ++ [⟨2, []⟩, ⟨4, []⟩]) sets all = union2 (minus (setL all) (eval a sets all)) (minus (setL all) (eval b (sets.drop (terms a).length) all)) := by
  have hx := eval_out ha sets all
  have hy := eval_out hb (sets.drop (terms a).length) all
  have hU : (setL all).Pairwise (· < ·) := set_sorted all
  refine (eval_of (x := minus (setL all) (inter (eval a sets all) (eval b (sets.drop (terms a).length) all))) (by rw [eval2 ha hb]; simp [evalGo, evalStep]) (right2 ha hb (by decide) (by simpa using by omega))).trans ?_
  refine rise_ext (minus_sorted _ _) (union2_sorted _ _) fun x => ?_
  rw [mem_minus hU (inter_sorted _ _), mem_inter hx.1 hy.1, mem_union2, mem_minus hU hx.1, mem_minus hU hy.1]
  by_cases h1 : x ∈ eval a sets all <;> by_cases h2 : x ∈ eval b (sets.drop (terms a).length) all <;> by_cases h3 : x ∈ setL all <;> simp [h1, h2, h3]
end

theorem eval_all (t : List UInt8) (ht : isTerm t = true) (all : List Int) : eval [⟨1, t⟩, ⟨1, t⟩, ⟨4, []⟩, ⟨3, []⟩] [] all = setL all := by
  have hU : (setL all).Pairwise (· < ·) := set_sorted all
  have hr : rightQ [⟨1, t⟩, ⟨1, t⟩, ⟨4, []⟩, ⟨3, []⟩] = true := by simp [rightQ, depthOf, takesQ, ht]
  have e : setL [] = [] := setL_id (by simp)
  have hi : inter (setL all) [] = [] := by
    refine rise_ext (inter_sorted _ _) List.Pairwise.nil fun x => ?_
    rw [mem_inter hU List.Pairwise.nil]; simp
  have hm : minus (setL all) [] = setL all := by
    refine rise_ext (minus_sorted _ _) hU fun x => ?_
    rw [mem_minus hU List.Pairwise.nil]; simp
  have hu : union2 [] (setL all) = setL all := by
    refine rise_ext (union2_sorted _ _) hU fun x => ?_
    rw [mem_union2]; simp
  exact eval_of (by simp [evalGo, evalStep, e, hi, hm, hu]) hr

/-- A query and its contrary hold for nothing together, and for all. -/
theorem with_contrary {U x : List Int} (hU : U.Pairwise (· < ·)) (hx : OutOf U x) : inter x (minus U x) = [] ∧ union2 x (minus U x) = U := by
  constructor
  · refine rise_ext (inter_sorted _ _) List.Pairwise.nil fun z => ?_
    rw [mem_inter hx.1 (minus_sorted _ _), mem_minus hU hx.1]
    simp
    exact fun h1 _ => h1
  · refine rise_ext (union2_sorted _ _) hU fun z => ?_
    rw [mem_union2, mem_minus hU hx.1]
    by_cases h1 : z ∈ x
    · simp [h1, hx.2 z h1]
    · simp [h1]
end Go.Ten.Mg
