/- Plain lists of integers: a strictly rising list is known by its members. -/
import Derived.Test.YtpobpijjpbggoaaMergeFns
namespace Go.Ten.Mg

theorem rise_ext : ∀ {xs ys : List Int}, xs.Pairwise (· < ·) → ys.Pairwise (· < ·) → (∀ x, x ∈ xs ↔ x ∈ ys) → xs = ys
  | [], [], _, _, _ => rfl
  | [], y :: ys, _, _, h => by have := (h y).2 (List.mem_cons_self ..); simp at this
  | x :: xs, [], _, _, h => by have := (h x).1 (List.mem_cons_self ..); simp at this
  | x :: xs, y :: ys, hx, hy, h => by
    rw [List.pairwise_cons] at hx hy
    have e : x = y := by
      have h1 := (h x).1 (List.mem_cons_self ..)
      have h2 := (h y).2 (List.mem_cons_self ..)
      rcases List.mem_cons.1 h1 with e | h1
      · exact e
      · rcases List.mem_cons.1 h2 with e | h2
        · exact e.symm
        · have a1 := hy.1 x h1
          have a2 := hx.1 y h2
          omega
    subst e
    congr 1
    refine rise_ext hx.2 hy.2 fun z => ⟨fun hz => ?_, fun hz => ?_⟩
    · rcases List.mem_cons.1 ((h z).1 (List.mem_cons_of_mem _ hz)) with e | h1
      · have := hx.1 z hz; omega
      · exact h1
    · rcases List.mem_cons.1 ((h z).2 (List.mem_cons_of_mem _ hz)) with e | h1
      · have := hy.1 z hz; omega
      · exact h1

theorem rising_id_go : ∀ (l acc : List Int), (acc ++ l).Pairwise (· < ·) → l.foldl riseStep acc = acc ++ l
  | [], acc, _ => by simp
  | x :: l, acc, h => by
    have hs : riseStep acc x = acc ++ [x] := by
      unfold riseStep
      split
      · rfl
      · rename_i y e
        obtain ⟨ys, rfl⟩ := List.getLast?_eq_some_iff.1 e
        rw [List.pairwise_append] at h
        rw [if_pos (h.2.2 y (by simp) x (by simp))]
    rw [List.foldl_cons, hs, rising_id_go l (acc ++ [x]) (by simpa using h)]
    simp
theorem rising_id {l : List Int} (h : l.Pairwise (· < ·)) : rising l = l := by
  have := rising_id_go l [] (by simpa using h)
  simpa [rising] using this
theorem both_sorted {a b : List Int} {keep : Bool} (h : a.Pairwise (· < ·)) : (both a b keep).Pairwise (· < ·) := h.filter _
theorem mem_both {a b : List Int} {keep : Bool} {x : Int} : x ∈ both a b keep ↔ x ∈ a ∧ b.contains x = keep := by simp [both]
theorem inter_sorted (a b : List Int) : (inter a b).Pairwise (· < ·) := both_sorted (rising_sorted a)
theorem minus_sorted (a b : List Int) : (minus a b).Pairwise (· < ·) := both_sorted (rising_sorted a)
end Go.Ten.Mg
