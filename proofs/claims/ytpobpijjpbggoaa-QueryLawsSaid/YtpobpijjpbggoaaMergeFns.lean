/- What the package merge computes, as functions on lists of integers. -/
import Derived.WalkKit
namespace Go.Ten.Mg

def riseStep (acc : List Int) (x : Int) : List Int := match acc.getLast? with | none => acc ++ [x] | some y => if y < x then acc ++ [x] else acc
def rising (l : List Int) : List Int := l.foldl riseStep []
def both (a b : List Int) (keep : Bool) : List Int := a.filter fun x => b.contains x == keep
def inter (a b : List Int) : List Int := both (rising a) (rising b) true
def minus (a b : List Int) : List Int := both (rising a) (rising b) false

theorem riseStep_sorted {acc : List Int} (h : acc.Pairwise (· < ·)) (x : Int) : (riseStep acc x).Pairwise (· < ·) := by
  unfold riseStep
  split
  · rename_i e
    rw [List.getLast?_eq_none_iff] at e
    subst e
    simp
  · rename_i y e
    split
    · rename_i hlt
      rw [List.pairwise_append]
      refine ⟨h, by simp, fun a ha b hb => ?_⟩
      simp at hb
      subst hb
      obtain ⟨ys, rfl⟩ := List.getLast?_eq_some_iff.1 e
      rw [List.pairwise_append] at h
      rcases List.mem_append.1 ha with h1 | h1
      · have := h.2.2 a h1 y (by simp); omega
      · simp at h1; omega
    · exact h
theorem rising_sorted_go (l acc : List Int) (h : acc.Pairwise (· < ·)) : (l.foldl riseStep acc).Pairwise (· < ·) := by
  induction l generalizing acc with
  | nil => exact h
  | cons x l ih => exact ih _ (riseStep_sorted h x)
theorem rising_sorted (l : List Int) : (rising l).Pairwise (· < ·) := rising_sorted_go l [] List.Pairwise.nil
theorem riseStep_len (acc : List Int) (x : Int) : (riseStep acc x).length ≤ acc.length + 1 := by
  unfold riseStep
  split
  · simp
  · split <;> simp
theorem rising_len_go (l acc : List Int) : (l.foldl riseStep acc).length ≤ acc.length + l.length := by
  induction l generalizing acc with
  | nil => simp
  | cons x l ih =>
    have := ih (riseStep acc x)
    have := riseStep_len acc x
    simp only [List.foldl_cons, List.length_cons]
    omega
theorem rising_len (l : List Int) : (rising l).length ≤ l.length := by simpa [rising] using rising_len_go l []
end Go.Ten.Mg
