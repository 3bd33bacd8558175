/- Plain lists: a heap's ups and downs keep its order, and lose nothing. -/
import Derived.Test.YtpobpijjpbggoaaHeapFns
namespace Go.HeapFns
variable {α : Type} [Inhabited α]

theorem sw_get (xs : List α) {i j : Nat} (hi : i < xs.length) (hj : j < xs.length) (k : Nat) : (sw xs i j)[k]! = if k = j then xs[i]! else if k = i then xs[j]! else xs[k]! := by
  unfold sw
  simp only [List.getElem!_eq_getElem?_getD, List.getElem?_set, List.length_set]
  by_cases h1 : j = k
  · subst h1; simp [hj]
  · by_cases h2 : i = k
    · subst h2; simp [h1, hi, Ne.symm h1]
    · simp [h1, h2, Ne.symm h1, Ne.symm h2]

theorem sw_perm (xs : List α) {i j : Nat} (hi : i < xs.length) (hj : j < xs.length) : (sw xs i j).Perm xs := by
  unfold sw
  rw [getElem!_pos xs i hi, getElem!_pos xs j hj]
  exact List.set_set_perm hi hj

def Heap (key : α → Int) (n : Nat) (xs : List α) : Prop := ∀ i, 0 < i → i < n → key xs[(i - 1) / 2]! ≤ key xs[i]!

theorem heap_min {key : α → Int} {n : Nat} {xs : List α} (h : Heap key n xs) : ∀ i, i < n → key xs[0]! ≤ key xs[i]! := by
  intro i
  induction i using Nat.strongRecOn with
  | ind i ih =>
    intro hi
    by_cases h0 : i = 0
    · subst h0; exact Int.le_refl _
    · have h1 := ih ((i - 1) / 2) (by omega) (by omega)
      have h2 := h i (by omega) hi
      omega

theorem up_heap (key : α → Int) (n : Nat) : ∀ (f : Nat) (xs : List α) (j : Nat), j < f → j < n → n ≤ xs.length →
    (∀ i, 0 < i → i < n → i ≠ j → key xs[(i - 1) / 2]! ≤ key xs[i]!) → (∀ i, 0 < i → i < n → (i - 1) / 2 = j → 0 < j → key xs[(j - 1) / 2]! ≤ key xs[i]!) →
    Heap key n (up (fun a b => decide (key a < key b)) f xs j)
  | 0, _, _, h, _, _, _, _ => by omega
  | f + 1, xs, j, hf, hj, hn, h1, h2 => by
    rw [up]
    by_cases h0 : j = 0
    · rw [if_pos h0]
      intro i hi hin
      exact h1 i hi hin (by omega)
    · rw [if_neg h0]
      by_cases hlt : decide (key xs[j]! < key xs[(j - 1) / 2]!) = true
      · rw [if_pos hlt]
        have hlt := of_decide_eq_true hlt
        have hg := sw_get xs (i := (j - 1) / 2) (j := j) (by omega) (by omega)
        refine up_heap key n f _ _ (by omega) (by omega) (by rw [sw_length]; exact hn) ?_ ?_
        · intro i hi hin hip
          rw [hg, hg]
          by_cases e1 : i = j
          · subst e1
            rw [if_neg (by omega), if_pos rfl, if_pos rfl]
            omega
          · rw [if_neg e1, if_neg hip]
            by_cases e2 : (i - 1) / 2 = j
            · rw [if_pos e2]
              exact h2 i hi hin e2 (by omega)
            · rw [if_neg e2]
              have := h1 i hi hin e1
              by_cases e3 : (i - 1) / 2 = (j - 1) / 2
              · rw [if_pos e3]
                rw [e3] at this
                omega
              · rw [if_neg e3]; exact this
        · intro i hi hin hpi hp
          rw [hg, hg]
          rw [if_neg (by omega), if_neg (by omega)]
          have hp1 := h1 ((j - 1) / 2) hp (by omega) (by omega)
          by_cases e1 : i = j
          · rw [if_pos e1]; exact hp1
          · rw [if_neg e1, if_neg (by omega)]
            have := h1 i hi hin e1
            rw [hpi] at this
            omega
      · rw [if_neg hlt]
        have hlt : ¬ key xs[j]! < key xs[(j - 1) / 2]! := fun h => hlt (decide_eq_true h)
        intro i hi hin
        by_cases e1 : i = j
        · subst e1; omega
        · exact h1 i hi hin e1

theorem down_heap (key : α → Int) (n : Nat) : ∀ (f : Nat) (xs : List α) (j : Nat), n < f + j → n ≤ xs.length →
    (∀ i, 0 < i → i < n → (i - 1) / 2 ≠ j → key xs[(i - 1) / 2]! ≤ key xs[i]!) → (∀ i, 0 < i → i < n → (i - 1) / 2 = j → 0 < j → key xs[(j - 1) / 2]! ≤ key xs[i]!) →
    Heap key n (down (fun a b => decide (key a < key b)) f xs j n).1
  | 0, xs, j, hf, hn, h1, h2 => by
    rw [down]
    intro i hi hin
    exact h1 i hi hin (by omega)
  | f + 1, xs, j, hf, hn, h1, h2 => by
    rw [down]
    by_cases h0 : n ≤ 2 * j + 1
    · rw [if_pos h0]
      intro i hi hin
      exact h1 i hi hin (by omega)
    · rw [if_neg h0]
      have hc : ∃ c, (if 2 * j + 2 < n ∧ decide (key xs[2 * j + 2]! < key xs[2 * j + 1]!) = true then 2 * j + 2 else 2 * j + 1) = c ∧ (c - 1) / 2 = j ∧ 0 < c ∧ c < n ∧ (∀ i, 0 < i → i < n → (i - 1) / 2 = j → key xs[c]! ≤ key xs[i]!) := by
        by_cases hh : 2 * j + 2 < n ∧ decide (key xs[2 * j + 2]! < key xs[2 * j + 1]!) = true
        · rw [if_pos hh]
          have := of_decide_eq_true hh.2
          refine ⟨_, rfl, by omega, by omega, hh.1, fun i hi hin hp => ?_⟩
          have : i = 2 * j + 1 ∨ i = 2 * j + 2 := by omega
          rcases this with rfl | rfl <;> omega
        · rw [if_neg hh]
          refine ⟨_, rfl, by omega, by omega, by omega, fun i hi hin hp => ?_⟩
          have : i = 2 * j + 1 ∨ i = 2 * j + 2 := by omega
          rcases this with rfl | rfl
          · omega
          · have : ¬ key xs[2 * j + 2]! < key xs[2 * j + 1]! := fun h => hh ⟨hin, decide_eq_true h⟩
            omega
      obtain ⟨c, hce, hcp, hc0, hcn, hcm⟩ := hc
      dsimp only
      rw [hce]
      by_cases hlt : decide (key xs[c]! < key xs[j]!) = true
      · rw [if_pos hlt]
        have hlt := of_decide_eq_true hlt
        have hg := sw_get xs (i := j) (j := c) (by omega) (by omega)
        refine down_heap key n f _ _ (by omega) (by rw [sw_length]; exact hn) ?_ ?_
        · intro i hi hin hip
          rw [hg, hg]
          rw [if_neg hip]
          by_cases e1 : i = c
          · rw [e1, hcp, if_pos rfl, if_pos rfl]; omega
          · rw [if_neg e1]
            by_cases e2 : i = j
            · rw [if_pos e2]
              rw [if_neg (by omega)]
              have := h2 c hc0 hcn hcp (by omega)
              rw [e2]; exact this
            · rw [if_neg e2]
              by_cases e3 : (i - 1) / 2 = j
              · rw [if_pos e3]
                exact hcm i hi hin e3
              · rw [if_neg e3]
                exact h1 i hi hin e3
        · intro i hi hin hp hc
          rw [hg, hg, hcp]
          rw [if_neg (by omega), if_pos rfl, if_neg (by omega), if_neg (by omega)]
          have := h1 i hi hin (by omega)
          rw [hp] at this
          exact this
      · rw [if_neg hlt]
        have hlt : ¬ key xs[c]! < key xs[j]! := fun h => hlt (decide_eq_true h)
        intro i hi hin
        by_cases e1 : (i - 1) / 2 = j
        · have := hcm i hi hin e1
          dsimp only
          rw [e1]; omega
        · exact h1 i hi hin e1

theorem up_perm (lt : α → α → Bool) : ∀ (f : Nat) (xs : List α) (j : Nat), j < xs.length → (up lt f xs j).Perm xs
  | 0, _, _, _ => List.Perm.refl _
  | f + 1, xs, j, hj => by
    rw [up]
    split
    · exact List.Perm.refl _
    · split
      · exact (up_perm lt f _ _ (by rw [sw_length]; omega)).trans (sw_perm xs (by omega) hj)
      · exact List.Perm.refl _
theorem down_perm (lt : α → α → Bool) (n : Nat) : ∀ (f : Nat) (xs : List α) (j : Nat), n ≤ xs.length → (down lt f xs j n).1.Perm xs
  | 0, _, _, _ => List.Perm.refl _
  | f + 1, xs, j, hn => by
    rw [down]
    split
    · exact List.Perm.refl _
    · dsimp only
      have hc : (if 2 * j + 2 < n ∧ lt xs[2 * j + 2]! xs[2 * j + 1]! = true then 2 * j + 2 else 2 * j + 1) < n := by split <;> omega
      generalize (if 2 * j + 2 < n ∧ lt xs[2 * j + 2]! xs[2 * j + 1]! = true then 2 * j + 2 else 2 * j + 1) = c at *
      split
      · exact (down_perm lt n f _ _ (by rw [sw_length]; exact hn)).trans (sw_perm xs (by omega) (by omega))
      · exact List.Perm.refl _
end Go.HeapFns
