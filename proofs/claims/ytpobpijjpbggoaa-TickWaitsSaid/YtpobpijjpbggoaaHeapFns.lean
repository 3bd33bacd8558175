/- Plain functions on lists: a heap's ups and downs, as container/heap makes them. -/
namespace Go.HeapFns
variable {α : Type} [Inhabited α]
def sw (xs : List α) (i j : Nat) : List α := (xs.set i xs[j]!).set j xs[i]!
theorem sw_length (xs : List α) (i j : Nat) : (sw xs i j).length = xs.length := by simp [sw]
def up (lt : α → α → Bool) : Nat → List α → Nat → List α
  | 0, xs, _ => xs
  | f + 1, xs, j => if j = 0 then xs else if lt xs[j]! xs[(j - 1) / 2]! then up lt f (sw xs ((j - 1) / 2) j) ((j - 1) / 2) else xs
def down (lt : α → α → Bool) : Nat → List α → Nat → Nat → List α × Nat
  | 0, xs, i, _ => (xs, i)
  | f + 1, xs, i, n =>
    if n ≤ 2 * i + 1 then (xs, i) else
    let j := if 2 * i + 2 < n ∧ lt xs[2 * i + 2]! xs[2 * i + 1]! = true then 2 * i + 2 else 2 * i + 1
    if lt xs[j]! xs[i]! then down lt f (sw xs i j) j n else (xs, i)
theorem up_length (lt : α → α → Bool) : ∀ (f : Nat) (xs : List α) (j : Nat), (up lt f xs j).length = xs.length
  | 0, _, _ => rfl
  | f + 1, xs, j => by
    unfold up
    split
    · rfl
    · split
      · rw [up_length lt f, sw_length]
      · rfl
theorem down_length (lt : α → α → Bool) : ∀ (f : Nat) (xs : List α) (i n : Nat), (down lt f xs i n).1.length = xs.length
  | 0, _, _, _ => rfl
  | f + 1, xs, i, n => by
    unfold down
    split
    · rfl
    · dsimp only
      generalize (if 2 * i + 2 < n ∧ lt xs[2 * i + 2]! xs[2 * i + 1]! = true then 2 * i + 2 else 2 * i + 1) = j
      split
      · rw [down_length lt f, sw_length]
      · rfl
theorem up_fuel (lt : α → α → Bool) : ∀ (f g : Nat) (xs : List α) (j : Nat), j < f → j < g → up lt f xs j = up lt g xs j
  | 0, _, _, _, h, _ => by omega
  | _, 0, _, _, _, h => by omega
  | f + 1, g + 1, xs, j, hf, hg => by
    unfold up
    split
    · rfl
    · rename_i hj
      split
      · exact up_fuel lt f g _ _ (by omega) (by omega)
      · rfl
theorem up_step (lt : α → α → Bool) (xs : List α) (i : Nat) (h : lt xs[i + 1]! xs[i / 2]! = true) : up lt (i + 2) xs (i + 1) = up lt (i / 2 + 1) (sw xs (i / 2) (i + 1)) (i / 2) := by
  rw [up, if_neg (by omega), Nat.add_sub_cancel, if_pos h]
  exact up_fuel lt _ _ _ _ (by omega) (by omega)
theorem down_fuel (lt : α → α → Bool) : ∀ (f g : Nat) (xs : List α) (i n : Nat), n < f + i → n < g + i → down lt f xs i n = down lt g xs i n
  | 0, 0, _, _, _, _, _ => rfl
  | 0, g + 1, xs, i, n, hf, hg => by unfold down; rw [if_pos (by omega)]
  | f + 1, 0, xs, i, n, hf, hg => by unfold down; rw [if_pos (by omega)]
  | f + 1, g + 1, xs, i, n, hf, hg => by
    unfold down
    split
    · rfl
    · rename_i hj
      dsimp only
      have : (if 2 * i + 2 < n ∧ lt xs[2 * i + 2]! xs[2 * i + 1]! = true then 2 * i + 2 else 2 * i + 1) ≥ 2 * i + 1 := by split <;> omega
      generalize (if 2 * i + 2 < n ∧ lt xs[2 * i + 2]! xs[2 * i + 1]! = true then 2 * i + 2 else 2 * i + 1) = j at *
      split
      · exact down_fuel lt f g _ _ _ (by omega) (by omega)
      · rfl
theorem down_step (lt : α → α → Bool) (xs : List α) (i n : Nat) (hj : ¬ n ≤ 2 * i + 1) (j : Nat) (hs : (if 2 * i + 2 < n ∧ lt xs[2 * i + 2]! xs[2 * i + 1]! = true then 2 * i + 2 else 2 * i + 1) = j) (h : lt xs[j]! xs[i]! = true) :
    down lt (n + 1) xs i n = down lt (n + 1) (sw xs i j) j n := by
  rw [down, if_neg hj, hs]
  dsimp only
  rw [if_pos h]
  have : j ≥ 2 * i + 1 := by rw [← hs]; split <;> omega
  exact down_fuel lt _ _ _ _ _ (by omega) (by omega)
theorem down_stop (lt : α → α → Bool) (xs : List α) (i n : Nat) (hj : ¬ n ≤ 2 * i + 1) (j : Nat) (hs : (if 2 * i + 2 < n ∧ lt xs[2 * i + 2]! xs[2 * i + 1]! = true then 2 * i + 2 else 2 * i + 1) = j) (h : lt xs[j]! xs[i]! = false) :
    down lt (n + 1) xs i n = (xs, i) := by
  rw [down, if_neg hj, hs]
  dsimp only
  rw [h]; rfl
end Go.HeapFns
