/- Rows of elements of several cells: the cells of the k-th one. -/
import Derived.Test.YtpobpijjpbggoaaBase
namespace Go.Ten
open Go Go.RowKit

theorem flat_len {α : Type} (f : α → List Value) (n : Nat) (hf : ∀ x, (f x).length = n) (l : List α) : (l.flatMap f).length = l.length * n := by
  induction l with
  | nil => simp
  | cons x l ih => rw [List.flatMap_cons, List.length_append, ih, hf, List.length_cons, Nat.add_mul, Nat.one_mul, Nat.add_comm]
theorem flat_get {α : Type} (f : α → List Value) (n : Nat) (hf : ∀ x, (f x).length = n) (l : List α) (k j : Nat) (h : k < l.length) (hj : j < n) : (l.flatMap f)[k * n + j]? = (f l[k])[j]? := by
  induction l generalizing k with
  | nil => simp at h
  | cons x l ih =>
    rw [List.flatMap_cons]
    rcases k with _ | k
    · rw [Nat.zero_mul, Nat.zero_add, List.getElem?_append_left (by rw [hf]; exact hj)]; rfl
    · rw [List.getElem?_append_right (by rw [hf, Nat.add_mul]; omega), hf, show (k + 1) * n + j - n = k * n + j by rw [Nat.add_mul]; omega]
      exact ih k (by simpa using h)
theorem flat_set {α : Type} (f : α → List Value) (n : Nat) (hf : ∀ x, (f x).length = n) (l : List α) (k j : Nat) (v : Value) (y : α) (h : k < l.length) (hj : j < n) (hy : f y = (f l[k]).set j v) : (l.flatMap f).set (k * n + j) v = (l.set k y).flatMap f := by
  induction l generalizing k with
  | nil => simp at h
  | cons x l ih =>
    rw [List.flatMap_cons]
    rcases k with _ | k
    · rw [Nat.zero_mul, Nat.zero_add, List.set_append_left _ _ (by rw [hf]; exact hj), List.set_cons_zero, List.flatMap_cons, hy]; rfl
    · rw [List.set_append_right _ _ (by rw [hf, Nat.add_mul]; omega), hf, show (k + 1) * n + j - n = k * n + j by rw [Nat.add_mul]; omega, List.set_cons_succ, List.flatMap_cons]
      rw [ih k (by simpa using h) (by simpa using hy)]

/-- A row that holds these elements first. -/
theorem Blk.flat {α : Type} {w : World} {g : Nat} {f : α → List Value} {n : Nat} {l : List α} {rest : List Value} {T : TypeId} (h : Blk w g (l.flatMap f ++ rest) T) (hf : ∀ x, (f x).length = n) (k j : Nat) (hk : k < l.length) (hj : j < n) : w.cell? ⟨g, k * n + j, none⟩ = (f l[k])[j]? := by
  have hlen := flat_len f n hf l
  have : k * n + j < (l.flatMap f).length := by
    rw [hlen]
    calc k * n + j < k * n + n := by omega
      _ = (k + 1) * n := by rw [Nat.add_mul, Nat.one_mul]
      _ ≤ l.length * n := Nat.mul_le_mul_right n hk
  rw [h.cell, List.getElem?_append_left this]
  exact flat_get f n hf l k j hk hj
theorem Blk.flatSet {α : Type} {w : World} {g : Nat} {f : α → List Value} {n : Nat} {l : List α} {rest : List Value} {T : TypeId} (h : Blk w g (l.flatMap f ++ rest) T) (hf : ∀ x, (f x).length = n) (k j : Nat) (hk : k < l.length) (hj : j < n) (v : Value) (y : α) (hy : f y = (f l[k]).set j v) :
    Blk (w.setCell ⟨g, k * n + j, none⟩ v) g ((l.set k y).flatMap f ++ rest) T := by
  have h1 := h.setCell (k * n + j) v
  have hlen := flat_len f n hf l
  have : k * n + j < (l.flatMap f).length := by
    rw [hlen]
    calc k * n + j < k * n + n := by omega
      _ = (k + 1) * n := by rw [Nat.add_mul, Nat.one_mul]
      _ ≤ l.length * n := Nat.mul_le_mul_right n hk
  rw [List.set_append_left _ _ this, flat_set f n hf l k j v y hk hj hy] at h1
  exact h1
end Go.Ten
