/- What query.Eval computes, as a function on lists: the stack's top is the head. -/
import Derived.Test.YtpobpijjpbggoaaQueryFns
import Derived.Test.YtpobpijjpbggoaaMergeLaws
import Derived.Lib.RowBridge
namespace Go.Ten.Mg
open Go.Ten.Qy

theorem rising_snoc (l : List Int) (x : Int) : rising (l ++ [x]) = riseStep (rising l) x := by simp [rising]

/-- Of a rising list the compact one is the strictly rising one. -/
theorem compact_go (zs : List Int) (h : zs.Pairwise (· ≤ ·)) : ∀ m, m ≤ zs.length → Lib.compactUpTo zs.toArray m = rising (zs.take m) ∧ (0 < m → (rising (zs.take m)).getLast? = some zs[m - 1]!) := by
  intro m
  induction m with
  | zero => intro _; simp [Lib.compactUpTo, rising]
  | succ m ih =>
    intro hm
    obtain ⟨h1, h2⟩ := ih (by omega)
    have hlt : m < zs.length := by omega
    have htk : zs.take (m + 1) = zs.take m ++ [zs[m]] := List.take_succ_eq_append_getElem hlt
    have hg : zs.toArray[m]! = zs[m] := by simp [hlt]
    rw [Lib.compactUpTo_succ, htk, rising_snoc, ← h1, hg]
    by_cases h0 : m = 0
    · subst h0
      simp [Lib.keeps, riseStep, Lib.compactUpTo, hlt]
    · have h3 := h2 (by omega)
      rw [← h1] at h3
      have hm1 : m - 1 < zs.length := by omega
      have hg1 : zs[m - 1]! = zs[m - 1] := by simp [hm1]
      have hle : zs[m - 1] ≤ zs[m] := List.pairwise_iff_getElem.1 h (m - 1) m hm1 hlt (by omega)
      have hk : Lib.keeps zs.toArray m = decide (zs[m] ≠ zs[m - 1]) := by
        simp [Lib.keeps, h0, hlt, hm1]
      unfold riseStep
      rw [h3, hg1, hk]
      by_cases he : zs[m] = zs[m - 1]
      · simp [he, h3, hg1, hlt]
      · have : zs[m - 1] < zs[m] := by omega
        simp [he, this, hlt]
theorem compact_rising {zs : List Int} (h : zs.Pairwise (· ≤ ·)) : Lib.compact zs = rising zs := by
  have := (compact_go zs h zs.length (Nat.le_refl _)).1
  rw [List.take_length] at this
  exact this

theorem mem_riseStep {acc : List Int} {x z : Int} (h : z ∈ acc) : z ∈ riseStep acc x := by
  unfold riseStep
  split
  · simp [h]
  · split
    · simp [h]
    · exact h
theorem mem_rise_acc : ∀ (l acc : List Int) (z : Int), z ∈ acc → z ∈ l.foldl riseStep acc
  | [], _, _, h => h
  | x :: l, acc, z, h => mem_rise_acc l (riseStep acc x) z (mem_riseStep h)
theorem mem_rise_go : ∀ (l acc : List Int), (∀ y, acc.getLast? = some y → ∀ x ∈ l, y ≤ x) → l.Pairwise (· ≤ ·) → ∀ x ∈ l, x ∈ l.foldl riseStep acc
  | [], _, _, _, _, h => by simp at h
  | x :: l, acc, hy, hs, z, hz => by
    rw [List.pairwise_cons] at hs
    rw [List.foldl_cons]
    have hx : x ∈ riseStep acc x ∧ (∀ y, (riseStep acc x).getLast? = some y → ∀ u ∈ l, y ≤ u) := by
      unfold riseStep
      split
      · exact ⟨by simp, fun y e u hu => by simp at e; subst e; exact hs.1 u hu⟩
      · rename_i y e
        split
        · exact ⟨by simp, fun y' e' u hu => by simp at e'; subst e'; exact hs.1 u hu⟩
        · have h1 := hy y e x (List.mem_cons_self ..)
          have : y = x := by omega
          subst this
          exact ⟨List.mem_of_getLast? e, fun y' e' u hu => hy y' e' u (List.mem_cons_of_mem _ hu)⟩
    rcases List.mem_cons.1 hz with rfl | hz
    · exact mem_rise_acc l _ _ hx.1
    · exact mem_rise_go l _ hx.2 hs.2 z hz
theorem sub_rise_go : ∀ (l acc : List Int) (z : Int), z ∈ l.foldl riseStep acc → z ∈ l ∨ z ∈ acc
  | [], _, _, h => .inr h
  | x :: l, acc, z, h => by
    rcases sub_rise_go l (riseStep acc x) z h with h | h
    · exact .inl (List.mem_cons_of_mem _ h)
    · unfold riseStep at h
      split at h
      · rcases List.mem_append.1 h with h | h
        · exact .inr h
        · simp at h; exact .inl (by simp [h])
      · split at h
        · rcases List.mem_append.1 h with h | h
          · exact .inr h
          · simp at h; exact .inl (by simp [h])
        · exact .inr h
theorem mem_rising {l : List Int} (h : l.Pairwise (· ≤ ·)) (x : Int) : x ∈ rising l ↔ x ∈ l :=
  ⟨fun hx => by rcases sub_rise_go l [] x hx with h | h <;> simp_all, fun hx => mem_rise_go l [] (fun y e => by simp at e) h x hx⟩

theorem sorted_mergeSort (xs : List Int) : (xs.mergeSort fun x y => decide (x ≤ y)).Pairwise (· ≤ ·) := by
  have := List.pairwise_mergeSort (le := fun x y : Int => decide (x ≤ y)) (fun a b c h1 h2 => by simp at *; omega) (fun a b => by simp; omega) xs
  exact this.imp fun h => by simpa using h
/-- query.set's list. -/
theorem set_eq (xs : List Int) : Lib.compact (xs.mergeSort fun x y => decide (x ≤ y)) = rising (xs.mergeSort fun x y => decide (x ≤ y)) := compact_rising (sorted_mergeSort xs)
theorem mem_set (xs : List Int) (x : Int) : x ∈ Lib.compact (xs.mergeSort fun x y => decide (x ≤ y)) ↔ x ∈ xs := by
  rw [set_eq, mem_rising (sorted_mergeSort xs)]
  exact (List.mergeSort_perm xs _).mem_iff
theorem set_sorted (xs : List Int) : (Lib.compact (xs.mergeSort fun x y => decide (x ≤ y))).Pairwise (· < ·) := by rw [set_eq]; exact rising_sorted _

def setL (xs : List Int) : List Int := Lib.compact (xs.mergeSort fun x y => decide (x ≤ y))
def union2 (a b : List Int) : List Int := setL (a ++ b)
theorem union2_sorted (a b : List Int) : (union2 a b).Pairwise (· < ·) := set_sorted _
theorem mem_union2 (a b : List Int) (x : Int) : x ∈ union2 a b ↔ x ∈ a ∨ x ∈ b := by rw [union2, setL, mem_set]; simp
/-- What merge.Union hands back of two strictly rising lists. -/
theorem union2_eq {a b xs : List Int} (ha : a.Pairwise (· < ·)) (hb : b.Pairwise (· < ·)) (hs : xs.Pairwise (· < ·)) (hm : ∀ x, x ∈ xs ↔ ∃ l ∈ [a, b], x ∈ rising l) : xs = union2 a b :=
  rise_ext hs (union2_sorted a b) fun x => by rw [hm, mem_union2]; simp [rising_id ha, rising_id hb]

def evalStep (u : List Int) (p : Part) (st : List (List Int)) (sets : List (List Int)) : List (List Int) :=
  if p.kind = 1 then inter u (setL (sets.headD [])) :: st
  else if p.kind = 4 then (match st with | x :: r => minus u x :: r | [] => [])
  else if p.kind = 2 then (match st with | y :: x :: r => inter x y :: r | _ => [])
  else (match st with | y :: x :: r => union2 x y :: r | _ => [])
def evalGo (u : List Int) : List Part → List (List Int) → List (List Int) → List (List Int)
  | [], st, _ => st
  | p :: l, st, sets => evalGo u l (evalStep u p st sets) (if p.kind = 1 then sets.tail else sets)
def eval (q : List Part) (sets : List (List Int)) (all : List Int) : List Int := if rightQ q = true then (evalGo (setL all) q [] sets).headD [] else []
end Go.Ten.Mg
