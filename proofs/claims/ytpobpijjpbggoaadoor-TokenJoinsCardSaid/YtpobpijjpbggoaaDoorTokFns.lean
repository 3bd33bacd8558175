/- What token.Terms computes, as functions on lists. -/
import Derived.Test.YtpobpijjpbggoaaDoorQueryFns
import Derived.Lib.Bytealg
import Derived.Lib.IndexLaws
import Derived.Lib.SlicesCompact
namespace Go.Ten.Tk
open Go.Ten.Qy

/-- The pieces between the zeros. -/
def splitZ : List UInt8 → List (List UInt8)
  | [] => [[]]
  | c :: t => if c = 0 then [] :: splitZ t else (c :: (splitZ t).headD []) :: (splitZ t).tail

theorem splitZ_ne (s : List UInt8) : splitZ s ≠ [] := by
  cases s with
  | nil => simp [splitZ]
  | cons c t => rw [splitZ]; split <;> simp
theorem splitZ_form (s : List UInt8) : ∃ p ps, splitZ s = p :: ps := by
  rcases h : splitZ s with _ | ⟨p, ps⟩
  · exact absurd h (splitZ_ne s)
  · exact ⟨p, ps, rfl⟩
theorem splitZ_none : ∀ {s : List UInt8}, Lib.indexByte s 0 = -1 → splitZ s = [s]
  | [], _ => rfl
  | c :: t, h => by
    rw [Lib.indexByte] at h
    by_cases hc : c = 0
    · subst hc; simp at h
    · have hb : (c == 0) = false := by simpa using hc
      rw [hb] at h
      simp only [Bool.false_eq_true, if_false] at h
      have hge := Lib.indexByte_ge t 0
      by_cases ht : Lib.indexByte t 0 = -1
      · rw [splitZ, if_neg hc, splitZ_none ht]; rfl
      · have hb2 : (Lib.indexByte t 0 == -1) = false := by simpa using ht
        rw [hb2] at h
        simp at h
        omega
theorem splitZ_some : ∀ {s : List UInt8} {i : Nat}, Lib.indexByte s 0 = i → i < s.length ∧ splitZ s = s.take i :: splitZ (s.drop (i + 1))
  | [], i, h => by simp [Lib.indexByte] at h
  | c :: t, i, h => by
    rw [Lib.indexByte] at h
    by_cases hc : c = 0
    · subst hc
      simp at h
      have : i = 0 := by omega
      subst this
      simp [splitZ]
    · have hb : (c == 0) = false := by simpa using hc
      rw [hb] at h
      simp only [Bool.false_eq_true, if_false] at h
      have hge := Lib.indexByte_ge t 0
      by_cases ht : Lib.indexByte t 0 = -1
      · rw [ht] at h; simp at h
      · have hb2 : (Lib.indexByte t 0 == -1) = false := by simpa using ht
        rw [hb2] at h
        simp only [Bool.false_eq_true, if_false] at h
        obtain ⟨j, rfl⟩ : ∃ j, i = j + 1 := ⟨i - 1, by omega⟩
        obtain ⟨h1, h2⟩ := splitZ_some (s := t) (i := j) (by omega)
        refine ⟨by simp; omega, ?_⟩
        rw [splitZ, if_neg hc, h2]
        simp

theorem splitZ_len (s : List UInt8) : (splitZ s).length ≤ s.length + 1 := by
  induction s with
  | nil => simp [splitZ]
  | cons c t ih =>
    rw [splitZ]
    split
    · simp; omega
    · obtain ⟨p, ps, e⟩ := splitZ_form t
      rw [e] at ih ⊢
      simp at ih ⊢; omega
theorem splitZ_piece (s : List UInt8) : ∀ p ∈ splitZ s, p.length ≤ s.length ∧ ∀ c ∈ p, c ≠ 0 ∧ c ∈ s := by
  induction s with
  | nil => simp [splitZ]
  | cons c t ih =>
    intro p hp
    rw [splitZ] at hp
    split at hp
    · rcases List.mem_cons.1 hp with rfl | hp
      · simp
      · obtain ⟨h1, h2⟩ := ih p hp
        exact ⟨by simp; omega, fun d hd => ⟨(h2 d hd).1, List.mem_cons_of_mem _ (h2 d hd).2⟩⟩
    · rename_i hc
      obtain ⟨q, qs, e⟩ := splitZ_form t
      rw [e] at hp ih
      rcases List.mem_cons.1 hp with rfl | hp
      · obtain ⟨h1, h2⟩ := ih q (List.mem_cons_self ..)
        refine ⟨by simpa using h1, fun d hd => ?_⟩
        rcases List.mem_cons.1 hd with rfl | hd
        · exact ⟨hc, List.mem_cons_self ..⟩
        · exact ⟨(h2 d hd).1, List.mem_cons_of_mem _ (h2 d hd).2⟩
      · obtain ⟨h1, h2⟩ := ih p (List.mem_cons_of_mem _ hp)
        exact ⟨by simp; omega, fun d hd => ⟨(h2 d hd).1, List.mem_cons_of_mem _ (h2 d hd).2⟩⟩
theorem splitZ_app : ∀ (s t : List UInt8), splitZ (s ++ 0 :: t) = splitZ s ++ splitZ t
  | [], t => by simp [splitZ]
  | c :: s, t => by
    rw [List.cons_append, splitZ, splitZ, splitZ_app s t]
    split
    · rfl
    · obtain ⟨p, ps, e⟩ := splitZ_form s
      rw [e]; rfl

/-- What is kept of the pieces. -/
def cut (l : List (List UInt8)) : List (List UInt8) := (l.filter fun p => p ≠ []).map fun p => p.take 12
theorem cut_snoc_nil (l : List (List UInt8)) : cut (l ++ [[]]) = cut l := by simp [cut]
theorem cut_snoc (l : List (List UInt8)) {p : List UInt8} (h : p ≠ []) : cut (l ++ [p]) = cut l ++ [p.take 12] := by simp [cut, h]
theorem cut_len (l : List (List UInt8)) : (cut l).length ≤ l.length := by
  rw [cut, List.length_map]; exact List.length_filter_le _ _
def words (s : List UInt8) : List (List UInt8) := cut (splitZ (s.map letter))
def termsOf (s : List UInt8) : List (List UInt8) := Lib.compact ((words s).mergeSort fun x y => decide (x ≤ y))
end Go.Ten.Tk
