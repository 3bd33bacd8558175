/- Plain laws of the terms of a text: they rise, each is a piece; those of two texts with a blank between; capitals. -/
import Derived.Test.YtpobpijjpbggoaaDoorTokFns
import GoSem.Claims
set_option linter.unusedSimpArgs false
set_option linter.unusedVariables false
namespace Go.Ten.Tk
open Go.Ten.Qy

theorem compact_go (zs : List (List UInt8)) (h : zs.Pairwise (· ≤ ·)) : ∀ m, m ≤ zs.length → (Lib.compactUpTo zs.toArray m).Pairwise (· < ·) ∧ (∀ x, x ∈ Lib.compactUpTo zs.toArray m ↔ x ∈ zs.take m) := by
  intro m
  induction m with
  | zero => intro _; simp [Lib.compactUpTo]
  | succ m ih =>
    intro hm
    obtain ⟨h1, h2⟩ := ih (by omega)
    have hlt : m < zs.length := by omega
    have htk : zs.take (m + 1) = zs.take m ++ [zs[m]] := List.take_succ_eq_append_getElem hlt
    have hg : zs.toArray[m]! = zs[m] := by simp [hlt]
    rw [Lib.compactUpTo_succ, hg]
    by_cases h0 : m = 0
    · subst h0
      rw [htk]
      simp [Lib.keeps, Lib.compactUpTo, hlt]
    · have hm1 : m - 1 < zs.length := by omega
      have hle : zs[m - 1] ≤ zs[m] := List.pairwise_iff_getElem.1 h (m - 1) m hm1 hlt (by omega)
      have hk : Lib.keeps zs.toArray m = decide (zs[m] ≠ zs[m - 1]) := by
        simp [Lib.keeps, h0, hlt, hm1]
      have hall : ∀ x ∈ zs.take m, x ≤ zs[m - 1] := fun x hx => by
        obtain ⟨i, hi, rfl⟩ := List.getElem_of_mem hx
        have hi' : i < m := by simp at hi; omega
        rw [List.getElem_take]
        by_cases he : i = m - 1
        · subst he; exact List.le_refl _
        · exact List.pairwise_iff_getElem.1 h i (m - 1) (by omega) hm1 (by omega)
      rw [hk]
      by_cases he : zs[m] = zs[m - 1]
      · simp only [he, ne_eq, not_true_eq_false, decide_false, Bool.false_eq_true, if_false, List.append_nil]
        refine ⟨h1, fun x => ?_⟩
        rw [h2, htk]
        simp only [List.mem_append, List.mem_singleton]
        refine ⟨.inl, fun hx => ?_⟩
        rcases hx with hx | hx
        · exact hx
        · rw [hx, he]
          rw [List.mem_iff_getElem]
          exact ⟨m - 1, by simp; omega, by simp⟩
      · have hl : zs[m - 1] < zs[m] := by
          apply List.not_le.1
          intro hh
          exact he (List.le_antisymm hh hle)
        simp only [he, ne_eq, not_false_eq_true, decide_true, if_true]
        refine ⟨?_, fun x => ?_⟩
        · rw [List.pairwise_append]
          refine ⟨h1, by simp, fun a ha b hb => ?_⟩
          simp at hb
          subst hb
          apply List.not_le.1
          intro hh
          have h4 := hall a ((h2 a).1 ha)
          exact absurd (List.le_trans hh h4) (List.not_le.2 hl)
        · rw [htk]
          simp only [List.mem_append, h2]
theorem compact_sorted {zs : List (List UInt8)} (h : zs.Pairwise (· ≤ ·)) : (Lib.compact zs).Pairwise (· < ·) ∧ ∀ x, x ∈ Lib.compact zs ↔ x ∈ zs := by
  have := compact_go zs h zs.length (Nat.le_refl _)
  rw [List.take_length] at this
  exact this
theorem sorted_mergeSort (xs : List (List UInt8)) : (xs.mergeSort fun x y => decide (x ≤ y)).Pairwise (· ≤ ·) := by
  have := List.pairwise_mergeSort (le := fun x y : List UInt8 => decide (x ≤ y)) (fun a b c h1 h2 => by simp at *; exact List.le_trans h1 h2) (fun a b => by simp; exact List.le_total a b) xs
  exact this.imp fun h => by simpa using h
theorem termsOf_sorted (s : List UInt8) : (termsOf s).Pairwise (· < ·) := (compact_sorted (sorted_mergeSort _)).1
theorem mem_termsOf (s : List UInt8) (x : List UInt8) : x ∈ termsOf s ↔ x ∈ words s := by
  rw [termsOf, (compact_sorted (sorted_mergeSort _)).2]
  exact (List.mergeSort_perm _ _).mem_iff
theorem lt_asymm' {a b : List UInt8} (h : a < b) (h2 : b < a) : False := List.lt_irrefl a (List.lt_trans h h2)
theorem rise_ext : ∀ {xs ys : List (List UInt8)}, xs.Pairwise (· < ·) → ys.Pairwise (· < ·) → (∀ x, x ∈ xs ↔ x ∈ ys) → xs = ys
  | [], [], _, _, _ => rfl
  | [], y :: ys, _, _, h => by have := (h y).2 (List.mem_cons_self ..); simp at this
  | x :: xs, [], _, _, h => by have := (h x).1 (List.mem_cons_self ..); simp at this
  | x :: xs, y :: ys, hx, hy, h => by
    rw [List.pairwise_cons] at hx hy
    have e : x = y := by
      have h1 := (h x).1 (List.mem_cons_self ..)
      have h2 := (h y).2 (List.mem_cons_self ..)
      rcases List.mem_cons.1 h1 with e | h1
      · exact e
      · rcases List.mem_cons.1 h2 with e | h2
        · exact e.symm
        · exact (lt_asymm' (hy.1 x h1) (hx.1 y h2)).elim
    subst e
    congr 1
    refine rise_ext hx.2 hy.2 fun z => ⟨fun hz => ?_, fun hz => ?_⟩
    · rcases List.mem_cons.1 ((h z).1 (List.mem_cons_of_mem _ hz)) with e | h1
      · subst e; exact (List.lt_irrefl _ (hx.1 _ hz)).elim
      · exact h1
    · rcases List.mem_cons.1 ((h z).2 (List.mem_cons_of_mem _ hz)) with e | h1
      · subst e; exact (List.lt_irrefl _ (hy.1 _ hz)).elim
      · exact h1

theorem cut_app (l m : List (List UInt8)) : cut (l ++ m) = cut l ++ cut m := by simp [cut]
theorem words_join (a b : List UInt8) : words (a ++ 32 :: b) = words a ++ words b := by
  have h32 : letter 32 = 0 := by decide
  rw [words, List.map_append, List.map_cons, h32, splitZ_app, cut_app]
  rfl
def up (c : UInt8) : UInt8 := if 97 ≤ c ∧ c ≤ 122 then c - 32 else c
theorem letter_up : ∀ c : UInt8, letter (up c) = letter c := fun c => by
  have h : ∀ n : Fin 256, letter (up (UInt8.ofFin n)) = letter (UInt8.ofFin n) := by decide +kernel
  exact h c.toFin
theorem words_up (a : List UInt8) : words (a.map up) = words a := by
  have : (a.map up).map letter = a.map letter := by
    rw [List.map_map]
    exact List.map_congr_left fun c _ => letter_up c
  rw [words, words, this]
theorem termsOf_up (a : List UInt8) : termsOf (a.map up) = termsOf a := by rw [termsOf, termsOf, words_up]
theorem mem_join (a b : List UInt8) (x : List UInt8) : x ∈ termsOf (a ++ 32 :: b) ↔ x ∈ termsOf a ∨ x ∈ termsOf b := by
  rw [mem_termsOf, mem_termsOf, mem_termsOf, words_join, List.mem_append]
theorem indexByte_no : ∀ (l : List UInt8), (∀ c ∈ l, c ≠ 0) → Lib.indexByte l 0 = -1
  | [], _ => rfl
  | c :: l, h => by
    have hb : (c == 0) = false := by simpa using h c (List.mem_cons_self ..)
    rw [Lib.indexByte, hb, indexByte_no l fun d hd => h d (List.mem_cons_of_mem _ hd)]
    rfl
theorem term_right {s x : List UInt8} (h : x ∈ termsOf s) : x ≠ [] ∧ x.length ≤ 12 ∧ Lib.indexByte x 0 = -1 := by
  rw [mem_termsOf, words, cut, List.mem_map] at h
  obtain ⟨p, hp, rfl⟩ := h
  rw [List.mem_filter] at hp
  obtain ⟨h1, h2⟩ := hp
  have hne : p ≠ [] := by simpa using h2
  refine ⟨fun e => hne ?_, by simp; omega, indexByte_no _ fun c hc => ((splitZ_piece _ p h1).2 c (List.mem_of_mem_take hc)).1⟩
  cases p with
  | nil => rfl
  | cons c t => simp at e
theorem termsOf_len (s : List UInt8) : (termsOf s).length ≤ s.length + 1 := by
  have h1 : (termsOf s).length ≤ (words s).length := by
    rw [termsOf]
    have : (Lib.compact ((words s).mergeSort fun x y => decide (x ≤ y))).length ≤ ((words s).mergeSort fun x y => decide (x ≤ y)).length := by
      rw [Lib.compact, Lib.compactUpTo, List.length_map]
      refine Nat.le_trans (List.length_filter_le _ _) ?_
      simp
    rwa [List.length_mergeSort] at this
  have h2 := cut_len (splitZ (s.map letter))
  have h3 := splitZ_len (s.map letter)
  rw [words] at h1
  simp at h3
  omega
def runText : List UInt8 := [84, 111, 32, 98, 101, 44, 32, 111, 114, 32, 110, 111, 116, 32, 84, 79, 32, 98, 101, 32, 50]
def runTerms : List (List UInt8) := [[50], [98, 101], [110, 111, 116], [111, 114], [116, 111]]
theorem run_words : words runText = [[116, 111], [98, 101], [111, 114], [110, 111, 116], [116, 111], [98, 101], [50]] := by decide +kernel
theorem run_terms : termsOf runText = runTerms := by
  refine rise_ext (termsOf_sorted _) (by decide) fun x => ?_
  rw [mem_termsOf, run_words]
  simp only [runTerms, List.mem_cons, List.not_mem_nil, or_false]
  constructor
  · rintro (h | h | h | h | h | h | h) <;> subst h <;> simp
  · rintro (h | h | h | h | h) <;> subst h <;> simp

theorem less_iff : ∀ (a b : List UInt8), Op.bytesLess a b = decide (a < b)
  | [], [] => by simp [Op.bytesLess]
  | _ :: _, [] => by simp [Op.bytesLess]
  | [], _ :: _ => by simp [Op.bytesLess]
  | a :: x, b :: y => by
    rw [Op.bytesLess, less_iff x y]
    simp only [List.cons_lt_cons_iff]
    by_cases h1 : a < b <;> by_cases h2 : a = b <;> by_cases h3 : x < y <;> simp [h1, h2, h3]
end Go.Ten.Tk
