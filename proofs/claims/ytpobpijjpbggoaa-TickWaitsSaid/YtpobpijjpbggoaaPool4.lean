/- package pool, as its callers see it: a pool at a block holds rising numbers; Take gives the first, Put sets one in. -/
import Derived.Test.YtpobpijjpbggoaaPool3
import Derived.Test.YtpobpijjpbggoaaMemFns
set_option linter.unusedSimpArgs false
set_option linter.unusedVariables false
namespace Go.MemF
theorem ins_perm (n : Int) : ∀ l : List Int, (ins n l).Perm (n :: l)
  | [] => List.Perm.refl _
  | x :: l => by
    unfold ins
    split
    · exact List.Perm.refl _
    · exact ((ins_perm n l).cons x).trans (List.Perm.swap n x l)
theorem ins_sorted (n : Int) : ∀ l : List Int, l.Pairwise (· < ·) → n ∉ l → (ins n l).Pairwise (· < ·)
  | [], _, _ => by simp [ins]
  | x :: l, h, hn => by
    rw [List.pairwise_cons] at h
    simp only [List.mem_cons, not_or] at hn
    unfold ins
    split
    · rw [List.pairwise_cons, List.pairwise_cons]
      refine ⟨?_, h⟩
      intro y hy
      rcases List.mem_cons.1 hy with rfl | hy
      · omega
      · have := h.1 y hy; omega
    · rw [List.pairwise_cons]
      refine ⟨?_, ins_sorted n l h.2 hn.2⟩
      intro y hy
      rcases List.mem_cons.1 ((ins_perm n l).mem_iff.1 hy) with rfl | hy
      · omega
      · exact h.1 y hy
theorem sorted_nodup {l : List Int} (h : l.Pairwise (· < ·)) : l.Nodup := h.imp (fun h => by omega)
end Go.MemF

namespace Go.Proofs.Ytpobpijjpbggoaa
open Go.RowKit Go.Ten

theorem ownBlock_any (p : Option Addr) (n c n' c' : Nat) : (Value.slice p n c).ownBlock = (Value.slice p n' c').ownBlock := by cases p <;> rfl
/-- The pool at b holds the rising numbers S; its blocks are F. -/
structure PoolAt (w : World) (b : Nat) (most : Int) (S : List Int) (F : List Nat) : Prop where
  ex : ∃ mb p c m l, PoolR w b mb most p c m l ∧ HeapI0 l.length l ∧ List.Perm l S ∧ F = b :: mb :: (Value.slice p l.length c).ownBlock.toList
  rises : S.Pairwise (· < ·)
  lt : ∀ k ∈ F, k < w.heap.size
  nodup : F.Nodup
theorem PoolAt.mem {w : World} {b : Nat} {most : Int} {S : List Int} {F : List Nat} (h : PoolAt w b most S F) : b ∈ F := by
  obtain ⟨⟨mb, p, c, m, l, h1, h2, h3, rfl⟩, _, _, _⟩ := h
  exact List.mem_cons_self ..
theorem PoolR.upd {X : Nat → Prop} {w w' : World} (hu : Upd X w w') {b mb : Nat} {most : Int} {p : Option Addr} {c : Nat} {m : List (Int × Value)} {l : List Int} (h : PoolR w b mb most p c m l)
    (hx : ∀ k, k = b ∨ k = mb ∨ (Value.slice p l.length c).ownBlock = some k → ¬ X k) : PoolR w' b mb most p c m l :=
  ⟨hu.blk (hx b (.inl rfl)) h.blk, hu.owns h.own (fun k hk => hx k (.inr (.inr hk))), h.map.upd hu (hx mb (.inr (.inl rfl))), h.vals, h.keys, h.nodup, h.few, h.ne1, h.ne2, h.ne3⟩
theorem PoolAt.upd {X : Nat → Prop} {w w' : World} (hu : Upd X w w') {b : Nat} {most : Int} {S : List Int} {F : List Nat} (h : PoolAt w b most S F) (hx : ∀ k ∈ F, ¬ X k) : PoolAt w' b most S F := by
  obtain ⟨⟨mb, p, c, m, l, h1, h2, h3, rfl⟩, h4, h5, h6⟩ := h
  refine ⟨⟨mb, p, c, m, l, h1.upd hu ?_, h2, h3, rfl⟩, h4, fun k hk => Nat.lt_of_lt_of_le (h5 k hk) hu.size, h6⟩
  rintro k (rfl | rfl | hk)
  · exact hx _ (by simp)
  · exact hx _ (by simp)
  · exact hx _ (by simp [hk])

theorem pool_new (most : Int) (w : World) (h0 : 0 ≤ most) (h1 : most ≤ 65535) :
    Calls Try.prog 62 #[.int .i64 most] w fun e w' => ∃ b F, e = .returned (.tuple #[.pointer (some ⟨b, 0, none⟩), .int .i64 0]) ∧ PoolAt w' b most [] F ∧ (∀ k ∈ F, w.heap.size ≤ k) ∧ Below w.heap.size w w' := by
  refine (pool_new_calls most w h0 h1).mono ?_
  rintro e w' ⟨b, mb, rfl, hR, hb, hmb, hB⟩
  refine ⟨b, [b, mb], rfl, ⟨⟨mb, none, 0, [], [], hR, by intro i h0 h1; simp at h1, List.Perm.refl _, rfl⟩, List.Pairwise.nil, ?_, ?_⟩, ?_, hB⟩
  · intro k hk
    simp at hk
    rcases hk with rfl | rfl
    · exact hR.blk.lt
    · exact hR.map.lt
  · simp; exact fun e => hR.ne3 e.symm
  · intro k hk
    simp at hk
    rcases hk with rfl | rfl <;> assumption

theorem pool_len (b : Nat) (most : Int) (S : List Int) (F : List Nat) (w : World) (h : PoolAt w b most S F) :
    Calls Try.prog 104 #[.pointer (some ⟨b, 0, none⟩)] w fun e w' => e = .returned (.int .i64 S.length) ∧ w = w' := by
  obtain ⟨⟨mb, p, c, m, l, h1, h2, h3, rfl⟩, h4, h5, h6⟩ := h
  have := len_calls b mb most p c m l w h1
  rw [h3.length_eq] at this
  exact this

theorem pool_put (b : Nat) (most : Int) (S : List Int) (F : List Nat) (n : Int) (w : World) (h : PoolAt w b most S F) (h0 : 0 ≤ n) (h1 : n < most) (h2 : n ∉ S) (h3 : S.length + 1 < 65536) :
    Calls Try.prog 63 #[.pointer (some ⟨b, 0, none⟩), .int .i64 n] w fun e w' => e = .returned (.bool true) ∧ ∃ F', PoolAt w' b most (MemF.ins n S) F' ∧ (∀ k ∈ F', k ∈ F ∨ w.heap.size ≤ k) ∧ Upd (fun k => k ∈ F) w w' := by
  obtain ⟨⟨mb, p, c, m, l, hR, hH, hP, rfl⟩, h4, h5, h6⟩ := h
  refine (put_calls b mb most p c m l n w hR h0 h1 (fun hh => h2 (hP.mem_iff.1 hh)) (by rw [hP.length_eq]; exact h3)).mono ?_
  rintro e w' ⟨rfl, p', c', m', l', hR', hP', hH', hp', hu⟩
  refine ⟨rfl, b :: mb :: (Value.slice p' l'.length c').ownBlock.toList, ⟨⟨mb, p', c', m', l', hR', hH' hH, ?_, rfl⟩, ?_, ?_, ?_⟩, ?_, ?_⟩
  · exact (hP'.trans (hP.cons n)).trans (MemF.ins_perm n S).symm
  · exact MemF.ins_sorted n S h4 h2
  · intro k hk
    simp only [List.mem_cons, Option.mem_toList] at hk
    rcases hk with rfl | rfl | hk
    · exact hR'.blk.lt
    · exact hR'.map.lt
    · obtain ⟨_, h7 | ⟨g, cap, cur, hv, _, hh, _⟩⟩ := hR'.own
      · rw [h7.1] at hk; simp [Value.ownBlock] at hk
      · rw [hv] at hk; simp [Value.ownBlock] at hk; subst hk
        exact (Array.getElem?_eq_some_iff.1 hh).1
  · have n1 := hR'.ne1
    have n2 := hR'.ne2
    have n3 := hR'.ne3
    cases ho : (Value.slice p' l'.length c').ownBlock with
    | none => simp; exact fun e => n3 e.symm
    | some k =>
      rw [ho] at n1 n2
      simp at n1 n2 ⊢
      exact ⟨⟨fun e => n3 e.symm, fun e => n1 e.symm⟩, fun e => n2 e.symm⟩
  · intro k hk
    simp only [List.mem_cons, Option.mem_toList] at hk ⊢
    rcases hk with rfl | rfl | hk
    · exact .inl (.inl rfl)
    · exact .inl (.inr (.inl rfl))
    · rcases hp' with rfl | ⟨g, rfl, hg⟩
      · refine .inl (.inr (.inr ?_))
        rw [← hk]; exact ownBlock_any _ _ _ _ _
      · refine .inr ?_
        simp [Value.ownBlock] at hk; omega
  · refine hu.mono ?_
    rintro k _ (rfl | rfl | hk)
    · simp
    · simp
    · simp [← hk]

theorem pool_take (b : Nat) (most : Int) (x : Int) (S : List Int) (F : List Nat) (w : World) (h : PoolAt w b most (x :: S) F) :
    Calls Try.prog 66 #[.pointer (some ⟨b, 0, none⟩)] w fun e w' => e = .returned (.tuple #[.int .i64 x, .bool true]) ∧ PoolAt w' b most S F ∧ Upd (fun k => k ∈ F) w w' := by
  obtain ⟨⟨mb, p, c, m, l, hR, hH, hP, rfl⟩, h4, h5, h6⟩ := h
  have hne : l ≠ [] := by intro e; subst e; have := hP.length_eq; simp at this
  refine (take_calls b mb most p c m l w hR hne).mono ?_
  rintro e w' ⟨y, m', l', rfl, hR', hP', hH', hu⟩
  obtain ⟨hmin, hH2⟩ := hH' hH
  rw [List.pairwise_cons] at h4
  have hxy : y = x := by
    have h7 : x ∈ y :: l' := hP'.mem_iff.2 (hP.mem_iff.2 (by simp))
    have h8 : y ∈ x :: S := hP.mem_iff.1 (hP'.mem_iff.1 (by simp))
    rcases List.mem_cons.1 h7 with e | h7
    · exact e.symm
    · rcases List.mem_cons.1 h8 with e | h8
      · exact e
      · have := hmin x h7; have := h4.1 y h8; omega
  subst hxy
  have hlen : l'.length + 1 = l.length := by have := hP'.length_eq; simpa using this
  have hob : (Value.slice p l'.length c).ownBlock = (Value.slice p l.length c).ownBlock := ownBlock_any _ _ _ _ _
  refine ⟨rfl, ⟨⟨mb, p, c, m', l', hR', hH2, (List.perm_cons y).1 (hP'.trans hP), by rw [hob]⟩, h4.2, fun k hk => Nat.lt_of_lt_of_le (h5 k hk) hu.size, h6⟩, ?_⟩
  refine hu.mono ?_
  rintro k _ (rfl | rfl | hk)
  · simp
  · simp
  · simp [← hk]

set_option maxRecDepth 100000 in
set_option maxHeartbeats 400000 in
theorem pool_take_none (b : Nat) (most : Int) (F : List Nat) (w : World) (h : PoolAt w b most [] F) :
    Calls Try.prog 66 #[.pointer (some ⟨b, 0, none⟩)] w fun e w' => e = .returned (.tuple #[.int .i64 0, .bool false]) ∧ w = w' := by
  obtain ⟨⟨mb, p, c, m, l, h1, h2, h3, rfl⟩, h4, h5, h6⟩ := h
  have : l = [] := by simpa using h3
  subst this
  have hc := h1.blk.cell
  clear h1 h2 h3 h4 h5 h6
  go_enter Try.func66, Try.ntmps66
  go_wp2
  go_ret2
  exact ⟨rfl, rfl⟩
end Go.Proofs.Ytpobpijjpbggoaa
