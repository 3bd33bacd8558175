/- Plain laws: what an access leaves is a memory that may be. -/
import Derived.Test.YtpobpijjpbggoaaArenaNew
set_option linter.unusedVariables false
namespace Go.MemF
open Go.Ten

theorem size_pos' (c : Int) (h0 : 0 ≤ c) (h1 : c < 5) : 8 ≤ size c := by
  unfold size
  split; omega
  split; omega
  split; omega
  split; omega
  split <;> omega
theorem mem_set {α : Type} {l : List α} {i : Nat} {x y : α} (h : y ∈ l.set i x) : y ∈ l ∨ y = x := List.mem_or_eq_of_mem_set h
theorem fill_length (c : Int) (ws : List Int) (h : ws.length ≤ size c) : (fill c ws).length = size c := by unfold fill; simp; omega
theorem fill_word (c : Int) (ws : List Int) (h : ∀ x ∈ ws, 0 ≤ x ∧ x < 18446744073709551616) : ∀ x ∈ fill c ws, 0 ≤ x ∧ x < 18446744073709551616 := by
  intro x hx
  unfold fill at hx
  rcases List.mem_append.1 hx with hx | hx
  · exact h x hx
  · rw [(List.mem_replicate.1 hx).2]; omega
theorem poison_word (c : Int) : ∀ x ∈ poison c, 0 ≤ x ∧ x < 18446744073709551616 := by
  intro x hx
  unfold poison at hx
  rw [(List.mem_replicate.1 hx).2]; unfold poisonWord; omega
theorem poison_length (c : Int) : (poison c).length = size c := by unfold poison; simp

theorem ArOk.setWords {A : Ar} (h : ArOk A) (i : Nat) (hi : i < A.slots.length) (ws : List Int) (hl : ws.length = size (A.slots[i]!).cls) (hw : ∀ x ∈ ws, 0 ≤ x ∧ x < 18446744073709551616) : ArOk (A.setSlot i { A.slots[i]! with words := ws }) := by
  have hm := get!_mem A.slots i hi
  refine ⟨h.five, by simp only [Ar.setSlot, List.length_set]; exact h.some, by simp only [Ar.setSlot, List.length_set]; exact h.few, ?_, ?_, ?_, ?_, ?_, h.rises⟩
  · intro s hs
    rcases mem_set hs with hs | rfl
    · exact h.cls s hs
    · have h9 := h.cls _ hm; exact h9
  · intro s hs
    rcases mem_set hs with hs | rfl
    · exact h.gen s hs
    · have h9 := h.gen _ hm; exact h9
  · intro s hs
    rcases mem_set hs with hs | rfl
    · exact h.words s hs
    · exact hl
  · intro s hs
    rcases mem_set hs with hs | rfl
    · exact h.word s hs
    · exact hw
  · intro c hc n hn
    have h1 := h.free c hc n hn
    simp only [Ar.setSlot, List.length_set]
    rw [get_set! _ _ _ _ hi]
    split
    · rename_i e; rw [e] at h1; exact h1
    · exact h1

theorem ArOk.store {A : Ar} (h : ArOk A) (r : Int) (ws : List Int) (hw : ∀ x ∈ ws, 0 ≤ x ∧ x < 18446744073709551616) : ArOk (A.store r ws).1 := by
  unfold Ar.store
  simp only
  split
  · exact h
  · rename_i h0
    have ho := of_ok (A := A) (r := r) (by simpa using h0)
    split
    · exact h
    · rename_i h1
      have := h.words _ (get!_mem A.slots _ ho.1)
      exact h.setWords _ ho.1 _ (fill_length _ _ (by omega)) (fill_word _ _ hw)
theorem ArOk.swap {A : Ar} (h : ArOk A) (r was : Int) (ws : List Int) (hw : ∀ x ∈ ws, 0 ≤ x ∧ x < 18446744073709551616) : ArOk (A.swap r was ws).1 := by
  unfold Ar.swap
  simp only
  split
  · exact h
  · rename_i h0
    have ho := of_ok (A := A) (r := r) (by simpa using h0)
    split
    · exact h
    · rename_i h1
      have := h.words _ (get!_mem A.slots _ ho.1)
      split
      · exact h
      · exact h.setWords _ ho.1 _ (fill_length _ _ (by omega)) (fill_word _ _ hw)
theorem ArOk.alloc {A : Ar} (h : ArOk A) (c : Int) (ws : List Int) (hw : ∀ x ∈ ws, 0 ≤ x ∧ x < 18446744073709551616) : ArOk (A.alloc c ws).1 := by
  unfold Ar.alloc
  split
  · exact h
  · rename_i hc
    obtain ⟨n, rfl⟩ := Int.eq_ofNat_of_zero_le (show 0 ≤ c by omega)
    have hn : n < 5 := by omega
    rw [Int.toNat_natCast]
    split
    · exact h
    · rename_i x l hf
      obtain ⟨h1, h2, h3, h4, h5⟩ := h.free n hn x (by rw [hf]; simp)
      have hi : x.toNat < A.slots.length := by omega
      have hm := get!_mem A.slots _ hi
      have hfl : n < A.free.length := by rw [h.five]; exact hn
      have hr := h.rises n hn
      rw [hf, List.pairwise_cons] at hr
      simp only
      refine ⟨by simp only [List.length_set]; exact h.five, by simp only [List.length_set]; exact h.some, by simp only [List.length_set]; exact h.few, ?_, ?_, ?_, ?_, ?_, ?_⟩
      · intro s hs
        rcases mem_set hs with hs | rfl
        · exact h.cls s hs
        · have h9 := h.cls _ hm; exact h9
      · intro s hs
        rcases mem_set hs with hs | rfl
        · exact h.gen s hs
        · have h9 := h.gen _ hm; exact h9
      · intro s hs
        rcases mem_set hs with hs | rfl
        · exact h.words s hs
        · exact fill_length _ _ (by rw [h3]; omega)
      · intro s hs
        rcases mem_set hs with hs | rfl
        · exact h.word s hs
        · exact fill_word _ _ hw
      · intro d hd y hy
        simp only at hy
        rw [get_set! _ _ _ _ hfl] at hy
        simp only [List.length_set]
        rw [get_set! _ _ _ _ hi]
        have key : y ∈ A.free[d]! ∧ y.toNat ≠ x.toNat := by
          split at hy
          · rename_i e; subst e
            refine ⟨by rw [hf]; simp [hy], ?_⟩
            have := hr.1 y hy
            have := (h.free d hd y (by rw [hf]; simp [hy])).1
            omega
          · rename_i e
            refine ⟨hy, fun e2 => e ?_⟩
            have := (h.free d hd y hy).2.2.1
            rw [e2, h3] at this
            omega
        rw [if_neg key.2]
        exact h.free d hd y key.1
      · intro d hd
        simp only
        rw [get_set! _ _ _ _ hfl]
        split
        · exact hr.2
        · exact h.rises d hd
theorem ArOk.freeSlot {A : Ar} (h : ArOk A) (r : Int) : ArOk (A.freeSlot r).1 := by
  unfold Ar.freeSlot
  simp only
  split
  · exact h
  · rename_i h0
    obtain ⟨hi, hlive, hok, hpi, hgen, -⟩ := of_ok (A := A) (r := r) (by simpa using h0)
    generalize (A.of r).2 = i at *
    have hm := get!_mem A.slots i hi
    have hp := parts_some (show parts r = ((parts r).1, (parts r).2.1, (parts r).2.2.1, true) by rw [← hok])
    have hcl := h.cls _ hm
    obtain ⟨c, hc⟩ := Int.eq_ofNat_of_zero_le hcl.1
    have hc5 : c < 5 := by omega
    have hfl : c < A.free.length := by rw [h.five]; exact hc5
    rw [hc, Int.toNat_natCast]
    have hni : (i : Int) ∉ A.free[c]! := by
      intro hh
      have := (h.free c hc5 _ hh).2.2.2.1
      rw [Int.toNat_natCast, hlive] at this
      cases this
    have hne : ∀ d, d < 5 → ∀ y ∈ A.free[d]!, y.toNat ≠ i := by
      intro d hd y hy e
      have := (h.free d hd y hy).2.2.2.1
      rw [e, hlive] at this
      cases this
    refine ⟨?_, by simp only [List.length_set]; exact h.some, by simp only [List.length_set]; exact h.few, ?_, ?_, ?_, ?_, ?_, ?_⟩
    · simp only
      split
      · simp only [List.length_set]; exact h.five
      · exact h.five
    · intro s hs
      rcases mem_set hs with hs | rfl
      · exact h.cls s hs
      · simp only; omega
    · intro s hs
      rcases mem_set hs with hs | rfl
      · exact h.gen s hs
      · have := h.gen _ hm
        simp only; omega
    · intro s hs
      rcases mem_set hs with hs | rfl
      · exact h.words s hs
      · exact poison_length _
    · intro s hs
      rcases mem_set hs with hs | rfl
      · exact h.word s hs
      · exact poison_word _
    · intro d hd y hy
      simp only at hy
      simp only [List.length_set]
      rw [get_set! _ _ _ _ hi]
      split at hy
      · rename_i hg
        rw [get_set! _ _ _ _ hfl] at hy
        split at hy
        · rename_i e; subst e
          rcases List.mem_cons.1 ((ins_perm _ _).mem_iff.1 hy) with rfl | hy
          · rw [if_pos (by simp)]
            exact ⟨by omega, by omega, rfl, rfl, hg⟩
          · rw [if_neg (hne d hd y hy)]
            exact h.free d hd y hy
        · rw [if_neg (hne d hd y hy)]
          exact h.free d hd y hy
      · rw [if_neg (hne d hd y hy)]
        exact h.free d hd y hy
    · intro d hd
      simp only
      split
      · rw [get_set! _ _ _ _ hfl]
        split
        · exact ins_sorted _ _ (h.rises c hc5) hni
        · exact h.rises d hd
      · exact h.rises d hd

theorem EpOk.setC {E : Ep} (h : EpOk E) (c : Int) (x : Client) (hp : -1 ≤ x.pin ∧ x.pin ≤ E.now) (hl : (x.limbo.length : Int) ≤ E.room) (ha : ∀ y ∈ x.limbo, 0 ≤ y.2 ∧ y.2 ≤ E.now) : EpOk (E.setC c x) := by
  refine ⟨h.now, h.room, by simp only [Ep.setC, List.length_set]; exact h.few, ?_, ?_, ?_⟩
  · intro y hy
    rcases mem_set hy with hy | rfl
    · exact h.pin y hy
    · exact hp
  · intro y hy
    rcases mem_set hy with hy | rfl
    · exact h.limbo y hy
    · exact hl
  · intro y hy
    rcases mem_set hy with hy | rfl
    · exact h.at_ y hy
    · exact ha
theorem EpOk.doPin {E : Ep} (h : EpOk E) (c n : Int) : EpOk (E.pin c n).1 := by
  unfold Ep.pin
  split
  · exact h
  · have hm := get!_mem E.clients c.toNat (by omega)
    exact h.setC c _ ⟨by simp only; omega, by simp only; omega⟩ (by have h9 := h.limbo _ hm; exact h9) (by have h9 := h.at_ _ hm; exact h9)
theorem EpOk.doUnpin {E : Ep} (h : EpOk E) (c : Int) : EpOk (E.unpin c).1 := by
  unfold Ep.unpin
  split
  · exact h
  · have hm := get!_mem E.clients c.toNat (by omega)
    exact h.setC c _ ⟨by simp only; omega, by have := h.now; simp only; omega⟩ (by have h9 := h.limbo _ hm; exact h9) (by have h9 := h.at_ _ hm; exact h9)
theorem EpOk.doAdvance {E : Ep} (h : EpOk E) (n : Int) : EpOk (E.advance n).1 := by
  unfold Ep.advance
  split
  · exact h
  · have hn := h.now
    refine ⟨by simp only; omega, h.room, h.few, fun x hx => ?_, h.limbo, fun x hx y hy => ?_⟩
    · have := h.pin x hx; simp only; omega
    · have := h.at_ x hx y hy; simp only; omega
theorem EpOk.doRetire {E : Ep} (h : EpOk E) (c r : Int) : EpOk (E.retire c r).1 := by
  unfold Ep.retire
  split
  · exact h
  · have hm := get!_mem E.clients c.toNat (by omega)
    simp only
    split
    · exact h
    · refine h.setC c _ (by have h9 := h.pin _ hm; exact h9) (by simp only [List.length_append, List.length_singleton]; omega) ?_
      intro y hy
      rcases List.mem_append.1 hy with hy | hy
      · exact h.at_ _ hm y hy
      · have e : y = (r, E.now) := by simpa using hy
        rw [e]; have := h.now; simp only; omega
theorem EpOk.doCollect {E : Ep} (h : EpOk E) (c : Int) : EpOk (E.collect c).1 := by
  unfold Ep.collect
  split
  · exact h
  · have hm := get!_mem E.clients c.toNat (by omega)
    simp only
    split
    · exact h
    · rename_i r n l hl
      split
      · exact h
      · refine h.setC c _ (by have h9 := h.pin _ hm; exact h9) ?_ ?_
        · have := h.limbo _ hm
          rw [hl, List.length_cons] at this
          simp only; omega
        · intro y hy
          exact h.at_ _ hm y (by rw [hl]; simp [hy])
theorem setC_len (E : Ep) (c : Int) (x : Client) : (E.setC c x).clients.length = E.clients.length := by simp [Ep.setC]
theorem MemOk.do_ {M : Mem} (h : MemOk M) (c : Int) (a : Acc) (hw : ∀ x ∈ a.words, 0 ≤ x ∧ x < 18446744073709551616) : MemOk (M.do_ c a).1 := by
  have hc := h.clients
  unfold Mem.do_
  split
  · exact h
  split
  · unfold Mem.slots
    split
    · exact h
    split
    · exact ⟨h.ar.swap _ _ _ hw, h.ep, hc⟩
    split
    · exact ⟨h.ar.store _ _ hw, h.ep, hc⟩
    split
    · exact ⟨h.ar.alloc _ _ hw, h.ep, hc⟩
    split
    · split
      · exact h
      · exact ⟨h.ar.freeSlot _, h.ep, hc⟩
    · exact h
  split
  · split
    · exact h
    · refine ⟨h.ar, h.ep.doRetire _ _, ?_⟩
      simp only [Ep.retire]; split
      · exact hc
      · split
        · exact hc
        · rw [setC_len]; exact hc
  split
  · exact h
  split
  · refine ⟨h.ar, h.ep.doPin _ _, ?_⟩
    simp only [Ep.pin]; split
    · exact hc
    · rw [setC_len]; exact hc
  split
  · refine ⟨h.ar, h.ep.doUnpin _, ?_⟩
    simp only [Ep.unpin]; split
    · exact hc
    · rw [setC_len]; exact hc
  split
  · exact h
  split
  · refine ⟨h.ar, h.ep.doAdvance _, ?_⟩
    simp only [Ep.advance]; split <;> exact hc
  split
  · have hE := h.ep.doCollect c
    have hl : (M.ep.collect c).1.clients.length = M.ep.clients.length := by
      unfold Ep.collect
      split
      · rfl
      · simp only
        split
        · rfl
        · split
          · rfl
          · rw [setC_len]
    unfold Mem.collect
    simp only
    split
    · exact h
    · split
      · exact ⟨h.ar.freeSlot _, hE, by simp only [hl]; exact hc⟩
      · exact ⟨h.ar.freeSlot _, hE, by simp only [hl]; exact hc⟩
  split
  · unfold Mem.turn
    split
    · exact h
    split
    · exact ⟨h.ar, h.ep, hc⟩
    split
    · exact ⟨h.ar, h.ep, hc⟩
    · exact h
  · exact h
end Go.MemF
