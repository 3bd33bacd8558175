/- package arena: Load, Store, Swap, Live. -/
import Derived.Test.YtpobpijjpbggoaaArena2
set_option linter.unusedSimpArgs false
set_option linter.unusedVariables false
namespace Go.MemF
theorem of_ok {A : Ar} {r : Int} (h : (A.of r).1 = 0) : (A.of r).2 < A.slots.length ∧ A.slots[(A.of r).2]!.live = true ∧ (parts r).2.2.2 = true ∧ (A.of r).2 = (parts r).1.toNat ∧ A.slots[(A.of r).2]!.gen = (parts r).2.1 ∧ decide (A.slots[(A.of r).2]!.cls = 0) = (parts r).2.2.1 := by
  unfold Ar.of at h ⊢
  simp only at h ⊢
  split at h
  · simp at h
  · rename_i h1
    split at h
    · simp at h
    · rename_i h2
      split at h
      · simp at h
      · rename_i h3
        rw [if_neg h1, if_neg h2, if_neg h3]
        simp only [not_or, ne_eq, Classical.not_not, Bool.not_eq_false] at h1 h2 h3
        exact ⟨by have := h1.2.1; omega, h3, h1.1, rfl, h2, h1.2.2.symm⟩
theorem of_bad {A : Ar} {r : Int} (h : (A.of r).1 ≠ 0) : (A.of r).2 = 0 ∧ ((A.of r).1 = 1 ∨ (A.of r).1 = 3 ∨ (A.of r).1 = 4) := by
  unfold Ar.of at h ⊢
  simp only at h ⊢
  split
  · exact ⟨rfl, .inl rfl⟩
  · split
    · exact ⟨rfl, .inr (.inr rfl)⟩
    · split
      · exact ⟨rfl, .inr (.inl rfl)⟩
      · rename_i h1 h2 h3
        rw [if_neg h1, if_neg h2, if_neg h3] at h
        exact absurd rfl h
theorem sorted_len : ∀ (l : List Int) (lo hi : Int), l.Pairwise (· < ·) → (∀ x ∈ l, lo ≤ x ∧ x < hi) → lo ≤ hi → (l.length : Int) ≤ hi - lo
  | [], lo, hi, _, _, h => by simp; omega
  | x :: l, lo, hi, h, hb, _ => by
    rw [List.pairwise_cons] at h
    have hx := hb x (by simp)
    have := sorted_len l (x + 1) hi h.2 (fun y hy => ⟨by have := h.1 y hy; omega, (hb y (by simp [hy])).2⟩) (by omega)
    simp only [List.length_cons]
    omega
theorem ArOk.freeLen {A : Ar} (h : ArOk A) (c : Nat) (hc : c < 5) : ((A.free[c]!).length : Int) ≤ A.slots.length := by
  have := sorted_len _ 0 A.slots.length (h.rises c hc) (fun x hx => ⟨(h.free c hc x hx).1, (h.free c hc x hx).2.1⟩) (by omega)
  omega
theorem room_bound {A : Ar} (h : ArOk A) (c : Int) : 0 ≤ A.room c ∧ A.room c ≤ 1024 := by
  unfold Ar.room
  split
  · omega
  · have := h.freeLen c.toNat (by omega)
    have := h.few
    omega
def roomSum (A : Ar) : Nat → Int
  | 0 => 0
  | k + 1 => roomSum A k + A.room k
theorem roomSum_bound {A : Ar} (h : ArOk A) : ∀ k, 0 ≤ roomSum A k ∧ roomSum A k ≤ k * 1024
  | 0 => by simp [roomSum]
  | k + 1 => by
    have := roomSum_bound h k
    have := room_bound h k
    simp only [roomSum]
    omega
end Go.MemF
namespace Go.Proofs.Ytpobpijjpbggoaa
open Go.RowKit Go.Ten

/-- What a step of the arena leaves. -/
def ArenaStep (w : World) (a : Nat) (X : AW) (w' : World) (A' : MemF.Ar) : Prop := ∃ X', ArenaX w' a A' X' ∧ (∀ k, AM a X' k → AM a X k ∨ w.heap.size ≤ k) ∧ (∀ k, AF a X' k → AF a X k ∨ w.heap.size ≤ k) ∧ Upd (AM a X) w w'
theorem AM_vs {a : Nat} {X : AW} {vs : List Value} {k : Nat} : AM a { X with vs := vs } k ↔ AM a X k := Iff.rfl
theorem AF_set {a : Nat} {X : AW} {i : Nat} {u : Value} {n : Nat} (hu : ∀ k, u.ownBlock = some k → n ≤ k) {k : Nat} (h : AF a { X with vs := X.vs.set i u } k) : AF a X k ∨ n ≤ k := by
  rcases h with h | ⟨v, hv, hk⟩
  · exact .inl (.inl h)
  · rcases List.mem_or_eq_of_mem_set hv with hv | rfl
    · exact .inl (.inr ⟨v, hv, hk⟩)
    · exact .inr (hu k hk)
theorem ArenaStep.same {w : World} {a : Nat} {A : MemF.Ar} {X : AW} (h : ArenaX w a A X) : ArenaStep w a X w A := ⟨X, h, fun _ h => .inl h, fun _ h => .inl h, Upd.refl _ _⟩

set_option maxRecDepth 100000 in
set_option maxHeartbeats 1000000 in
theorem load_calls (a : Nat) (A : MemF.Ar) (X : AW) (r : Int) (w : World) (h : ArenaX w a A X) :
    Calls Try.prog 73 #[.pointer (some ⟨a, 0, none⟩), .int .i64 r] w fun e w' => ∃ v, e = .returned (.tuple #[v, .int .i64 (A.load r).2]) ∧ CellsR w' v (A.load r).1.length (u64s (A.load r).1) ∧ (∀ k, v.ownBlock = some k → w.heap.size ≤ k) ∧ Below w.heap.size w w' := by
  have hof := of_calls a A X r w h
  have hok := @MemF.of_ok A r
  have hload : A.load r = if (A.of r).1 ≠ 0 then ([], (A.of r).1) else (A.slots[(A.of r).2]!.words, 0) := rfl
  generalize A.of r = o at *
  obtain ⟨er, i⟩ := o
  simp only at hof hok hload
  by_cases h0 : er = 0
  · subst h0
    obtain ⟨hi, -⟩ := hok rfl
    rw [if_neg (by simp)] at hload
    rw [hload]
    rw [if_pos rfl] at hof
    clear hload hok
    have c3 := h.cell i 3 hi (by omega)
    simp only [slotC, List.getElem?_cons_zero, List.getElem?_cons_succ] at c3
    obtain ⟨hw, hpos⟩ := h.words i hi
    generalize X.vs[i]! = v0 at *
    generalize A.slots[i]!.words = ws at *
    have hcl := clone_u64_calls v0 ws.length ws w hw rfl hpos
    have hlen : ws.length ≤ 4294967296 := by obtain ⟨_, _, _, _, h, _⟩ := hw; exact h
    clear h hw hi
    go_enter Try.func73, Try.ntmps73
    go_wp2_with fail
    refine hof.mono ?_
    rintro e w' ⟨rfl, rfl⟩
    clear hof
    go_wp2_with fail
    refine hcl.mono ?_
    rintro e w1 ⟨g, c, rfl, hg, hown, hB⟩
    clear hcl
    replace hg := Lib.hid hg
    replace hlen := Lib.hid hlen
    replace hB := Lib.hid hB
    go_wp2_with fail
    go_ret2
    exact ⟨_, rfl, CellsR.of_owns hown hlen.out, fun k hk => by have := hg.out; simp [Value.ownBlock] at hk; omega, hB.out⟩
  · rw [if_pos h0] at hload
    rw [hload]
    rw [if_neg h0] at hof
    clear hload hok h
    have h1 : (er == 0) = false := by simpa using h0
    clear h0
    go_enter Try.func73, Try.ntmps73
    go_wp2_with fail
    refine hof.mono ?_
    rintro e w' ⟨rfl, rfl⟩
    clear hof
    go_wp2_with fail
    go_ret2
    exact ⟨_, rfl, CellsR.nil _, fun k hk => by simp [Value.ownBlock] at hk, Below.refl _ _⟩

set_option maxRecDepth 100000 in
set_option maxHeartbeats 1000000 in
theorem store_calls (a : Nat) (A : MemF.Ar) (X : AW) (r : Int) (v : Value) (ws : List Int) (w : World) (h : ArenaX w a A X) (hA : MemF.ArOk A) (hv : CellsR w v ws.length (u64s ws)) (hoff : ∀ k, v.ownBlock = some k → k ≠ X.gs) :
    Calls Try.prog 75 #[.pointer (some ⟨a, 0, none⟩), .int .i64 r, v] w fun e w' => e = .returned (.int .i64 (A.store r ws).2) ∧ ArenaStep w a X w' (A.store r ws).1 := by
  have hof := of_calls a A X r w h
  have hok := @MemF.of_ok A r
  have hst : A.store r ws = if (A.of r).1 ≠ 0 then (A, (A.of r).1) else if A.slots[(A.of r).2]!.words.length < ws.length then (A, 1) else (A.setSlot (A.of r).2 { A.slots[(A.of r).2]! with words := MemF.fill A.slots[(A.of r).2]!.cls ws }, 0) := rfl
  generalize A.of r = o at *
  obtain ⟨er, i⟩ := o
  simp only at hof hok hst
  by_cases h0 : er = 0
  · subst h0
    obtain ⟨hi, -⟩ := hok rfl
    rw [if_neg (by simp)] at hst
    rw [if_pos rfl] at hof
    clear hok
    have c3 := h.cell i 3 hi (by omega)
    simp only [slotC, List.getElem?_cons_zero, List.getElem?_cons_succ] at c3
    obtain ⟨hw, hpos⟩ := h.words i hi
    have hmem := get!_mem A.slots i hi
    have hwl := hA.words _ hmem
    have hcl := hA.cls _ hmem
    have h8 := size_pos _ hcl.1 hcl.2
    have hfill := fun (s : MemF.Slot) (hs : A.slots[i]! = s) (hl : ws.length ≤ MemF.size s.cls) => fill_calls a A X i s v ws w h hi hs hv hl (by rw [← hs]; exact h8) hoff
    obtain ⟨s, hs⟩ : ∃ s, A.slots[i]! = s := ⟨_, rfl⟩
    rw [hs] at hst hw hpos hwl hcl h8
    have hfill := hfill s hs
    generalize X.vs[i]! = v0 at *
    obtain ⟨p, c, rfl, -⟩ := id hw
    obtain ⟨p1, c1, hv1, -⟩ := id hv
    subst hv1
    obtain ⟨n, hn⟩ : ∃ n, s.words.length = n := ⟨_, rfl⟩
    obtain ⟨m, hm⟩ : ∃ m, ws.length = m := ⟨_, rfl⟩
    rw [hn] at c3 hst hwl
    rw [hm] at hst hfill ⊢
    have hX := Lib.hid h
    clear h hw hv hs hpos hoff hA hmem hcl h8
    by_cases h1 : n < m
    · rw [if_pos h1] at hst
      rw [hst]
      clear hst hfill hwl hm hn
      have h1' : (n : Int) < (m : Int) := by omega
      go_enter Try.func75, Try.ntmps75
      go_wp2_with fail
      refine hof.mono ?_
      rintro e w' ⟨rfl, rfl⟩
      clear hof
      go_wp2_with fail
      go_ret
      exact ⟨rfl, ArenaStep.same hX.out⟩
    · rw [if_neg h1] at hst
      rw [hst]
      have hfill := hfill (by omega)
      clear hst hwl hm hn
      have h1' : ¬ (n : Int) < (m : Int) := by omega
      clear h1
      go_enter Try.func75, Try.ntmps75
      go_wp2_with fail
      refine hof.mono ?_
      rintro e w' ⟨rfl, rfl⟩
      clear hof
      go_wp2_with fail
      refine hfill.mono ?_
      rintro e w1 ⟨rfl, u, hX1, hu, hup⟩
      clear hfill
      replace hX1 := Lib.hid hX1
      replace hu := Lib.hid hu
      replace hup := Lib.hid hup
      go_wp2_with fail
      go_ret
      exact ⟨rfl, _, hX1.out, fun k hk => .inl hk, fun k hk => AF_set hu.out hk, hup.out.mono fun k _ e => .inr (.inl e)⟩
  · rw [if_pos h0] at hst
    rw [hst]
    rw [if_neg h0] at hof
    have hX := Lib.hid h
    clear hst hok h hv hoff hA
    have h1 : (er == 0) = false := by simpa using h0
    clear h0
    go_enter Try.func75, Try.ntmps75
    go_wp2_with fail
    refine hof.mono ?_
    rintro e w' ⟨rfl, rfl⟩
    clear hof
    go_wp2_with fail
    go_ret
    exact ⟨rfl, ArenaStep.same hX.out⟩
end Go.Proofs.Ytpobpijjpbggoaa
