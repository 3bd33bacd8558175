/- package pool: container/heap.Pop over its numbers: one of them goes, the others stay. -/
import Derived.Test.YtpobpijjpbggoaaPool
import Derived.Test.YtpobpijjpbggoaaHeapOrder
set_option linter.unusedSimpArgs false
set_option linter.unusedVariables false
namespace Go.Proofs.Ytpobpijjpbggoaa
open Go.RowKit Go.Ten

theorem pushed_perm (xs : List Int) (x : Int) : (pushed xs x).Perm (x :: xs) := by
  unfold pushed
  refine (HeapFns.up_perm _ _ _ _ (by simp)).trans ?_
  exact List.perm_append_singleton x xs

/-- The least stands first. -/
abbrev HeapI0 (n : Nat) (xs : List Int) : Prop := HeapFns.Heap (fun x : Int => x) n xs
theorem down_fix (lt : Int → Int → Bool) (n k : Nat) (hk : n ≤ k) : ∀ (f : Nat) (xs : List Int) (i : Nat), n ≤ xs.length → (HeapFns.down lt f xs i n).1[k]! = xs[k]!
  | 0, _, _, _ => rfl
  | f + 1, xs, i, hn => by
    rw [HeapFns.down]
    split
    · rfl
    · dsimp only
      have hc : (if 2 * i + 2 < n ∧ lt xs[2 * i + 2]! xs[2 * i + 1]! = true then 2 * i + 2 else 2 * i + 1) < n := by split <;> omega
      have hc2 : i < (if 2 * i + 2 < n ∧ lt xs[2 * i + 2]! xs[2 * i + 1]! = true then 2 * i + 2 else 2 * i + 1) := by split <;> omega
      generalize (if 2 * i + 2 < n ∧ lt xs[2 * i + 2]! xs[2 * i + 1]! = true then 2 * i + 2 else 2 * i + 1) = c at *
      split
      · rw [down_fix lt n k hk f _ _ (by rw [HeapFns.sw_length]; exact hn), HeapFns.sw_get xs (by omega) (by omega), if_neg (by omega), if_neg (by omega)]
      · rfl
theorem take_get (xs : List Int) (n i : Nat) (h : i < n) : (xs.take n)[i]! = xs[i]! := by
  simp only [List.getElem!_eq_getElem?_getD]
  rw [List.getElem?_take_of_lt h]
theorem heapI_take {n : Nat} {xs : List Int} (h : HeapI0 n xs) : HeapI0 n (xs.take n) := by
  intro i h0 h1
  rw [take_get _ _ _ (by omega), take_get _ _ _ h1]
  exact h i h0 h1
theorem heapI_min {n : Nat} {xs : List Int} (h : HeapI0 n xs) (hl : xs.length = n) : ∀ j ∈ xs, xs[0]! ≤ j := by
  intro j hj
  obtain ⟨i, hi, rfl⟩ := List.getElem_of_mem hj
  have := HeapFns.heap_min h i (by omega)
  simpa [hi] using this
theorem pushed_heap (xs : List Int) (x : Int) (h : HeapI0 xs.length xs) : HeapI0 (pushed xs x).length (pushed xs x) := by
  have hl : (pushed xs x).length = xs.length + 1 := by unfold pushed; rw [HeapFns.up_length]; simp
  rw [hl]
  have hg : ∀ i, i < xs.length → (xs ++ [x])[i]! = xs[i]! := by
    intro i hi
    simp only [List.getElem!_eq_getElem?_getD]
    rw [List.getElem?_append_left hi]
  refine HeapFns.up_heap (fun x : Int => x) (xs.length + 1) (xs.length + 1) (xs ++ [x]) xs.length (by omega) (by omega) (by simp) ?_ ?_
  · intro i h0 h1 h2
    rw [hg _ (by omega), hg _ (by omega)]
    exact h i h0 (by omega)
  · intro i h0 h1 h2 h3
    omega
theorem popped_heap (n : Nat) (xs : List Int) (hl : xs.length = n + 1) (h : HeapI0 (n + 1) xs) :
    (HeapFns.down (fun a b : Int => decide (a < b)) (n + 1) (HeapFns.sw xs 0 n) 0 n).1[n]! = xs[0]! ∧ HeapI0 n (HeapFns.down (fun a b : Int => decide (a < b)) (n + 1) (HeapFns.sw xs 0 n) 0 n).1 := by
  have hg := HeapFns.sw_get xs (i := 0) (j := n) (by omega) (by omega)
  constructor
  · rw [down_fix _ n n (Nat.le_refl _) _ _ _ (by rw [HeapFns.sw_length]; omega), hg, if_pos rfl]
  · refine HeapFns.down_heap (fun x : Int => x) n (n + 1) _ 0 (by omega) (by rw [HeapFns.sw_length]; omega) ?_ ?_
    · intro i h0 h1 h2
      rw [hg, hg, if_neg (by omega), if_neg (by omega), if_neg (by omega), if_neg (by omega)]
      exact h i h0 (by omega)
    · intro i h0 h1 h2 h3
      omega

set_option maxRecDepth 100000 in
set_option maxHeartbeats 1000000 in
theorem heap_pop (b : Nat) (c0 c2 : Value) (g n c : Nat) (xs : List Int) (w : World) (h : Blk w b [c0, .slice (some ⟨g, 0, none⟩) (n + 1) c, c2] 161)
    (ho : w.ownsRow 0 3 1 (.slice (some ⟨g, 0, none⟩) (n + 1) c) (n + 1) (xs.map (Value.int .i64))) (hgb : g ≠ b) (hn : n < 65536) :
    Calls Try.prog 94 #[.iface 163 (.pointer (some ⟨b, 1, none⟩))] w fun e w' => ∃ x ys, e = .returned (.iface 3 (.int .i64 x)) ∧ List.Perm (x :: ys) xs ∧
      Blk w' b [c0, .slice (some ⟨g, 0, none⟩) n c, c2] 161 ∧ w'.ownsRow 0 3 1 (.slice (some ⟨g, 0, none⟩) n c) n (ys.map (Value.int .i64)) ∧ Upd (fun k => k = b ∨ k = g) w w' ∧ (HeapI0 (n + 1) xs → (∀ j ∈ ys, x ≤ j) ∧ HeapI0 n ys) := by
  obtain ⟨hi1, hl1, hnc, rest, hr1, hrl⟩ := ints_of_owns ho
  have hord := Lib.hid (popped_heap n xs hl1)
  have hmax : c ≤ maxLen := by
    obtain ⟨_, h2 | ⟨g', cap, cur, hv, _, _, _, hm, _⟩⟩ := ho
    · simp at h2
    · simp only [Value.slice.injEq] at hv; omega
  replace hmax := Lib.hid hmax
  replace ho := Lib.hid ho
  have hcell1 : w.cell? ⟨b, 1, none⟩ = some (.slice (some ⟨g, 0, none⟩) (n + 1) c) := by rw [h.cell]; rfl
  have hm1 := fun m => least_run m w ⟨b, 1, none⟩ "Len" _ (fun w => least_method_Len m w _) _ hcell1
  have hm2 := fun m => least_run m w ⟨b, 1, none⟩ "Swap" _ (fun w => least_method_Swap m w _) _ hcell1
  have hcl := callFunc_Len
  have hcs := callFunc_Swap
  have hcp := callFunc_Pop
  have hm3 := fun m (w : World) (a : Addr) => least_method_Pop m w a
  go_enter Try.func94, Try.ntmps94
  go_wp2_with fail
  refine (least_len _ _ _ _).mono ?_
  rintro e w2 ⟨rfl, rfl⟩
  go_wp2_with fail
  have hswap := (leastI w b c0 c2 g (n + 1) c).swap w xs ⟨⟨h, hi1, hl1, hgb⟩, Upd.refl _ _⟩
  obtain ⟨r, hr, hsw⟩ := hswap
  have hr0 := (hr 0).symm.trans (hm2 0)
  simp only [Result.ok.injEq, Prod.mk.injEq, and_true] at hr0
  obtain ⟨_, rfl⟩ := hr0
  replace hr := Lib.hid hr
  have hsw1 := hsw 0 n (by omega) (by omega)
  clear hsw
  refine (calls_at hsw1 (by simp)).mono ?_
  rintro e w2 ⟨rfl, hL2, hu2⟩
  clear hsw1 hm1 hm2
  have hswl : (HeapFns.sw xs 0 n).length = n + 1 := by rw [HeapFns.sw_length, hl1]
  have hdown := heap_down (leastI w b c0 c2 g (n + 1) c) w2 (HeapFns.sw xs 0 n) 0 n ⟨hL2, hu2⟩ (by omega) (by omega) (by omega)
  have hperm : (HeapFns.down (fun a b : Int => decide (a < b)) (n + 1) (HeapFns.sw xs 0 n) 0 n).1.Perm xs :=
    (HeapFns.down_perm _ n _ _ _ (by omega)).trans (HeapFns.sw_perm xs (by omega) (by omega))
  have hlen3 : (HeapFns.down (fun a b : Int => decide (a < b)) (n + 1) (HeapFns.sw xs 0 n) 0 n).1.length = n + 1 := by rw [HeapFns.down_length, hswl]
  replace hord := hord.out
  generalize (HeapFns.down (fun a b : Int => decide (a < b)) (n + 1) (HeapFns.sw xs 0 n) 0 n) = D at *
  obtain ⟨ys, m⟩ := D
  simp only at hdown hperm hlen3 hord
  replace hord := Lib.hid hord
  replace hl1 := Lib.hid hl1
  replace hswl := Lib.hid hswl
  replace hperm := Lib.hid hperm
  go_wp2_with fail
  refine (calls_at hdown (by simp)).mono ?_
  rintro e w3 ⟨rfl, hL3, hu3⟩
  have hx := hL3.ints.cell (i := n) (by omega)
  obtain ⟨x0, hx0⟩ : ∃ x0, ys[n]! = x0 := ⟨_, rfl⟩
  rw [hx0] at hx
  have hpop := least_pop b c0 c2 g n c x0 w3 hL3.blk hx (by omega) hnc
  replace hx0 := Lib.hid hx0
  clear hdown
  replace hL3 := Lib.hid hL3
  replace hlen3 := Lib.hid hlen3
  go_wp2_with fail
  refine hpop.mono ?_
  rintro e w4 ⟨rfl, rfl⟩
  go_wp2_with fail
  go_ret
  obtain ⟨rest3, hr3, hr4⟩ := hL3.out.ints
  have hl3 := hlen3.out
  have hx1 := hx0.out
  have hsplit : ys = ys.take n ++ [x0] := by
    rw [← hx1]
    have h1 : ys.take (n + 1) = ys.take n ++ [ys[n]] := List.take_succ_eq_append_getElem (by omega)
    rw [List.take_of_length_le (by omega)] at h1
    have h2 : ys[n]! = ys[n] := by simp [show n < ys.length by omega]
    rw [h2]; exact h1
  have htl : (ys.take n).length = n := by simp; omega
  refine ⟨x0, ys.take n, rfl, ?_, hL3.out.blk.setCell 1 _, ?_, hu3.setCell (p := ⟨b, 1, none⟩) (.inl (.inl rfl)) _, ?_⟩
  · refine List.Perm.trans ?_ hperm.out
    have h3 := (List.perm_append_singleton x0 (ys.take n)).symm
    rw [← hsplit] at h3
    exact h3
  · refine owns_of_ints (rest := .int .i64 x0 :: rest3) ?_ htl (by simp; omega) hmax.out
    have h5 : Blk w3 g ((ys.take n).map (Value.int .i64) ++ (.int .i64 x0 :: rest3)) 3 := by
      have h6 := hr3
      rw [hsplit, List.map_append, List.append_assoc] at h6
      simpa [htl] using h6
    exact h5.setCell_ne (p := ⟨b, 1, none⟩) (by show b ≠ g; omega) _
  · intro hh
    obtain ⟨h7, h8⟩ := hord.out hh
    rw [hx1] at h7
    refine ⟨fun j hj => ?_, heapI_take h8⟩
    rw [h7]
    refine heapI_min hh hl1.out j ?_
    exact hperm.out.mem_iff.1 (List.mem_of_mem_take hj)
end Go.Proofs.Ytpobpijjpbggoaa
