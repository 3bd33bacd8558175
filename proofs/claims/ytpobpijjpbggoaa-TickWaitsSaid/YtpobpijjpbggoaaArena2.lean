/- package arena: fill, of, Load, Store, Swap, Live. -/
import Derived.Test.YtpobpijjpbggoaaArena
set_option linter.unusedSimpArgs false
set_option linter.unusedVariables false
namespace Go.Proofs.Ytpobpijjpbggoaa
open Go.RowKit Go.Ten

theorem heap_size_setCell (w : World) (p : Addr) (v : Value) : (w.setCell p v).heap.size = w.heap.size := by simp [World.setCell]
theorem u64s_len (ws : List Int) : (u64s ws).length = ws.length := List.length_map ..
theorem fill_len (c : Int) (ws : List Int) (h : ws.length ≤ MemF.size c) : (MemF.fill c ws).length = MemF.size c := by unfold MemF.fill; simp; omega

set_option maxRecDepth 100000 in
set_option maxHeartbeats 400000 in
theorem fill_calls (a : Nat) (A : MemF.Ar) (X : AW) (i : Nat) (s : MemF.Slot) (v : Value) (ws : List Int) (w : World) (h : ArenaX w a A X) (hi : i < A.slots.length) (hs : A.slots[i]! = s) (hv : CellsR w v ws.length (u64s ws)) (hl : ws.length ≤ MemF.size s.cls) (h8 : 8 ≤ MemF.size s.cls) (hoff : ∀ k, v.ownBlock = some k → k ≠ X.gs) :
    Calls Try.prog 67 #[.pointer (some ⟨X.gs, i * 4, none⟩), v] w fun e w' => e = .returned (.tuple #[]) ∧ ∃ u, ArenaX w' a (A.setSlot i { s with words := MemF.fill s.cls ws }) { X with vs := X.vs.set i u } ∧
      (∀ k, u.ownBlock = some k → w.heap.size ≤ k) ∧ Upd (fun k => k = X.gs) w w' := by
  have c0 := h.cell i 0 hi (by omega)
  have c3 := h.cell i 3 hi (by omega)
  have hf := h.row.frozen
  have hlt := h.row.lt
  simp only [slotC, Nat.add_zero, List.getElem?_cons_zero, List.getElem?_cons_succ] at c0 c3
  have hX := Lib.hid h
  have hoff2 := Lib.hid hoff
  rw [hs] at c0
  generalize X.vs[i]! = v0 at c3
  have hs' := Lib.hid hs
  have hsz := size_calls s.cls
  have hle := size_le s.cls
  obtain ⟨n, hn⟩ : ∃ n, MemF.size s.cls = n := ⟨_, rfl⟩
  have hfl := fill_len s.cls ws hl
  rw [hn] at hsz hle hl h8 hfl
  replace hfl := Lib.hid hfl
  replace hn := Lib.hid hn
  have hmk := make_u64 n (by omega)
  obtain ⟨m, hm⟩ : ∃ m, ws.length = m := ⟨_, rfl⟩
  rw [hm] at hv hl
  have hv1 : CellsR ((w.setCell ⟨X.gs, i * 4 + 3, none⟩ (.slice (some ⟨w.heap.size, 0, none⟩) n n)).alloc (.cells (Array.replicate n (.int .u64 0)) 36)) v m (u64s ws) :=
    hv.upd (((Upd.refl (fun k => k = X.gs) w).setCell (p := ⟨X.gs, i * 4 + 3, none⟩) (.inl rfl) _).alloc _) fun k _ hk e => hoff k hk e
  have hb1 : Blk ((w.setCell ⟨X.gs, i * 4 + 3, none⟩ (.slice (some ⟨w.heap.size, 0, none⟩) n n)).alloc (.cells (Array.replicate n (.int .u64 0)) 36)) w.heap.size (List.replicate n (.int .u64 0)) 36 := by
    have h5 := Blk.new (w.setCell ⟨X.gs, i * 4 + 3, none⟩ (.slice (some ⟨w.heap.size, 0, none⟩) n n)) (List.replicate n (.int .u64 0)) 36
    rw [heap_size_setCell, List.toArray_replicate] at h5
    exact h5
  replace hv1 := Lib.hid hv1
  replace hb1 := Lib.hid hb1
  replace hm := Lib.hid hm
  clear hs h hoff hv
  go_enter Try.func67, Try.ntmps67
  go_wp2_with fail
  refine (hsz _).mono ?_
  rintro e w1 ⟨rfl, rfl⟩
  clear hsz
  go_wp2_with (refine wpl_copy _ (.tmp 16) (.tmp 17) 37 rfl rfl 36 Try.underlying37 info_u64s w.heap.size 0 n n rfl _ rfl m _ hv1.out (by rw [u64s_len]; exact hm.out) _ 36 hb1.out (min m n) rfl ?h1 (u64s_one ws) ?_)
  try (case h1 => (simp; omega))
  intro w2 hb2 hu2 hsz2
  replace hb2 := Lib.hid hb2
  replace hu2 := Lib.hid hu2
  replace hsz2 := Lib.hid hsz2
  go_wp2_with fail
  go_end0
  have hX := hX.out
  have hb2 := hb2.out
  have hfl := hfl.out
  have hm := hm.out
  have hn := hn.out
  have e1 : min m n = m := by omega
  have hfill : u64s (MemF.fill s.cls ws) = u64s ws ++ List.replicate (n - m) (.int .u64 0) := by
    unfold MemF.fill u64s
    rw [hn, hm, List.map_append, List.map_replicate]
  have hb3 : Blk w2 w.heap.size (u64s (MemF.fill s.cls ws)) 36 := by
    rw [hfill]
    have e2 : (u64s ws).take m = u64s ws := List.take_of_length_le (by rw [u64s_len]; omega)
    rw [e2] at hb2
    exact hb2
  have hup : Upd (fun k => k = X.gs) w w2 := (((Upd.refl (fun k => k = X.gs) w).setCell (p := ⟨X.gs, i * 4 + 3, none⟩) (.inl rfl) _).alloc _).trans hu2.out (fun k hk e => by omega)
  refine ⟨rfl, .slice (some ⟨w.heap.size, 0, none⟩) n n, ?_, ?_, hup⟩
  · refine hX.setG i 3 hi (by omega) { s with words := MemF.fill s.cls ws } _ (.slice (some ⟨w.heap.size, 0, none⟩) n n) ?_ hup ?_ ⟨?_, ?_⟩ ?_
    · rw [hs'.out]; rfl
    · intro xs hx
      exact hu2.out.blk (by show ¬ X.gs = w.heap.size; omega) (Blk.alloc (hx.setCell _ _) _)
    · show CellsR w2 _ (MemF.fill s.cls ws).length _
      rw [hfl]
      have h4 : Blk w2 w.heap.size (u64s (MemF.fill s.cls ws) ++ []) 36 := by rw [List.append_nil]; exact hb3
      exact CellsR.blk h4 (by omega) (Nat.le_refl _) (fun h0 => by omega)
    · show 0 < (MemF.fill s.cls ws).length
      omega
    · intro k hk hA
      have : k = w.heap.size := by simpa [Value.ownBlock] using hk.symm
      have := hX.lt k (.inl hA)
      omega
  · intro k hk
    have : k = w.heap.size := by simpa [Value.ownBlock] using hk.symm
    omega

set_option maxRecDepth 100000 in
set_option maxHeartbeats 1000000 in
theorem of_calls (a : Nat) (A : MemF.Ar) (X : AW) (r : Int) (w : World) (h : ArenaX w a A X) :
    Calls Try.prog 101 #[.pointer (some ⟨a, 0, none⟩), .int .i64 r] w fun e w' => e = .returned (.tuple #[.pointer (if (A.of r).1 = 0 then some ⟨X.gs, (A.of r).2 * 4, none⟩ else none), .int .i64 (A.of r).1]) ∧ w = w' := by
  have hparts := word_parts_calls r w
  unfold partsV at hparts
  have hof : A.of r = (if (MemF.parts r).2.2.2 = false ∨ A.slots.length ≤ (MemF.parts r).1.toNat ∨ (MemF.parts r).2.2.1 ≠ decide (A.slots[(MemF.parts r).1.toNat]!.cls = 0) then (1, 0) else
    if A.slots[(MemF.parts r).1.toNat]!.gen ≠ (MemF.parts r).2.1 then (4, 0) else if A.slots[(MemF.parts r).1.toNat]!.live = false then (3, 0) else (0, (MemF.parts r).1.toNat)) := rfl
  have hnn : 0 ≤ (MemF.parts r).1 := by
    unfold MemF.parts
    simp only
    split
    · exact Int.le_refl _
    · exact Int.emod_nonneg _ (by decide)
  generalize MemF.parts r = P at *
  obtain ⟨n, g, l, ok⟩ := P
  simp only at hparts hof hnn
  obtain ⟨i, rfl⟩ := Int.eq_ofNat_of_zero_le hnn
  rw [Int.toNat_natCast] at hof
  clear hnn
  have hc := h.blk.cell
  have fin : ∀ (er : Int) (k : Nat) (p : Option Addr), A.of r = (er, k) → p = (if er = 0 then some ⟨X.gs, k * 4, none⟩ else none) →
      Calls Try.prog 101 #[.pointer (some ⟨a, 0, none⟩), .int .i64 r] w (fun e w' => e = .returned (.tuple #[.pointer p, .int .i64 er]) ∧ w = w') →
      Calls Try.prog 101 #[.pointer (some ⟨a, 0, none⟩), .int .i64 r] w fun e w' => e = .returned (.tuple #[.pointer (if (A.of r).1 = 0 then some ⟨X.gs, (A.of r).2 * 4, none⟩ else none), .int .i64 (A.of r).1]) ∧ w = w' := by
    intro er k p h1 h2 h3
    rw [h1]
    subst h2
    exact h3
  cases ok with
  | false =>
    refine fin 1 0 none (by rw [hof, if_pos (.inl rfl)]) (by simp) ?_
    clear hof h hc fin
    go_enter Try.func101, Try.ntmps101
    go_wp2_with fail
    refine hparts.mono ?_
    rintro e w' ⟨rfl, rfl⟩
    go_wp2_with fail
    go_ret2
    exact ⟨rfl, rfl⟩
  | true =>
  obtain ⟨N, hN⟩ : ∃ N, A.slots.length = N := ⟨_, rfl⟩
  by_cases h1 : N ≤ i
  · refine fin 1 0 none (by rw [hof, if_pos (.inr (.inl (by omega)))]) (by simp) ?_
    rw [hN] at hc
    clear hof hN h fin
    go_enter Try.func101, Try.ntmps101
    go_wp2_with fail
    refine hparts.mono ?_
    rintro e w' ⟨rfl, rfl⟩
    go_wp2_with fail
    go_ret2
    exact ⟨rfl, rfl⟩
  have hi : i < A.slots.length := by omega
  have hlt : i < N := by omega
  have c0 := h.cell i 0 hi (by omega)
  have c1 := h.cell i 1 hi (by omega)
  have c2 := h.cell i 2 hi (by omega)
  simp only [slotC, Nat.add_zero, List.getElem?_cons_zero, List.getElem?_cons_succ] at c0 c1 c2
  obtain ⟨s, hs⟩ : ∃ s, A.slots[i]! = s := ⟨_, rfl⟩
  rw [hs] at c0 c1 c2 hof
  rw [hN] at hc
  have hof2 : A.of r = if l ≠ decide (s.cls = 0) then (1, 0) else if s.gen ≠ g then (4, 0) else if s.live = false then (3, 0) else (0, i) := by
    rw [hof, hN]
    have e : (true = false ∨ N ≤ i ∨ l ≠ decide (s.cls = 0)) ↔ l ≠ decide (s.cls = 0) := by
      constructor
      · rintro (h | h | h)
        · cases h
        · omega
        · exact h
      · exact fun h => .inr (.inr h)
    simp only [e]
  clear hof hs hN hi h h1
  obtain ⟨z, hz⟩ : ∃ z, decide (s.cls = 0) = z := ⟨_, rfl⟩
  have hz0 : (s.cls == 0) = z := by rw [← hz, Bool.eq_iff_iff]; simp
  rw [hz] at hof2
  replace hz := Lib.hid hz
  generalize s.cls = cl at *
  have hne : ∀ (hlz : l ≠ z), Calls Try.prog 101 #[.pointer (some ⟨a, 0, none⟩), .int .i64 r] w fun e w' => e = .returned (.tuple #[.pointer (if (A.of r).1 = 0 then some ⟨X.gs, (A.of r).2 * 4, none⟩ else none), .int .i64 (A.of r).1]) ∧ w = w' := by
    intro hlz
    refine fin 1 0 none (by rw [hof2, if_pos hlz]) (by simp) ?_
    clear hof2 fin
    cases l <;> cases z
    · exact absurd rfl hlz
    · clear hlz
      go_enter Try.func101, Try.ntmps101
      go_wp2_with fail
      refine hparts.mono ?_
      rintro e w' ⟨rfl, rfl⟩
      go_wp2_with fail
      go_ret2
      exact ⟨rfl, rfl⟩
    · clear hlz
      go_enter Try.func101, Try.ntmps101
      go_wp2_with fail
      refine hparts.mono ?_
      rintro e w' ⟨rfl, rfl⟩
      go_wp2_with fail
      go_ret2
      exact ⟨rfl, rfl⟩
    · exact absurd rfl hlz
  by_cases h2 : l = z
  · clear hne
    subst h2
    rw [if_neg (by simp)] at hof2
    by_cases h3 : s.gen = g
    · rw [if_neg (by simp [h3])] at hof2
      rw [h3] at c1
      clear h3
      cases hl : s.live with
      | false =>
        rw [hl] at c2
        refine fin 3 0 none (by rw [hof2, if_pos hl]) (by simp) ?_
        clear hof2 hl fin
        cases l
        · clear hz
          go_enter Try.func101, Try.ntmps101
          go_wp2_with fail
          refine hparts.mono ?_
          rintro e w' ⟨rfl, rfl⟩
          go_wp2_with fail
          go_ret2
          exact ⟨rfl, rfl⟩
        · clear hz
          go_enter Try.func101, Try.ntmps101
          go_wp2_with fail
          refine hparts.mono ?_
          rintro e w' ⟨rfl, rfl⟩
          go_wp2_with fail
          go_ret2
          exact ⟨rfl, rfl⟩
      | true =>
        rw [hl] at c2
        refine fin 0 i (some ⟨X.gs, i * 4, none⟩) (by rw [hof2, if_neg (by rw [hl]; simp)]) (by simp) ?_
        clear hof2 hl fin
        cases l
        · clear hz
          go_enter Try.func101, Try.ntmps101
          go_wp2_with fail
          refine hparts.mono ?_
          rintro e w' ⟨rfl, rfl⟩
          go_wp2_with fail
          go_ret2
          exact ⟨rfl, rfl⟩
        · clear hz
          go_enter Try.func101, Try.ntmps101
          go_wp2_with fail
          refine hparts.mono ?_
          rintro e w' ⟨rfl, rfl⟩
          go_wp2_with fail
          go_ret2
          exact ⟨rfl, rfl⟩
    · refine fin 4 0 none (by rw [hof2, if_pos h3]) (by simp) ?_
      clear hof2 fin
      have h4 : (s.gen != g) = true := by simpa using h3
      clear h3
      cases l
      · clear hz
        go_enter Try.func101, Try.ntmps101
        go_wp2_with fail
        refine hparts.mono ?_
        rintro e w' ⟨rfl, rfl⟩
        go_wp2_with fail
        go_ret2
        exact ⟨rfl, rfl⟩
      · clear hz
        go_enter Try.func101, Try.ntmps101
        go_wp2_with fail
        refine hparts.mono ?_
        rintro e w' ⟨rfl, rfl⟩
        go_wp2_with fail
        go_ret2
        exact ⟨rfl, rfl⟩
  · exact hne h2
end Go.Proofs.Ytpobpijjpbggoaa
