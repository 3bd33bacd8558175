/- package mem: New; Live, Limbo, Now. -/
import Derived.Test.YtpobpijjpbggoaaMem5
import Derived.Test.YtpobpijjpbggoaaMemLaws
import Derived.Test.YtpobpijjpbggoaaNode0
set_option linter.unusedSimpArgs false
set_option linter.unusedVariables false
namespace Go.MemF
open Go.Ten
/-- A new memory. -/
def Mem.new (ns : Nat → Nat) (n : Nat) (L : Int) (ws : List Int) : Mem :=
  { ar := ((Ar.upto ns 5).alloc 4 ws).1, ep := { now := 0, room := L, clients := List.replicate n ⟨-1, []⟩ }, clients := n, root := ((Ar.upto ns 5).alloc 4 ws).2.1, holder := -1 }
theorem ins_ne (n : Int) (l : List Int) : ins n l ≠ [] := fun h => by
  have := (ins_perm n l).length_eq
  rw [h] at this
  simp at this
theorem addN_free (c k : Nat) (A : Ar) (hc : c < A.free.length) (hk : 0 < k) : (Ar.addN c k A).free[c]! ≠ [] ∧ (Ar.addN c k A).free.length = A.free.length := by
  have hlen : ∀ k, (Ar.addN c k A).free.length = A.free.length := by
    intro k
    induction k with
    | zero => rfl
    | succ k ih => simp only [Ar.addN, Ar.addSlot, List.length_set, ih]
  cases k with
  | zero => omega
  | succ k =>
    refine ⟨?_, hlen _⟩
    simp only [Ar.addN, Ar.addSlot]
    rw [get_set! _ _ _ _ (by rw [hlen]; exact hc), if_pos rfl]
    exact ins_ne _ _
theorem new_alloc (ns : Nat → Nat) (ws : List Int) (h4 : 0 < ns 4) (hl : ws.length ≤ 264) : ((Ar.upto ns 5).alloc 4 ws).2.2 = 0 := by
  have hm := ArMk.upto ns 4 (by omega)
  have hne := (addN_free 4 (ns 4) (Ar.upto ns 4) (by rw [hm.five]; omega) h4).1
  unfold Ar.alloc
  have hs : size 4 = 264 := rfl
  rw [if_neg (by rw [hs]; omega)]
  have e : (4 : Int).toNat = 4 := rfl
  rw [e]
  have e2 : Ar.upto ns 5 = Ar.addN 4 (ns 4) (Ar.upto ns 4) := rfl
  rw [e2]
  split
  · rename_i h; exact absurd h hne
  · rfl
theorem MemOk.new (ns : Nat → Nat) (n : Nat) (L : Int) (ws : List Int) (h0 : 0 < sumN ns 5) (h1 : sumN ns 5 ≤ 1024) (hn : 1 ≤ n ∧ n ≤ 8) (hL : 4 ≤ L ∧ L ≤ 64) (hw : ∀ x ∈ ws, 0 ≤ x ∧ x < 18446744073709551616) : MemOk (Mem.new ns n L ws) := by
  have hA := (ArMk.upto ns 5 (by omega)).ok (by rw [upto_len]; exact h0) (by rw [upto_len]; exact h1)
  refine ⟨hA.alloc _ _ hw, ⟨⟨by simp [Mem.new], by simp [Mem.new]⟩, hL, by simp [Mem.new]; omega, ?_, ?_, ?_⟩, by simp [Mem.new]⟩
  · intro x hx
    have := (List.mem_replicate.1 hx).2
    subst this
    simp [Mem.new]
  · intro x hx
    have := (List.mem_replicate.1 hx).2
    subst this
    simp [Mem.new]; omega
  · intro x hx
    have := (List.mem_replicate.1 hx).2
    subst this
    intro y hy; simp at hy
end Go.MemF
namespace Go.Proofs.Ytpobpijjpbggoaa
open Go.RowKit Go.Ten

def NewMem (ns : Nat → Nat) (n : Nat) (L : Int) (w : World) (e : Ending) (w' : World) : Prop := ∃ m W, e = .returned (.tuple #[.pointer (some ⟨m, 0, none⟩), .int .i64 0]) ∧ MemX w' m (MemF.Mem.new ns n L root0) W ∧ (∀ k, MF m W k → w.heap.size ≤ k) ∧ Below w.heap.size w w'
set_option maxRecDepth 100000 in
set_option maxHeartbeats 2000000 in
theorem mem_new_calls (ns : Nat → Nat) (n : Nat) (L t : Int) (w : World) (h0 : 0 < MemF.sumN ns 5) (h1 : MemF.sumN ns 5 ≤ 1024) (h4 : 0 < ns 4) (hn1 : 1 ≤ n) (hn8 : n ≤ 8) (hL4 : 4 ≤ L) (hL64 : L ≤ 64) (ht1 : 1 ≤ t) (ht100 : t ≤ 100) :
    Calls Try.prog 9 #[.agg #[.int .i64 (ns 0), .int .i64 (ns 1), .int .i64 (ns 2), .int .i64 (ns 3), .int .i64 (ns 4), .int .i64 n, .int .i64 L, .int .i64 t]] w (NewMem ns n L w) := by
  have har := fun w => arena_new_calls ns w h0 h1
  have hep := fun w => ep_new_calls n L w hn1 hn8 hL4 hL64
  have hA := (MemF.ArMk.upto ns 5 (by omega)).ok (by rw [MemF.upto_len]; exact h0) (by rw [MemF.upto_len]; exact h1)
  have hal := MemF.new_alloc ns root0 h4 (by decide)
  replace hA := Lib.hid hA
  replace hal := Lib.hid hal
  have hnI : (1 : Int) ≤ n := by omega
  obtain ⟨B, hB⟩ : ∃ B, w.heap.size = B := ⟨_, rfl⟩
  have hBh := Lib.hid hB
  clear h0 h1 h4 hn1 hn8 hB
  go_enter Try.func9, Try.ntmps9
  go_wp2_with fail
  refine (har _).mono ?_
  rintro e w1 ⟨a, X, rfl, hX1, hF1, hB1⟩
  have hBa := ((Below.refl _ w).alloc (Nat.le_refl _) (.cells #[.int .i64 (ns 0), .int .i64 (ns 1), .int .i64 (ns 2), .int .i64 (ns 3), .int .i64 (ns 4), .int .i64 n, .int .i64 L, .int .i64 t] 24))
  have hbc := Blk.new w [.int .i64 (ns 0), .int .i64 (ns 1), .int .i64 (ns 2), .int .i64 (ns 3), .int .i64 (ns 4), .int .i64 n, .int .i64 L, .int .i64 t] 24
  have hs0 : (w.alloc (.cells #[.int .i64 (ns 0), .int .i64 (ns 1), .int .i64 (ns 2), .int .i64 (ns 3), .int .i64 (ns 4), .int .i64 n, .int .i64 L, .int .i64 t] 24)).heap.size = w.heap.size + 1 := by simp
  rw [hs0] at hF1 hB1
  have hbc1 := (Upd.of_below' (S := fun _ => False) (by rw [hs0]; exact hB1)).blk (fun h => h) hbc
  have hBw1 : Below w.heap.size w w1 := hBa.trans (hB1.mono (by omega))
  have k1 := hbc1.cell
  have hs1 : w.heap.size + 1 ≤ w1.heap.size := by have := hB1.size; rw [hs0] at this; exact this
  replace hbc := Lib.hid hbc
  replace hbc1 := Lib.hid hbc1
  replace hBa := Lib.hid hBa
  replace hB1 := Lib.hid hB1
  replace hBw1 := Lib.hid hBw1
  replace hF1 := Lib.hid hF1
  replace hX1 := Lib.hid hX1
  replace hs0 := Lib.hid hs0
  replace hs1 := Lib.hid hs1
  clear har
  go_wp2_with fail
  refine (hep _).mono ?_
  rintro e w2 ⟨eb, Y, rfl, hY2, hF2, hB2⟩
  have hbc2 := (Upd.of_below' (S := fun _ => False) hB2).blk (fun h => h) hbc1.out
  have hX2 := hX1.out.upd (S := fun _ => False) (Upd.of_below' hB2) (fun _ _ h => h)
  have hBw2 : Below w.heap.size w w2 := hBw1.out.trans (hB2.mono (by have := hs1.out; omega))
  have hs2 : w1.heap.size ≤ w2.heap.size := hB2.size
  have k2 := hbc2.cell
  replace hbc2 := Lib.hid hbc2
  replace hX2 := Lib.hid hX2
  replace hY2 := Lib.hid hY2
  replace hF2 := Lib.hid hF2
  replace hB2 := Lib.hid hB2
  replace hBw2 := Lib.hid hBw2
  replace hs2 := Lib.hid hs2
  clear hep k1
  go_wp2_with fail
  refine (encode0_calls _).mono ?_
  rintro e w3 ⟨g, rfl, hg, hb3, hB3⟩
  have hX3 := hX2.out.upd (S := fun _ => False) (Upd.of_below' hB3) (fun _ _ h => h)
  have hY3 := hY2.out.upd (S := fun _ => False) (Upd.of_below' hB3) (fun _ _ h => h)
  have hbc3 := (Upd.of_below' (S := fun _ => False) hB3).blk (fun h => h) hbc2.out
  have hBw3 : Below w.heap.size w w3 := hBw2.out.trans (hB3.mono (by have := hs1.out; have := hs2.out; omega))
  have hs3 : w2.heap.size ≤ w3.heap.size := hB3.size
  have hgF : ∀ k, AF a X k → k ≠ g := fun k hk e => by have := hX2.out.lt k hk; omega
  have hcr : CellsR w3 (.slice (some ⟨g, 0, none⟩) 264 264) root0.length (u64s root0) := by
    have h4 : Blk w3 g (u64s root0 ++ []) 36 := by rw [List.append_nil]; exact hb3
    exact CellsR.blk h4 (by decide) (Nat.le_refl _) (fun h => by cases h)
  have hall := alloc_calls a (MemF.Ar.upto ns 5) X 4 (.slice (some ⟨g, 0, none⟩) 264 264) root0 w3 hX3 hA.out hcr (fun k hk hAM => hgF k (.inl hAM) (by simpa [Value.ownBlock] using hk.symm))
  rw [hal.out] at hall
  replace hbc3 := Lib.hid hbc3
  replace hX3 := Lib.hid hX3
  replace hY3 := Lib.hid hY3
  replace hb3 := Lib.hid hb3
  replace hB3 := Lib.hid hB3
  replace hBw3 := Lib.hid hBw3
  replace hs3 := Lib.hid hs3
  replace hgF := Lib.hid hgF
  replace hcr := Lib.hid hcr
  replace hg := Lib.hid hg
  clear k2
  go_wp2_with fail
  refine hall.mono ?_
  rintro e w4 ⟨rfl, X', hX4, hM4, hF4, hu4⟩
  have hAFge : ∀ k, AF a X k → w.heap.size + 1 ≤ k := fun k hk => hF1.out k hk
  have hEFge : ∀ k, EF eb Y k → w1.heap.size ≤ k := fun k hk => hF2.out k hk
  have hbc4 := hu4.blk (fun h => by have := hAFge _ (.inl h); omega) hbc3.out
  have k4 := hbc4.cell
  have hlt1 := hX1.out.lt
  have hdis : ∀ k, AF a X k → ¬ EF eb Y k := fun k hk he => by have := hlt1 k hk; have := hEFge k he; omega
  have hY4 := hY3.out.upd hu4 (fun k hk h => hdis k (.inl h) hk)
  have hs4 := hu4.size
  have hlt4 := hX4.lt
  have hltY := hY3.out.lt
  replace hbc4 := Lib.hid hbc4
  replace hX4 := Lib.hid hX4
  replace hY4 := Lib.hid hY4
  replace hM4 := Lib.hid hM4
  replace hF4 := Lib.hid hF4
  replace hu4 := Lib.hid hu4
  replace hAFge := Lib.hid hAFge
  replace hEFge := Lib.hid hEFge
  replace hdis := Lib.hid hdis
  replace hlt1 := Lib.hid hlt1
  replace hlt4 := Lib.hid hlt4
  replace hltY := Lib.hid hltY
  clear hall
  go_wp2_with fail
  go_ret2
  have hBw3 := hBw3.out
  have h123 : w.heap.size + 1 ≤ w3.heap.size := by have := hs1.out; have := hs2.out; have := hs3.out; omega
  have hBw4 : Below w.heap.size w w4 := hBw3.trans (hu4.out.below (by omega) fun k hk hAM => by have := hAFge.out k (.inl hAM); omega)
  refine ⟨w4.heap.size, ⟨a, eb, X', Y⟩, rfl, ⟨Blk.new w4 _ _, ?_, ?_, ?_, ?_, ?_⟩, ?_, hBw4.alloc hBw4.size _⟩
  · exact hX4.out.upd (S := fun _ => False) ((Upd.refl _ w4).alloc _) (fun _ _ h => h)
  · exact hY4.out.upd (S := fun _ => False) ((Upd.refl _ w4).alloc _) (fun _ _ h => h)
  · intro h
    have := hlt4.out _ h
    omega
  · intro h
    have := hltY.out _ h
    omega
  · intro k hk he
    rcases hF4.out k hk with h | h
    · exact hdis.out k h he
    · have := hltY.out k he; omega
  · rintro k (rfl | hk | hk)
    · omega
    · rcases hF4.out k hk with h | h
      · have := hAFge.out k h; omega
      · omega
    · have := hEFge.out k hk; have := hs1.out; omega
end Go.Proofs.Ytpobpijjpbggoaa
