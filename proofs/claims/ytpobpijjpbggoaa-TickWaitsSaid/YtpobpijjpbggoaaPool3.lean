/- package pool: Has, Len, Take, Put over a pool that holds these numbers. -/
import Derived.Test.YtpobpijjpbggoaaPool2
set_option linter.unusedSimpArgs false
set_option linter.unusedVariables false
namespace Go.Proofs.Ytpobpijjpbggoaa
open Go.RowKit Go.Ten

/-- The pool at b with its map at mb holds the numbers l. -/
structure PoolR (w : World) (b mb : Nat) (most : Int) (p : Option Addr) (c : Nat) (m : List (Int × Value)) (l : List Int) : Prop where
  blk : Blk w b [.int .i64 most, .slice p l.length c, .map (some mb)] 161
  own : w.ownsRow 0 3 1 (.slice p l.length c) l.length (l.map (Value.int .i64))
  map : IMap w mb m
  vals : ∀ j v, mget m j = some v → v = .agg #[]
  keys : ∀ j, j ∈ m.map (·.1) ↔ j ∈ l
  nodup : l.Nodup
  few : l.length < 65536
  ne1 : (Value.slice p l.length c).ownBlock ≠ some b
  ne2 : (Value.slice p l.length c).ownBlock ≠ some mb
  ne3 : mb ≠ b
theorem map_under : Try.prog.underlying 158 = some (.map 3 162) := by kernel_rfl
theorem zero_unit (w : World) : (zeroValue 162).run Try.prog w = .ok (.agg #[]) w := by kernel_rfl
theorem store_none (a : Addr) (w : World) : (storeCells a []).run Try.prog w = .ok () w := by simp [storeCells]

set_option maxRecDepth 100000 in
set_option maxHeartbeats 400000 in
theorem has_calls (b mb : Nat) (most : Int) (p : Option Addr) (c : Nat) (m : List (Int × Value)) (l : List Int) (n : Int) (w : World) (h : PoolR w b mb most p c m l) :
    Calls Try.prog 92 #[.pointer (some ⟨b, 0, none⟩), .int .i64 n] w fun e w' => e = .returned (.bool (decide (n ∈ l))) ∧ w.alloc (.cells #[] 162) = w' := by
  have hc := h.blk.cell
  have hst := store_none
  have hmb := h.map.lt
  have hlook : ∀ w1 : World, IMap w1 mb m → (Instr.lookup 158 (.map (some mb)) (.int .i64 n) true).run Try.prog w1 = .ok (.tuple #[.agg #[], .bool (decide (n ∈ l))]) w1 := by
    intro w1 h1
    have hl := imap_lookup_ok (P := Try.prog) map_under Try.underlying3 w1 (zero_unit w1) h1 n
    have hb : (mget m n).isSome = decide (n ∈ l) := by
      rw [Bool.eq_iff_iff, mget_mem, h.keys]; simp
    have hv : (mget m n).getD (.agg #[]) = .agg #[] := by
      cases hm : mget m n with
      | none => rfl
      | some v => exact h.vals n v hm
    rw [hb, hv] at hl
    exact hl
  have hl0 := hlook w h.map
  have hl1 := hlook (w.alloc (.cells #[] 162)) (h.map.upd (S := fun _ => False) ((Upd.refl _ w).alloc _) (fun h => h))
  clear hlook
  go_enter Try.func92, Try.ntmps92
  go_wp2
  go_ret
  exact ⟨rfl, rfl⟩

set_option maxRecDepth 100000 in
set_option maxHeartbeats 400000 in
theorem len_calls (b mb : Nat) (most : Int) (p : Option Addr) (c : Nat) (m : List (Int × Value)) (l : List Int) (w : World) (h : PoolR w b mb most p c m l) :
    Calls Try.prog 104 #[.pointer (some ⟨b, 0, none⟩)] w fun e w' => e = .returned (.int .i64 l.length) ∧ w = w' := by
  have hc := h.blk.cell
  go_enter Try.func104, Try.ntmps104
  go_wp2
  go_ret
  exact ⟨rfl, rfl⟩

theorem mput_some (m : List (Int × Value)) (k : Int) (v : Value) (hm : ∀ j u, mget m j = some u → u = v) : ∀ j u, mget (mput m k v) j = some u → u = v := by
  intro j u h
  rw [mput_get] at h
  split at h
  · exact (Option.some.inj h).symm
  · exact hm j u h

set_option maxRecDepth 100000 in
set_option maxHeartbeats 1000000 in
theorem put_calls (b mb : Nat) (most : Int) (p : Option Addr) (c : Nat) (m : List (Int × Value)) (l : List Int) (n : Int) (w : World) (h : PoolR w b mb most p c m l) (h0 : 0 ≤ n) (h1 : n < most) (h2 : n ∉ l) (h3 : l.length + 1 < 65536) :
    Calls Try.prog 63 #[.pointer (some ⟨b, 0, none⟩), .int .i64 n] w fun e w' => e = .returned (.bool true) ∧ ∃ p' c' m' l', PoolR w' b mb most p' c' m' l' ∧ List.Perm l' (n :: l) ∧ (HeapI0 l.length l → HeapI0 l'.length l') ∧
      (p' = p ∨ ∃ g, p' = some ⟨g, 0, none⟩ ∧ w.heap.size ≤ g) ∧ Upd (fun k => k = b ∨ k = mb ∨ some k = (Value.slice p l.length c).ownBlock) w w' := by
  have hc := h.blk.cell
  have hhas := has_calls b mb most p c m l n w h
  have hn : decide (n ∈ l) = false := by simpa using h2
  rw [hn] at hhas
  have h2' := Lib.hid h2
  clear h2 hn
  have hu0 : Upd (fun k => k = b ∨ k = mb ∨ some k = (Value.slice p l.length c).ownBlock) w (w.alloc (.cells #[] 162)) := (Upd.refl _ w).alloc _
  have hmap1 : IMap (w.alloc (.cells #[] 162)) mb m := h.map.upd (S := fun _ => False) ((Upd.refl _ w).alloc _) (fun h => h)
  obtain ⟨w2, hrun, hmap2, hu2, hsz2⟩ := imap_update (P := Try.prog) map_under Try.underlying3 (w.alloc (.cells #[] 162)) hmap1 n (.agg #[])
  have hb1 := (Blk.alloc h.blk (.cells #[] 162)).cell
  replace hu0 := Lib.hid hu0
  replace hmap2 := Lib.hid hmap2
  replace hu2 := Lib.hid hu2
  go_enter Try.func63, Try.ntmps63
  go_wp2_with fail
  refine hhas.mono ?_
  rintro e w1 ⟨rfl, rfl⟩
  clear hhas
  go_wp2_with fail
  have hb2 : Blk w2 b [.int .i64 most, .slice p l.length c, .map (some mb)] 161 := hu2.out.blk (fun e => h.ne3 e.symm) (Blk.alloc h.blk _)
  have ho2 : w2.ownsRow 0 3 1 (.slice p l.length c) l.length (l.map (Value.int .i64)) := hu2.out.owns (h.own.alloc _) (fun k hk e => h.ne2 (by rw [← e]; exact hk))
  have hpush := heap_push b (.int .i64 most) (.map (some mb)) p l.length c l n w2 hb2 ho2 h.ne1 (by omega)
  clear hrun hb1 hc
  refine hpush.mono ?_
  rintro e w3 ⟨rfl, g, c', hb3, ho3, hg, hgb, hu3⟩
  go_wp2_with fail
  go_ret
  have hpl : (pushed l n).length = l.length + 1 := by have := (pushed_perm l n).length_eq; simpa using this
  have hsz : w2.heap.size = w.heap.size + 1 := by rw [hsz2]; simp
  have hgm : g ≠ mb := by
    intro e
    subst e
    rcases hg with hg | hg
    · exact h.ne2 (by rw [hg]; rfl)
    · have := h.map.lt; omega
  refine ⟨rfl, some ⟨g, 0, none⟩, c', _, pushed l n, ⟨by rw [hpl]; exact hb3, by rw [hpl]; exact ho3, hmap2.out.upd hu3 ?_, mput_some m n (.agg #[]) h.vals, ?_, ?_, by omega, ?_, ?_, h.ne3⟩, pushed_perm l n, pushed_heap l n, ?_, ?_⟩
  · rintro (e | e)
    · exact h.ne3 e
    · exact h.ne2 e.symm
  · intro j
    rw [mput_keys, h.keys, (pushed_perm l n).mem_iff, List.mem_cons]
  · exact (pushed_perm l n).nodup_iff.2 (List.nodup_cons.2 ⟨h2'.out, h.nodup⟩)
  · simpa [Value.ownBlock] using hgb
  · simpa [Value.ownBlock] using hgm
  · rcases hg with hg | hg
    · exact .inl hg.symm
    · exact .inr ⟨g, rfl, by omega⟩
  · have hA := hu0.out.trans hu2.out (fun k _ e => .inr (.inl e))
    exact hA.trans hu3 (fun k _ e => by rcases e with e | e; exact .inl e; exact .inr (.inr e))

set_option maxRecDepth 100000 in
set_option maxHeartbeats 1000000 in
theorem take_calls (b mb : Nat) (most : Int) (p : Option Addr) (c : Nat) (m : List (Int × Value)) (l : List Int) (w : World) (h : PoolR w b mb most p c m l) (h0 : l ≠ []) :
    Calls Try.prog 66 #[.pointer (some ⟨b, 0, none⟩)] w fun e w' => ∃ x m' l', e = .returned (.tuple #[.int .i64 x, .bool true]) ∧ PoolR w' b mb most p c m' l' ∧ List.Perm (x :: l') l ∧ (HeapI0 l.length l → (∀ j ∈ l', x ≤ j) ∧ HeapI0 l'.length l') ∧
      Upd (fun k => k = b ∨ k = mb ∨ some k = (Value.slice p l.length c).ownBlock) w w' := by
  have hc := h.blk.cell
  have hf := h.blk.frozen
  obtain ⟨N, hN⟩ : ∃ N, l.length = N + 1 := ⟨l.length - 1, by have := List.length_pos_iff.2 h0; omega⟩
  have ho := h.own
  have hblk := h.blk
  have hfew := h.few
  have hne1 := h.ne1
  have hne2 := h.ne2
  rw [hN] at ho hblk hc hfew hne1 hne2 ⊢
  obtain ⟨p', cap', hv, hp0, hp1⟩ := own_form ho
  simp only [Value.slice.injEq] at hv
  obtain ⟨rfl, -, rfl⟩ := hv
  rcases p with _ | a
  · have := hp0 rfl; omega
  have ea := hp1 a rfl
  generalize a.block = g at ea
  subst ea
  have hgb : g ≠ b := by simpa [Value.ownBlock] using hne1
  have hgm : g ≠ mb := by simpa [Value.ownBlock] using hne2
  have hpop := heap_pop b (.int .i64 most) (.map (some mb)) g N c l w hblk ho hgb (by omega)
  clear hp0 hp1
  replace hN := Lib.hid hN
  go_enter Try.func66, Try.ntmps66
  go_wp2_with fail
  refine hpop.mono ?_
  rintro e w1 ⟨x, ys, rfl, hperm, hb1, ho1, hu1, hord⟩
  replace hord := Lib.hid hord
  have hm1 : IMap w1 mb m := h.map.upd hu1 (fun e => by rcases e with e | e; exact h.ne3 e; exact hgm e.symm)
  obtain ⟨w2, hrun, hmap2, hu2, hsz2⟩ := imap_delete (P := Try.prog) map_under Try.underlying3 0 w1 hm1 x
  have hc1 := hb1.cell
  have has := assert_int_ok x
  clear hpop hc
  replace hmap2 := Lib.hid hmap2
  replace hu1 := Lib.hid hu1
  replace hu2 := Lib.hid hu2
  go_wp2_with fail
  go_ret2
  have hyl : ys.length = N := by have := hperm.length_eq; have := hN.out; simp at *; omega
  have hnd : (x :: ys).Nodup := hperm.nodup_iff.2 h.nodup
  refine ⟨x, _, ys, rfl, ⟨?_, ?_, hmap2.out, ?_, ?_, (List.nodup_cons.1 hnd).2, by omega, ?_, ?_, h.ne3⟩, hperm, ?_, ?_⟩
  · rw [hyl]
    exact hu2.out.blk (fun e => h.ne3 e.symm) hb1
  · rw [hyl]
    exact hu2.out.owns ho1 (fun k hk e => by simp [Value.ownBlock] at hk; exact hgm (by omega))
  · intro j u hj
    rw [mdel_get] at hj
    split at hj
    · cases hj
    · exact h.vals j u hj
  · intro j
    rw [mdel_keys, h.keys, ← hperm.mem_iff, List.mem_cons]
    constructor
    · rintro ⟨e | e, h2⟩
      · exact absurd e h2
      · exact e
    · exact fun e => ⟨.inr e, fun e2 => (List.nodup_cons.1 hnd).1 (e2 ▸ e)⟩
  · simpa [Value.ownBlock] using hgb
  · simpa [Value.ownBlock] using hgm
  · intro hh
    rw [hyl]
    exact hord.out hh
  · refine Upd.trans (hu1.out.mono ?_) hu2.out (fun k _ e => .inr (.inl e))
    rintro k _ (e | e)
    · exact .inl e
    · exact .inr (.inr (by simp [Value.ownBlock, e]))

theorem alloc_at (w : World) (o : Obj) : (w.alloc o).heap[w.heap.size]? = some o := by
  unfold World.alloc
  exact Array.getElem?_push_size ..

set_option maxRecDepth 100000 in
set_option maxHeartbeats 400000 in
theorem pool_new_calls (most : Int) (w : World) (h0 : 0 ≤ most) (h1 : most ≤ 65535) :
    Calls Try.prog 62 #[.int .i64 most] w fun e w' => ∃ b mb, e = .returned (.tuple #[.pointer (some ⟨b, 0, none⟩), .int .i64 0]) ∧ PoolR w' b mb most none 0 [] [] ∧ w.heap.size ≤ b ∧ w.heap.size ≤ mb ∧ Below w.heap.size w w' := by
  have hmk : ∀ w : World, (Instr.makeMap 158 none).run Try.prog w = .ok (.map (some w.heap.size)) (w.alloc (.map #[] 0)) := fun w => by first | rfl | (simp [Instr.makeMap, newObj]; rfl)
  go_enter Try.func62, Try.ntmps62
  go_wp2
  go_ret2
  refine ⟨w.heap.size + 1, w.heap.size, rfl, ⟨?_, World.ownsRow_nil _ _ _ _, ?_, fun j u h => by simp [mget] at h, fun j => by simp, List.nodup_nil, by simp, by simp [Value.ownBlock], by simp [Value.ownBlock], by omega⟩, by omega, by omega, ?_⟩
  · have h := Blk.new (w.alloc (.map #[] 0)) [.int .i64 most, .slice none 0 0, .map (some w.heap.size)] 161
    rw [show (w.alloc (.map #[] 0)).heap.size = w.heap.size + 1 by simp] at h
    exact h
  · exact ⟨#[], 0, (Below.heap_alloc _ _ _ (by simp)).trans (alloc_at w _), rfl, List.nodup_nil⟩
  · exact ((Below.refl _ _).alloc (Nat.le_refl _) _).alloc (by simp) _
end Go.Proofs.Ytpobpijjpbggoaa
