/- package arena: sizes, slots in memory, fill, of, Room, Live. -/
import Derived.Test.YtpobpijjpbggoaaPool4
import Derived.Test.YtpobpijjpbggoaaRow
import Derived.Test.YtpobpijjpbggoaaFlat
import Derived.Test.YtpobpijjpbggoaaWord
set_option linter.unusedSimpArgs false
set_option linter.unusedVariables false
namespace Go.Ten
theorem get_set! {α : Type} [Inhabited α] (l : List α) (i j : Nat) (x : α) (h : i < l.length) : (l.set i x)[j]! = if j = i then x else l[j]! := by
  simp only [List.getElem!_eq_getElem?_getD, List.getElem?_set]
  by_cases h1 : j = i
  · subst h1; simp [h]
  · simp [h1, Ne.symm h1]
theorem get!_mem {α : Type} [Inhabited α] (l : List α) (i : Nat) (h : i < l.length) : l[i]! ∈ l := by
  rw [getElem!_pos l i h]; exact List.getElem_mem h
end Go.Ten
namespace Go.Proofs.Ytpobpijjpbggoaa
open Go.RowKit Go.Ten

set_option maxRecDepth 100000 in
set_option maxHeartbeats 400000 in
theorem size_calls (c : Int) (w : World) : Calls Try.prog 65 #[.int .i64 c] w fun e w' => e = .returned (.int .i64 (MemF.size c)) ∧ w = w' := by
  have h : ∀ (n : Nat) (hn : MemF.size c = n), (c = 0 ∧ n = 8 ∨ c = 1 ∧ n = 12 ∨ c = 2 ∧ n = 24 ∨ c = 3 ∧ n = 88 ∨ c = 4 ∧ n = 264 ∨ ((c == 0) = false ∧ (c == 1) = false ∧ (c == 2) = false ∧ (c == 3) = false ∧ (c == 4) = false) ∧ n = 0) := by
    intro n hn
    unfold MemF.size at hn
    simp only [beq_eq_false_iff_ne]
    split at hn; omega
    split at hn; omega
    split at hn; omega
    split at hn; omega
    split at hn <;> omega
  rcases h _ rfl with ⟨rfl, h⟩ | ⟨rfl, h⟩ | ⟨rfl, h⟩ | ⟨rfl, h⟩ | ⟨rfl, h⟩ | ⟨⟨h1, h2, h3, h4, h5⟩, h⟩ <;> rw [h] <;> clear h <;>
  · go_enter Try.func65, Try.ntmps65
    go_wp2
    go_ret
    exact ⟨rfl, rfl⟩
theorem size_le (c : Int) : MemF.size c ≤ 264 := by
  unfold MemF.size
  split; omega
  split; omega
  split; omega
  split; omega
  split <;> omega
theorem size_pos (c : Int) (h0 : 0 ≤ c) (h1 : c < 5) : 8 ≤ MemF.size c := by
  unfold MemF.size
  split; omega
  split; omega
  split; omega
  split; omega
  split <;> omega

set_option maxRecDepth 100000 in
set_option maxHeartbeats 400000 in
theorem poison_calls (c : Int) (w : World) : Calls Try.prog 64 #[.int .i64 c] w fun e w' => ∃ g, e = .returned (.slice (some ⟨g, 0, none⟩) (MemF.size c) (MemF.size c)) ∧ w.heap.size ≤ g ∧ Blk w' g (u64s (MemF.poison c)) 36 ∧ Below w.heap.size w w' := by
  have hs := size_calls c
  have hle := size_le c
  have hp : u64s (MemF.poison c) = List.replicate (MemF.size c) (.int .u64 MemF.poisonWord) := by unfold MemF.poison u64s; rw [List.map_replicate]
  rw [hp]
  clear hp
  generalize MemF.size c = n at *
  unfold MemF.poisonWord
  go_enter Try.func64, Try.ntmps64
  go_wp2_with fail
  refine (hs _).mono ?_
  rintro e w1 ⟨rfl, rfl⟩
  clear hs
  go_wp2_with fail
  refine (repeat_u64_calls w.heap.size 1 16045690984833335023 n _ ?_ (Nat.le_refl _) (by omega)).mono ?_
  · exact one_new w _ _ 0 _ rfl
  rintro e w2 ⟨g, rfl, hg, hb, hB⟩
  replace hB := Lib.hid hB
  replace hb := Lib.hid hb
  replace hg := Lib.hid hg
  go_wp2_with fail
  go_ret
  have hg := hg.out
  simp at hg
  refine ⟨g, rfl, by omega, hb.out, ?_⟩
  exact ((Below.refl _ w).alloc (Nat.le_refl _) _).trans (hB.out.mono (by simp))

/-! ### the arena in memory -/
/-- Where an arena lies: its slots' row, their words' slices, its pools. -/
structure AW where
  gs : Nat
  cap : Nat
  vs : List Value
  rest : List Value
  bs : Nat → Nat
  Fs : Nat → List Nat
def slotC (x : MemF.Slot × Value) : List Value := [.int .i64 x.1.cls, .int .i64 x.1.gen, .bool x.1.live, x.2]
theorem slotC_len (x : MemF.Slot × Value) : (slotC x).length = 4 := rfl
/-- What of it may change; all of it. -/
def AM (a : Nat) (X : AW) : Nat → Prop := fun k => k = a ∨ k = X.gs ∨ ∃ c, c < 5 ∧ k ∈ X.Fs c
def AF (a : Nat) (X : AW) : Nat → Prop := fun k => AM a X k ∨ ∃ v ∈ X.vs, v.ownBlock = some k
structure ArenaX (w : World) (a : Nat) (A : MemF.Ar) (X : AW) : Prop where
  blk : Blk w a [.slice (some ⟨X.gs, 0, none⟩) A.slots.length X.cap, .pointer (some ⟨X.bs 0, 0, none⟩), .pointer (some ⟨X.bs 1, 0, none⟩), .pointer (some ⟨X.bs 2, 0, none⟩), .pointer (some ⟨X.bs 3, 0, none⟩), .pointer (some ⟨X.bs 4, 0, none⟩)] 116
  row : Blk w X.gs ((A.slots.zip X.vs).flatMap slotC ++ X.rest) 121
  cap : A.slots.length ≤ X.cap
  vlen : X.vs.length = A.slots.length
  words : ∀ i, i < A.slots.length → CellsR w X.vs[i]! (A.slots[i]!).words.length (u64s (A.slots[i]!).words) ∧ 0 < (A.slots[i]!).words.length
  off : ∀ v ∈ X.vs, ∀ k, v.ownBlock = some k → ¬ AM a X k
  pools : ∀ c, c < 5 → PoolAt w (X.bs c) 1024 A.free[c]! (X.Fs c)
  ne : a ≠ X.gs
  ne1 : ∀ c, c < 5 → a ∉ X.Fs c ∧ X.gs ∉ X.Fs c
  ne2 : ∀ c d k, c < 5 → d < 5 → k ∈ X.Fs c → k ∈ X.Fs d → c = d
theorem ArenaX.upd {S : Nat → Prop} {w w' : World} {a : Nat} {A : MemF.Ar} {X : AW} (h : ArenaX w a A X) (hu : Upd S w w') (hs : ∀ k, AF a X k → ¬ S k) : ArenaX w' a A X := by
  refine ⟨hu.blk (hs _ (.inl (.inl rfl))) h.blk, hu.blk (hs _ (.inl (.inr (.inl rfl)))) h.row, h.cap, h.vlen, fun i hi => ⟨(h.words i hi).1.upd hu ?_, (h.words i hi).2⟩, h.off, fun c hc => PoolAt.upd hu (h.pools c hc) fun k hk => hs k (.inl (.inr (.inr ⟨c, hc, hk⟩))), h.ne, h.ne1, h.ne2⟩
  intro k _ hk
  exact hs k (.inr ⟨_, get!_mem _ _ (by rw [h.vlen]; exact hi), hk⟩)
theorem ArenaX.cell {w : World} {a : Nat} {A : MemF.Ar} {X : AW} (h : ArenaX w a A X) (i j : Nat) (hi : i < A.slots.length) (hj : j < 4) : w.cell? ⟨X.gs, i * 4 + j, none⟩ = (slotC (A.slots[i]!, X.vs[i]!))[j]? := by
  have hz : i < (A.slots.zip X.vs).length := by rw [List.length_zip, h.vlen]; omega
  rw [h.row.flat slotC_len i j hz hj]
  have hv : i < X.vs.length := by rw [h.vlen]; exact hi
  rw [List.getElem_zip, getElem!_pos A.slots i hi, getElem!_pos X.vs i hv]
theorem ArenaX.lt {w : World} {a : Nat} {A : MemF.Ar} {X : AW} (h : ArenaX w a A X) : ∀ k, AF a X k → k < w.heap.size := by
  rintro k ((rfl | rfl | ⟨c, hc, hk⟩) | ⟨v, hv, hk⟩)
  · exact h.blk.lt
  · exact h.row.lt
  · exact (h.pools c hc).lt k hk
  · obtain ⟨i, hi, rfl⟩ := List.getElem_of_mem hv
    have hi' : i < A.slots.length := by rw [← h.vlen]; exact hi
    obtain ⟨h1, h2⟩ := h.words i hi'
    rw [getElem!_pos X.vs i hi] at h1
    obtain ⟨k', h3, h4⟩ := h1.lt (by intro e; have e := congrArg List.length e; simp only [u64s, List.length_map, List.length_nil] at e; omega)
    rw [h3] at hk
    cases hk
    exact h4
theorem zip_set1 {α β : Type} (l : List α) (r : List β) (i : Nat) (x : α) (y : β) : (l.set i x).zip (r.set i y) = (l.zip r).set i (x, y) := by
  apply List.ext_getElem?
  intro j
  simp only [List.getElem?_zip_eq_some, List.zip, List.getElem?_zipWith, List.getElem?_set]
  by_cases h : i = j
  · subst h
    by_cases h1 : i < l.length <;> by_cases h2 : i < r.length <;> simp [h1, h2, List.getElem?_eq_none] <;> omega
  · simp [h]
/-- A slot's cell is written. -/
theorem ArenaX.setG {w w' : World} {a : Nat} {A : MemF.Ar} {X : AW} (h : ArenaX w a A X) (i j : Nat) (hi : i < A.slots.length) (hj : j < 4) (s : MemF.Slot) (u v : Value) (hs : slotC (s, u) = (slotC (A.slots[i]!, X.vs[i]!)).set j v)
    (hup : Upd (fun k => k = X.gs) w w') (hrow : ∀ xs, Blk w X.gs xs 121 → Blk w' X.gs (xs.set (i * 4 + j) v) 121)
    (hw : CellsR w' u s.words.length (u64s s.words) ∧ 0 < s.words.length) (hu : ∀ k, u.ownBlock = some k → ¬ AM a X k) : ArenaX w' a (A.setSlot i s) { X with vs := X.vs.set i u } := by
  have hz : i < (A.slots.zip X.vs).length := by rw [List.length_zip, h.vlen]; omega
  have hv : i < X.vs.length := by rw [h.vlen]; exact hi
  refine ⟨?_, ?_, ?_, ?_, ?_, ?_, ?_, h.ne, h.ne1, h.ne2⟩
  · have := hup.blk h.ne h.blk
    simpa [MemF.Ar.setSlot] using this
  · have h1 := hrow _ h.row
    have hlen := flat_len slotC 4 slotC_len (A.slots.zip X.vs)
    rw [List.set_append_left _ _ (by omega), flat_set slotC 4 slotC_len _ i j v (s, u) hz hj (by rw [List.getElem_zip, hs, getElem!_pos A.slots i hi, getElem!_pos X.vs i hv])] at h1
    rw [← zip_set1] at h1
    exact h1
  · simpa [MemF.Ar.setSlot] using h.cap
  · simp [MemF.Ar.setSlot, h.vlen]
  · intro k hk
    have hk : k < A.slots.length := by simpa [MemF.Ar.setSlot] using hk
    simp only [MemF.Ar.setSlot]
    rw [get_set! _ _ _ _ hi, get_set! _ _ _ _ hv]
    split
    · exact hw
    · refine ⟨(h.words k hk).1.upd hup ?_, (h.words k hk).2⟩
      exact fun k2 _ hk2 e => h.off _ (get!_mem _ _ (by rw [h.vlen]; exact hk)) k2 hk2 (.inr (.inl e))
  · intro y hy k hk
    rcases List.mem_or_eq_of_mem_set hy with hy | rfl
    · exact h.off y hy k hk
    · exact hu k hk
  · intro c hc
    exact PoolAt.upd hup (h.pools c hc) fun k hk e => (h.ne1 c hc).2 (by rw [← e]; exact hk)
theorem ArenaX.set {w : World} {a : Nat} {A : MemF.Ar} {X : AW} (h : ArenaX w a A X) (i j : Nat) (hi : i < A.slots.length) (hj : j < 4) (s : MemF.Slot) (u v : Value) (hs : slotC (s, u) = (slotC (A.slots[i]!, X.vs[i]!)).set j v)
    (hw : CellsR w u s.words.length (u64s s.words) ∧ 0 < s.words.length) (hu : ∀ k, u.ownBlock = some k → ¬ AM a X k) : ArenaX (w.setCell ⟨X.gs, i * 4 + j, none⟩ v) a (A.setSlot i s) { X with vs := X.vs.set i u } := by
  have hup : Upd (fun k => k = X.gs) w (w.setCell ⟨X.gs, i * 4 + j, none⟩ v) := (Upd.refl (fun k => k = X.gs) w).setCell (p := ⟨X.gs, i * 4 + j, none⟩) (.inl rfl) v
  exact h.setG i j hi hj s u v hs hup (fun xs hx => hx.setCell _ _) ⟨hw.1.upd hup fun k _ hk e => hu k hk (.inr (.inl e)), hw.2⟩ hu
/-- A slot's cell is written, its words stay. -/
theorem ArenaX.set0 {w : World} {a : Nat} {A : MemF.Ar} {X : AW} (h : ArenaX w a A X) (i j : Nat) (hi : i < A.slots.length) (hj : j < 4) (s : MemF.Slot) (v : Value) (hs : slotC (s, X.vs[i]!) = (slotC (A.slots[i]!, X.vs[i]!)).set j v) (hw : s.words = (A.slots[i]!).words) :
    ArenaX (w.setCell ⟨X.gs, i * 4 + j, none⟩ v) a (A.setSlot i s) X := by
  have hv : i < X.vs.length := by rw [h.vlen]; exact hi
  have h1 := h.set i j hi hj s X.vs[i]! v hs (by rw [hw]; exact h.words i hi) (h.off _ (get!_mem _ _ hv))
  rwa [show X.vs.set i X.vs[i]! = X.vs by rw [getElem!_pos X.vs i hv]; exact List.set_getElem_self hv] at h1

set_option maxRecDepth 100000 in
set_option maxHeartbeats 400000 in
theorem room_calls (a : Nat) (A : MemF.Ar) (X : AW) (c : Int) (w : World) (h : ArenaX w a A X) :
    Calls Try.prog 80 #[.pointer (some ⟨a, 0, none⟩), .int .i64 c] w fun e w' => e = .returned (.int .i64 (A.room c)) ∧ w = w' := by
  unfold MemF.Ar.room
  by_cases h0 : c < 0
  · rw [if_pos (.inl h0)]
    go_enter Try.func80, Try.ntmps80
    go_wp2
    go_ret
    exact ⟨rfl, rfl⟩
  by_cases h1 : 5 ≤ c
  · rw [if_pos (.inr h1)]
    have h0' : 0 ≤ c := by omega
    clear h0
    go_enter Try.func80, Try.ntmps80
    go_wp2
    go_ret
    exact ⟨rfl, rfl⟩
  rw [if_neg (by omega)]
  have hc := h.blk.cell
  obtain ⟨n, rfl⟩ := Int.eq_ofNat_of_zero_le (show 0 ≤ c by omega)
  have hn : n < 5 := by omega
  clear h0 h1
  have hl := pool_len _ _ _ _ w (h.pools n hn)
  simp only [Int.toNat_natCast]
  generalize (A.free[n]!).length = N at hl ⊢
  clear h
  match n, hn with
  | 0, _ | 1, _ | 2, _ | 3, _ | 4, _ =>
    go_enter Try.func80, Try.ntmps80
    go_wp2_with fail
    refine hl.mono ?_
    rintro e w' ⟨rfl, rfl⟩
    go_wp2_with fail
    go_ret
    exact ⟨rfl, rfl⟩
end Go.Proofs.Ytpobpijjpbggoaa
