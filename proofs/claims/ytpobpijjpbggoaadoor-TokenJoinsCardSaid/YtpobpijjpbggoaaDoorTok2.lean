/- package token: Letter; slices.Sort and Compact at strings; strings.SplitSeq. -/
import Derived.Test.YtpobpijjpbggoaaDoorTok1
import Derived.Sort.OwnSorted
import Derived.Lib.OwnBridge
import Derived.Lib.RowBridge
import Derived.Lib.ConvBytes
set_option linter.unusedSimpArgs false
set_option linter.unusedVariables false
namespace Go.Proofs.YtpobpijjpbggoaaDoor
open Go.RowKit Go.Shelf Go.Ten Go.Ten.Qy Go.Ten.Tk

theorem letter_int (c : UInt8) : ((letter c).toNat : Int) = if (97 ≤ (c.toNat : Int) ∧ (c.toNat : Int) ≤ 122) ∨ (48 ≤ (c.toNat : Int) ∧ (c.toNat : Int) ≤ 57) then (c.toNat : Int) else if 65 ≤ (c.toNat : Int) ∧ (c.toNat : Int) ≤ 90 then (c.toNat : Int) - 65 + 97 else 0 := by
  have h : ∀ n : Fin 256, ((letter (UInt8.ofFin n)).toNat : Int) = if (97 ≤ ((UInt8.ofFin n).toNat : Int) ∧ ((UInt8.ofFin n).toNat : Int) ≤ 122) ∨ (48 ≤ ((UInt8.ofFin n).toNat : Int) ∧ ((UInt8.ofFin n).toNat : Int) ≤ 57) then ((UInt8.ofFin n).toNat : Int) else if 65 ≤ ((UInt8.ofFin n).toNat : Int) ∧ ((UInt8.ofFin n).toNat : Int) ≤ 90 then ((UInt8.ofFin n).toNat : Int) - 65 + 97 else 0 := by decide +kernel
  exact h c.toFin

set_option maxRecDepth 100000 in
set_option maxHeartbeats 400000 in
theorem letter_calls (c : UInt8) (w : World) : Calls Tryd.prog 8 #[.int .u8 c.toNat] w fun e w' => e = .returned (.int .u8 (letter c).toNat) ∧ w = w' := by
  have hc := c.toNat_lt
  rw [letter_int]
  generalize c.toNat = x at *
  go_enter Tryd.func8, Tryd.ntmps8
  go_wp2
  all_goals go_ret
  all_goals exact ⟨rfl, rfl⟩

def strs (l : List (List UInt8)) : List Value := l.map fun s => .string ⟨s.toArray⟩
theorem strs_enc (l : List (List UInt8)) : strs l = l.map Go.Proofs.encStr := rfl
theorem info_str : (Tryd.prog.info? 9).map (fun i => (i.zero.map (fun z => z.cells.size), i.size, i.bytes)) = some (some 1, 1, 16) := by kernel_rfl

theorem sort_calls (B : Nat) (p : Option Addr) (c : Nat) (xs : List (List UInt8)) (w : World) (ho : w.ownsRow B 9 1 (.slice p xs.length c) xs.length (strs xs)) (hB : B ≤ w.heap.size) (hl : xs.length ≤ 4294967296) :
    Calls Tryd.prog 10 #[.slice p xs.length c] w fun e w' => e = .returned (.tuple #[]) ∧
      w'.ownsRow B 9 1 (.slice p (xs.mergeSort fun x y => decide (x ≤ y)).length c) (xs.mergeSort fun x y => decide (x ≤ y)).length (strs (xs.mergeSort fun x y => decide (x ≤ y))) ∧ Upd (fun k => some k = (Value.slice p xs.length c).ownBlock) w w' := by
  have hlen : (xs.mergeSort fun x y => decide (x ≤ y)).length = xs.length := List.length_mergeSort xs
  have ho0 := ho
  rcases ho.2 with ⟨hv, h0⟩ | ⟨g, cap, cur, hv, hbg, hg, hn, hm, hs, ht⟩
  · have hx : xs = [] := List.eq_nil_of_length_eq_zero h0
    subst hx
    refine (Tryd.slices_Sort_string_none p c w).mono ?_
    rintro e w' ⟨rfl, rfl⟩
    exact ⟨rfl, by simpa using ho0, Upd.refl _ _⟩
  · simp only [Value.slice.injEq] at hv
    obtain ⟨rfl, _, rfl⟩ := hv
    have hlt : g < w.heap.size := (Array.getElem?_eq_some_iff.1 hg).1
    refine (Tryd.slices_Sort_string g 0 c xs w (holds_of_block hg (by rw [← Nat.mul_one xs.length]; exact ht)) hlt (by omega)).mono ?_
    rintro e w' ⟨rfl, n, os, rfl⟩
    refine ⟨rfl, ?_, (upd_of_grown (grownBy_sorted _)).mono fun k _ e => by simpa [Value.ownBlock] using e⟩
    have := ownsRow_sorted (n := n) (os := os) (ts := xs.mergeSort fun x y => decide (x ≤ y)) hlen hbg hg hn hm hs
    rw [hlen]
    exact this

theorem compact_calls (B : Nat) (p : Option Addr) (c : Nat) (xs : List (List UInt8)) (w : World) (ho : w.ownsRow B 9 1 (.slice p xs.length c) xs.length (strs xs)) (hB : B ≤ w.heap.size) (hl : xs.length ≤ 4294967296) :
    Calls Tryd.prog 11 #[.slice p xs.length c] w fun e w' => e = .returned (.slice p (Lib.compact xs).length c) ∧
      w'.ownsRow B 9 1 (.slice p (Lib.compact xs).length c) (Lib.compact xs).length (strs (Lib.compact xs)) ∧ Upd (fun k => some k = (Value.slice p xs.length c).ownBlock) w w' := by
  have ho0 := ho
  have hle := Lib.compact_length_le xs
  by_cases hnil : xs = []
  · subst hnil
    refine (Tryd.slices_Compact_string_empty p c w).mono ?_
    rintro e w' ⟨rfl, rfl⟩
    exact ⟨rfl, ho0, Upd.refl _ _⟩
  · rcases ho.2 with ⟨hv, h0⟩ | ⟨g, cap, cur, hv, hbg, hg, hn, hm, hs, ht⟩
    · exact absurd (List.eq_nil_of_length_eq_zero h0) hnil
    · simp only [Value.slice.injEq] at hv
      obtain ⟨rfl, _, rfl⟩ := hv
      refine (Tryd.slices_Compact_string g 0 c xs w (holds_of_block hg (by rw [← Nat.mul_one xs.length]; exact ht)) (by omega) hn).mono ?_
      rintro e w' ⟨rfl, q, rfl⟩
      refine ⟨rfl, ?_, ⟨rfl, rfl, rfl, by simp [Go.Sort.putRow, Go.Sort.mapBlock, Go.Sort.ahead], fun k _ hk => by
        have hgk : g ≠ k := fun e => hk (by simp [Value.ownBlock, e])
        simp [Go.Sort.putRow, Go.Sort.mapBlock, Go.Sort.ahead, Array.getElem?_modify, hgk]⟩⟩
      rw [strs_enc] at ho0 ⊢
      have := Lib.ownsRow_putRow (q := q) (k := (Lib.compact xs).length) (ys := Lib.compact xs ++ List.replicate (xs.length - (Lib.compact xs).length) []) ho0 (by simp; omega) hle
      rw [List.take_left] at this
      exact this

set_option maxRecDepth 100000 in
set_option maxHeartbeats 400000 in
theorem splitseq_calls (s : ByteArray) (w : World) : Calls Tryd.prog 9 #[.string s, .string ⟨#[0]⟩] w fun e w' =>
    e = .returned (.func (.func 17) #[] #[.pointer (some ⟨w.heap.size + 1, 0, none⟩), .pointer (some ⟨w.heap.size, 0, none⟩), .pointer (some ⟨w.heap.size + 1 + 1, 0, none⟩)]) ∧
      w' = ((w.alloc (.cells #[.string s] 9)).alloc (.cells #[.string ⟨#[0]⟩] 9)).alloc (.cells #[.int .i64 0] 3) := by
  go_enter Tryd.func9, Tryd.ntmps9
  go_wp2
  go_ret
  exact ⟨rfl, rfl⟩

/-- A row that a conversion made: the first bytes of block g are l; they may be written. -/
def BytesAt (w : World) (g : Nat) (l : List UInt8) : Prop := ∃ cur, w.heap[g]? = some (.cells cur 5 (cur.size, cur.size + 1)) ∧ l.length ≤ cur.size ∧ ∀ j (h : j < l.length), cur[j]? = some (.int .u8 l[j].toNat)
theorem BytesAt.lt {w : World} {g : Nat} {l : List UInt8} (h : BytesAt w g l) : g < w.heap.size := by
  obtain ⟨cur, h1, _⟩ := h
  exact (Array.getElem?_eq_some_iff.1 h1).1
theorem BytesAt.cell {w : World} {g : Nat} {l : List UInt8} (h : BytesAt w g l) (j : Nat) (hj : j < l.length) : w.cell? ⟨g, j, none⟩ = some (.int .u8 l[j].toNat) := by
  obtain ⟨cur, h1, h2, h3⟩ := h
  simp [World.cell?, h1, h3 j hj]
theorem BytesAt.frozen {w : World} {g : Nat} {l : List UInt8} (h : BytesAt w g l) (j : Nat) (hj : j < l.length) : w.frozen? ⟨g, j, none⟩ = false := by
  obtain ⟨cur, h1, h2, h3⟩ := h
  simp [World.frozen?, h1]
  omega
theorem BytesAt.set {w : World} {g : Nat} {l : List UInt8} (h : BytesAt w g l) (j : Nat) (c : UInt8) : BytesAt (w.setCell ⟨g, j, none⟩ (.int .u8 c.toNat)) g (l.set j c) := by
  obtain ⟨cur, h1, h2, h3⟩ := h
  refine ⟨cur.setIfInBounds j (.int .u8 c.toNat), ?_, by simpa using h2, fun i hi => ?_⟩
  · simp [World.setCell, Array.getElem?_modify, h1]
  · rw [List.length_set] at hi
    rw [Array.getElem?_setIfInBounds]
    by_cases hij : j = i
    · subst hij
      simp [show j < cur.size by omega]
    · rw [if_neg hij, h3 i hi]
      simp [List.getElem_set, hij]
theorem BytesAt.new (w : World) (s : List UInt8) : BytesAt (Lib.bytesWorld w 5 ⟨s.toArray⟩) w.heap.size s := by
  refine ⟨_, Lib.bytesWorld_at_new w _ _, ?_, fun j hj => ?_⟩
  · simp [Lib.bytesCells]
  · simp [Lib.bytesCells, Array.getElem?_append, hj]
theorem bytesWorld_below (w : World) (e : TypeId) (s : ByteArray) : Below w.heap.size w (Lib.bytesWorld w e s) :=
  ⟨rfl, rfl, rfl, by rw [Lib.bytesWorld_size]; omega, fun k hk => Lib.bytesWorld_at_old w e s k hk⟩
end Go.Proofs.YtpobpijjpbggoaaDoor
