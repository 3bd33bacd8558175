/- package merge: Inter, Minus; query's set. -/
import Derived.Test.YtpobpijjpbggoaaMerge1
set_option linter.unusedSimpArgs false
set_option linter.unusedVariables false
namespace Go.Proofs.Ytpobpijjpbggoaa
open Go.RowKit Go.Ten Go.Ten.Mg

theorem NewInts.read {w w' : World} {xs : List Int} {p : Option Addr} {c : Nat} (ho : w'.ownsRow w.heap.size 3 1 (.slice p xs.length c) xs.length (ints xs)) (hl : xs.length ≤ 4294967296) : IntsR w' (.slice p xs.length c) xs := IntsR.of_owns ho hl
theorem owns_grew {B : Nat} {w w' : World} (hb : Below w.heap.size w w') {e : TypeId} {size n : Nat} {v : Value} {xs : List Value} (ho : w.ownsRow B e size v n xs) : w'.ownsRow B e size v n xs :=
  Upd.owns (S := fun _ => False) ⟨hb.os, hb.tape, hb.output, hb.size, fun k hk _ => hb.block k hk⟩ ho fun _ _ h => h

set_option maxRecDepth 100000 in
set_option maxHeartbeats 1000000 in
theorem set_calls (v : Value) (xs : List Int) (w : World) (h : IntsR w v xs) : Calls Try.prog 58 #[v] w (NewInts w (setOf xs)) := by
  unfold NewInts
  have hcl := clone_calls v xs w h
  have hl := h.len
  obtain ⟨p, c, rfl, _, _⟩ := h
  go_enter Try.func58, Try.ntmps58
  go_wp2_with fail
  refine hcl.mono ?_
  rintro e w1 ⟨p1, c1, rfl, ho1, hb1⟩
  have hsz1 := hb1.size
  have hs := sort_calls w.heap.size p1 c1 xs w1 ho1 hsz1 hl
  clear hcl
  go_wp2_with fail
  refine hs.mono ?_
  rintro e w2 ⟨rfl, ho2, hb2⟩
  have hsz2 := hb2.size
  have hlen : (xs.mergeSort fun x y => decide (x ≤ y)).length = xs.length := List.length_mergeSort xs
  have hc := compact_calls w.heap.size p1 c1 (xs.mergeSort fun x y => decide (x ≤ y)) w2 ho2 (by omega) (by omega)
  rw [hlen] at hc
  clear hs
  have hrest : ∀ (x : Ending) (w3 : World), True := fun _ _ => trivial
  go_wp2_with fail
  refine hc.mono ?_
  rintro e w3 ⟨rfl, ho3, hb3⟩
  go_wp2_with fail
  go_ret
  exact ⟨p1, c1, rfl, ho3, (hb1.trans hb2).trans hb3⟩

set_option maxRecDepth 100000 in
set_option maxHeartbeats 1000000 in
theorem minus_calls (va vb : Value) (xs ys : List Int) (w : World) (h : IntsR w va xs) (hy : IntsR w vb ys) : Calls Try.prog 59 #[va, vb] w (NewInts w (minus xs ys)) := by
  have h1 := rising_calls va xs w h
  have hl := h.len
  have hly := hy.len
  have hrl := rising_len xs
  have hry := rising_len ys
  have hrs := rising_sorted ys
  have hy0 := hy
  obtain ⟨p, c, rfl, _, _⟩ := h
  obtain ⟨pb, cb, rfl, _, _⟩ := hy0
  unfold NewInts at *
  unfold minus
  go_enter Try.func59, Try.ntmps59
  go_wp2_with fail
  refine h1.mono ?_
  rintro e w1 ⟨p1, c1, rfl, ho1, hb1⟩
  have h2 := rising_calls _ ys w1 (hy.grew hb1)
  unfold NewInts at h2
  clear h1
  go_wp2_with fail
  refine h2.mono ?_
  rintro e w2 ⟨p2, c2, rfl, ho2, hb2⟩
  have hsz1 := hb1.size
  have hsz2 := hb2.size
  have r1 := IntsR.of_owns (owns_grew hb2 ho1) (by omega)
  have r2 := IntsR.of_owns ho2 (by omega)
  have h3 := both_calls _ _ _ _ false w2 r1 r2 hrs
  unfold NewInts at h3
  clear h2
  go_wp2_with fail
  refine h3.mono ?_
  rintro e w3 ⟨p3, c3, rfl, ho3, hb3⟩
  go_wp2_with fail
  go_ret
  exact ⟨p3, c3, rfl, owns_base ho3 (by omega), (hb1.trans (hb2.mono hsz1)).trans (hb3.mono (by omega))⟩

set_option maxRecDepth 100000 in
set_option maxHeartbeats 1000000 in
theorem inter_calls (b o : Nat) (cl : Nat) (va vb : Value) (xs ys : List Int) (w : World) (ha : w.cell? ⟨b, o, none⟩ = some va) (hb : w.cell? ⟨b, o + 1, none⟩ = some vb) (hcl : 2 ≤ cl) (h : IntsR w va xs) (hy : IntsR w vb ys) :
    Calls Try.prog 31 #[.slice (some ⟨b, o, none⟩) 2 cl] w (NewInts w (inter xs ys)) := by
  have h1 := rising_calls va xs w h
  have hl := h.len
  have hly := hy.len
  have hrl := rising_len xs
  have hry := rising_len ys
  have hrs := rising_sorted ys
  have hy0 := hy
  obtain ⟨p, c, rfl, _, _⟩ := h
  obtain ⟨pb, cb, rfl, _, _⟩ := hy0
  unfold NewInts at *
  unfold inter
  go_enter Try.func31, Try.ntmps31
  go_wp2_with fail
  refine h1.mono ?_
  rintro e w1 ⟨p1, c1, rfl, ho1, hb1⟩
  have hsz1 := hb1.size
  clear h1
  go_wp2_with fail
  go_loopw [3, 16] (fun vo vi wr => (vi = .int .i64 0 ∧ vo = .slice p1 (rising xs).length c1 ∧ wr = w1) ∨
      (vi = .int .i64 1 ∧ ∃ p3 c3, vo = .slice p3 (both (rising xs) (rising ys) true).length c3 ∧ wr.ownsRow w.heap.size 3 1 (.slice p3 (both (rising xs) (rising ys) true).length c3) (both (rising xs) (rising ys) true).length (ints (both (rising xs) (rising ys) true)) ∧ Below w.heap.size w wr)) (fun _ v _ => 1 - (intOf v).toNat)
  case atStart => exact .inl ⟨rfl, rfl, rfl⟩
  case round =>
    rcases hrel with ⟨rfl, rfl, rfl⟩ | ⟨rfl, p3, c3, rfl, ho3, hb3⟩
    · have g2 := cell_grew hb1 hb
      have h2 := rising_calls _ ys wr (hy.grew hb1)
      unfold NewInts at h2
      go_wp2_with fail
      refine h2.mono ?_
      rintro e w2 ⟨p2, c2, rfl, ho2, hb2⟩
      have hsz2 := hb2.size
      have r1 := IntsR.of_owns (owns_grew hb2 ho1) (by omega)
      have r2 := IntsR.of_owns ho2 (by omega)
      have h3 := both_calls _ _ _ _ true w2 r1 r2 hrs
      unfold NewInts at h3
      clear h2
      go_wp2_with fail
      refine h3.mono ?_
      rintro e w3 ⟨p3, c3, rfl, ho3, hb3⟩
      go_wp2_with fail
      go_roundw
      case rel => exact .inr ⟨rfl, p3, c3, rfl, owns_base ho3 (by omega), (hb1.trans (hb2.mono hsz1)).trans (hb3.mono (by omega))⟩
      case measure => simp [intOf]
    · go_wp2_with fail
      go_ret
      exact ⟨p3, c3, rfl, ho3, hb3⟩
end Go.Proofs.Ytpobpijjpbggoaa
