/- package term: Right; tendrilbook.Same at string; TokenRuns. -/
import Derived.Test.YtpobpijjpbggoaaDoorTok3
import Derived.Test.YtpobpijjpbggoaaDoorTokLaw
set_option linter.unusedSimpArgs false
set_option linter.unusedVariables false
namespace Go.Proofs.YtpobpijjpbggoaaDoor
open Go.RowKit Go.Shelf Go.Ten Go.Ten.Qy Go.Ten.Tk

theorem toList_lit (l : List UInt8) : (ByteArray.mk l.toArray).toList = l := by rw [Lib.toList_data]
attribute [local go_sem] toList_lit

/-- The slice v reads as these strings. -/
def StrsR (w : World) (v : Value) (xs : List (List UInt8)) : Prop := ∃ p c, v = .slice p xs.length c ∧ ((xs.length ≤ 4294967296 ∧ xs.length ≤ c) ∧ ∀ a, p = some a → 0 < xs.length → a = ⟨a.block, a.off, none⟩) ∧
  ∀ (i : Nat) (h : i < xs.length), ∃ blk off, p = some ⟨blk, off, none⟩ ∧ w.cell? ⟨blk, off + i, none⟩ = some (.string ⟨xs[i].toArray⟩)
theorem StrsR.upd {S : Nat → Prop} {w w' : World} {v : Value} {q : List (List UInt8)} (h : StrsR w v q) (hu : Upd S w w') (hs : ∀ k, k < w.heap.size → v.ownBlock = some k → ¬ S k) : StrsR w' v q := by
  obtain ⟨p, c, rfl, hl, hc⟩ := h
  refine ⟨p, c, rfl, hl, fun i hi => ?_⟩
  obtain ⟨blk, off, rfl, h1⟩ := hc i hi
  have hb : ¬ S blk := hs blk (cell_lt h1) rfl
  exact ⟨blk, off, rfl, hu.cell hb h1⟩
theorem StrsR.grew {w w' : World} {v : Value} {q : List (List UInt8)} (h : StrsR w v q) (hb : Below w.heap.size w w') : StrsR w' v q :=
  h.upd (S := fun _ => False) ⟨hb.os, hb.tape, hb.output, hb.size, fun k hk _ => hb.block k hk⟩ fun _ _ _ h => h
theorem StrsR.of_owns {w : World} {B : Nat} {p : Option Addr} {c : Nat} {xs : List (List UInt8)} (h : w.ownsRow B 9 1 (.slice p xs.length c) xs.length (strs xs)) (hl : xs.length ≤ 4294967296) : StrsR w (.slice p xs.length c) xs := by
  obtain ⟨p', cap', hv, hp0, hp1⟩ := own_form h
  simp only [Value.slice.injEq] at hv
  obtain ⟨rfl, _, rfl⟩ := hv
  have hcap : xs.length ≤ c := by
    rcases h.2 with ⟨_, h0⟩ | ⟨g, cap, cur, hv, _, _, hn, _⟩
    · omega
    · simp only [Value.slice.injEq] at hv; omega
  refine ⟨p, c, rfl, ⟨⟨hl, hcap⟩, fun a e _ => by have := hp1 a e; rw [this]⟩, fun i hi => ?_⟩
  rcases p with _ | a
  · have := hp0 rfl; omega
  · have ea := hp1 a rfl
    rw [ea] at h ⊢
    refine ⟨a.block, 0, rfl, ?_⟩
    have := h.cellAt i (by omega)
    rw [Nat.zero_add, this]
    simp [strs, hi]
theorem StrsR.lit {w : World} {b : Nat} {xs : List (List UInt8)} (h : Blk w b (strs xs) 9) (hl : xs.length ≤ 4294967296) : StrsR w (.slice (some ⟨b, 0, none⟩) xs.length xs.length) xs := by
  refine ⟨_, _, rfl, ⟨⟨hl, Nat.le_refl _⟩, fun a e _ => by cases e; rfl⟩, fun i hi => ⟨b, 0, rfl, ?_⟩⟩
  rw [h.cell]
  simp [strs, hi]

set_option maxRecDepth 100000 in
set_option maxHeartbeats 400000 in
theorem right_calls (x : List UInt8) (w : World) (hx : x ≠ [] ∧ x.length ≤ 12 ∧ Lib.indexByte x 0 = -1) : Calls Tryd.prog 6 #[.string ⟨x.toArray⟩] w fun e w' => e = .returned (.bool true) ∧ w = w' := by
  obtain ⟨h1, h2, h3⟩ := hx
  have hsz := size_str x
  have hidx := Tryd.strings_IndexByte ⟨x.toArray⟩ 0 w
  have e0 : Lib.indexByte (ByteArray.mk x.toArray).data.toList (0 : Int).toNat.toUInt8 = -1 := h3
  rw [e0] at hidx
  have hne : (x == []) = false := by simpa using h1
  obtain ⟨L, hL⟩ : ∃ L, x.length = L := ⟨_, rfl⟩
  rw [hL] at hsz h2
  replace hL := Lib.hid hL
  have hcast : (L : Int) ≤ 12 := by omega
  clear h1 h3 e0
  go_enter Tryd.func6, Tryd.ntmps6
  go_wp2_with (go_at_call 12; refine hidx.mono ?_; rintro e w' ⟨rfl, rfl⟩)
  all_goals go_ret
  all_goals exact ⟨rfl, rfl⟩

set_option maxRecDepth 100000 in
set_option maxHeartbeats 1000000 in
theorem same_str (va vb : Value) (xs ys : List (List UInt8)) (w : World) (h : StrsR w va xs) (hy : StrsR w vb ys) : Calls Tryd.prog 7 #[va, vb] w fun e w' => e = .returned (.bool (decide (xs = ys))) ∧ ∃ n, w' = w.drewN n := by
  obtain ⟨p, c, rfl, ⟨hl, _⟩, hc⟩ := h
  obtain ⟨p', c', rfl, ⟨hl', _⟩, hc'⟩ := hy
  by_cases hlen : xs.length = ys.length
  · go_enter Tryd.func7, Tryd.ntmps7
    obtain ⟨N, hN⟩ : ∃ N, xs.length = N := ⟨_, rfl⟩
    have hN' : ys.length = N := by omega
    rw [hN, hN']
    simp only [hN] at hc
    simp only [hN'] at hc'
    replace hN := Lib.hid hN
    replace hN' := Lib.hid hN'
    clear hlen
    go_wp2_with fail
    go_loopw [5] (fun v wr => ∃ (k m : Nat), v = .int .i64 k ∧ k ≤ N ∧ wr = w.drewN m ∧ xs.take k = ys.take k) (fun v _ => N - (intOf v).toNat)
    case atStart => exact ⟨0, 0, rfl, by omega, rfl, rfl⟩
    case round =>
      obtain ⟨k, m, rfl, hk, rfl, ht⟩ := hrel
      replace ht := Lib.hid ht
      by_cases hlt : k < N
      · obtain ⟨b1, o1, rfl, h1⟩ := hc k hlt
        obtain ⟨b2, o2, rfl, h2⟩ := hc' k hlt
        have hx : xs.take (k + 1) = xs.take k ++ [xs[k]'(by have := hN.out; omega)] := List.take_succ_eq_append_getElem _
        have hy : ys.take (k + 1) = ys.take k ++ [ys[k]'(by have := hN'.out; omega)] := List.take_succ_eq_append_getElem _
        generalize xs[k]'(by have := hN.out; omega) = x at *
        generalize ys[k]'(by have := hN'.out; omega) = y at *
        replace hx := Lib.hid hx
        replace hy := Lib.hid hy
        clear hc hc'
        have hcast : (k : Int) < (N : Int) := by omega
        by_cases hxy : x = y
        · subst hxy
          go_wp2_with fail
          refine undraw ?hB ?_
          case hB => kernel_rfl
          intro K hK
          simp only [Undraw.withAsks, Undraw.asksOf, Undraw.intsOf, Undraw.minLits, Undraw.strsOf, List.contains, List.elem, Nat.reduceBEq, if_true, List.map_nil, List.map_cons, List.nil_append, List.append_nil, List.cons_append]
          go_wp2_with fail
          go_roundw
          case rel => exact ⟨k + 1, m + 1, by simp, by omega, rfl, by rw [hx.out, hy.out, ht.out]⟩
          case measure => simp [intOf]; omega
        · have hxb : (x == y) = false := by simpa using hxy
          go_wp2_with fail
          refine undraw ?hB ?_
          case hB => kernel_rfl
          intro K hK
          simp only [Undraw.withAsks, Undraw.asksOf, Undraw.intsOf, Undraw.minLits, Undraw.strsOf, List.contains, List.elem, Nat.reduceBEq, if_true, List.map_nil, List.map_cons, List.nil_append, List.append_nil, List.cons_append]
          go_wp2_with fail
          go_ret
          have hne : ¬ xs = ys := by
            intro e
            have h3 := hx.out
            have h4 := hy.out
            rw [e] at h3
            rw [h3] at h4
            have := List.append_cancel_left h4
            simp at this
            exact hxy this
          exact ⟨by simp [hne], _, rfl⟩
      · have hkl : k = N := by omega
        subst hkl
        have e : xs = ys := by
          have := ht.out
          rwa [List.take_of_length_le (by have := hN.out; omega), List.take_of_length_le (by have := hN'.out; omega)] at this
        go_wp2_with fail
        go_ret
        exact ⟨by simp [e], _, rfl⟩
  · have hne : ¬ xs = ys := fun e => hlen (by rw [e])
    have hcast : ((xs.length : Int) == (ys.length : Int)) = false := by simp; omega
    go_enter Tryd.func7, Tryd.ntmps7
    go_wp2_with fail
    go_ret
    exact ⟨by simp [hne], 0, rfl⟩

set_option maxRecDepth 100000 in
set_option maxHeartbeats 1000000 in
theorem runs_calls (w : World) : Calls Tryd.prog 4 #[] w fun e w' => e = .returned (.bool true) ∧ Below w.heap.size w w' := by
  go_enter Tryd.func4, Tryd.ntmps4
  have hT := terms_calls runText (by decide) w
  rw [run_terms] at hT
  go_wp2_with (go_at_call 5; refine hT.mono ?_; rintro e w' ⟨p, c, rfl, ho, hb⟩)
  have hlen : runTerms.length ≤ 4294967296 := by decide
  have hsame := same_str _ _ runTerms runTerms _ ((StrsR.of_owns ho hlen).grew ((Below.refl _ w').alloc (Nat.le_refl _) _)) (StrsR.lit (Blk.new w' (strs runTerms) 9) hlen)
  refine hsame.mono ?_
  rintro e w2 ⟨rfl, n, rfl⟩
  have e1 : decide (runTerms = runTerms) = true := by simp
  rw [e1]
  have hsz := hb.size
  clear hsame ho hT e1
  go_wp2_with fail
  go_ret
  exact ⟨rfl, (hb.alloc hsz _).trans (below_dN _ n)⟩
end Go.Proofs.YtpobpijjpbggoaaDoor
