/- tendrilbook.Same at int, for TickRuns. -/
import Derived.Test.YtpobpijjpbggoaaWaits
set_option linter.unusedSimpArgs false
set_option linter.unusedVariables false
namespace Go.Proofs.Ytpobpijjpbggoaa
open Go.RowKit Go.Ten

/-- The slice v reads as these integers. -/
def IntsK (w : World) (v : Value) (xs : List Int) : Prop := ∃ p c, v = .slice p xs.length c ∧ (xs.length ≤ 4294967296 ∧ True) ∧
  ∀ (i : Nat) (h : i < xs.length), ∃ blk off, p = some ⟨blk, off, none⟩ ∧ w.cell? ⟨blk, off + i, none⟩ = some (.int .i64 xs[i])
theorem IntsK.of {w : World} {v : Value} {xs : List Int} (h : CellsR w v xs.length (xs.map (Value.int .i64))) : IntsK w v xs := by
  obtain ⟨p, c, rfl, h1, h2, h3, h4, h5⟩ := h
  refine ⟨p, c, rfl, ⟨h2, trivial⟩, fun i hi => ?_⟩
  exact h5 i _ (by rw [List.getElem?_map, List.getElem?_eq_getElem hi]; rfl)
set_option maxRecDepth 100000 in
set_option maxHeartbeats 1000000 in
theorem tick_same (va vb : Value) (xs ys : List Int) (w : World) (h : IntsK w va xs) (hy : IntsK w vb ys) : Calls Try.prog 30 #[va, vb] w fun e w' => e = .returned (.bool (decide (xs = ys))) ∧ ∃ n, w' = w.drewN n := by
  obtain ⟨p, c, rfl, ⟨hl, _⟩, hc⟩ := h
  obtain ⟨p', c', rfl, ⟨hl', _⟩, hc'⟩ := hy
  by_cases hlen : xs.length = ys.length
  · go_enter Try.func30, Try.ntmps30
    obtain ⟨N, hN⟩ : ∃ N, xs.length = N := ⟨_, rfl⟩
    have hN' : ys.length = N := by omega
    rw [hN, hN']
    simp only [hN] at hc
    simp only [hN'] at hc'
    replace hN := Lib.hid hN
    replace hN' := Lib.hid hN'
    clear hlen
    go_wp2_with fail
    go_loopw [5] (fun v wr => ∃ (k m : Nat), v = .int .i64 k ∧ k ≤ N ∧ wr = w.drewN m ∧ xs.take k = ys.take k) (fun v _ => N - (intOf v).toNat)
    case atStart => exact ⟨0, 0, rfl, by omega, rfl, rfl⟩
    case round =>
      obtain ⟨k, m, rfl, hk, rfl, ht⟩ := hrel
      replace ht := Lib.hid ht
      by_cases hlt : k < N
      · obtain ⟨b1, o1, rfl, h1⟩ := hc k hlt
        obtain ⟨b2, o2, rfl, h2⟩ := hc' k hlt
        have hx : xs.take (k + 1) = xs.take k ++ [xs[k]'(by have := hN.out; omega)] := List.take_succ_eq_append_getElem _
        have hy : ys.take (k + 1) = ys.take k ++ [ys[k]'(by have := hN'.out; omega)] := List.take_succ_eq_append_getElem _
        generalize xs[k]'(by have := hN.out; omega) = x at *
        generalize ys[k]'(by have := hN'.out; omega) = y at *
        replace hx := Lib.hid hx
        replace hy := Lib.hid hy
        clear hc hc'
        have hcast : (k : Int) < (N : Int) := by omega
        by_cases hxy : x = y
        · subst hxy
          go_wp2_with fail
          refine undraw ?hB ?_
          case hB => kernel_rfl
          intro K hK
          simp only [Undraw.withAsks, Undraw.asksOf, Undraw.intsOf, Undraw.strsOf, List.contains, List.elem, Nat.reduceBEq, if_true, List.map_nil, List.map_cons, List.nil_append, List.append_nil, List.cons_append]
          go_wp2_with fail
          go_roundw
          case rel => exact ⟨k + 1, m + 1, by simp, by omega, rfl, by rw [hx.out, hy.out, ht.out]⟩
          case measure => simp [intOf]; omega
        · have hxb : (x == y) = false := by simpa using hxy
          go_wp2_with fail
          refine undraw ?hB ?_
          case hB => kernel_rfl
          intro K hK
          simp only [Undraw.withAsks, Undraw.asksOf, Undraw.intsOf, Undraw.strsOf, List.contains, List.elem, Nat.reduceBEq, if_true, List.map_nil, List.map_cons, List.nil_append, List.append_nil, List.cons_append]
          go_wp2_with fail
          go_ret
          have hne : ¬ xs = ys := by
            intro e
            have h3 := hx.out
            have h4 := hy.out
            rw [e] at h3
            rw [h3] at h4
            have := List.append_cancel_left h4
            simp at this
            exact hxy this
          exact ⟨by simp [hne], _, rfl⟩
      · have hkl : k = N := by omega
        subst hkl
        have e : xs = ys := by
          have := ht.out
          rwa [List.take_of_length_le (by have := hN.out; omega), List.take_of_length_le (by have := hN'.out; omega)] at this
        go_wp2_with fail
        go_ret
        exact ⟨by simp [e], _, rfl⟩
  · have hne : ¬ xs = ys := fun e => hlen (by rw [e])
    have hcast : ((xs.length : Int) == (ys.length : Int)) = false := by simp; omega
    go_enter Try.func30, Try.ntmps30
    go_wp2_with fail
    go_ret
    exact ⟨by simp [hne], 0, rfl⟩
end Go.Proofs.Ytpobpijjpbggoaa
