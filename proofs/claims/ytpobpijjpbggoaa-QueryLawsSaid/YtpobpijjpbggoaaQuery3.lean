/- package query: Parse. -/
import Derived.Test.YtpobpijjpbggoaaQuery2
set_option linter.unusedSimpArgs false
set_option linter.unusedVariables false
namespace Go.Proofs.Ytpobpijjpbggoaa
open Go.RowKit Go.Ten Go.Ten.Qy

theorem size_str (s : List UInt8) : (ByteArray.mk s.toArray).size = s.length := by simp [ByteArray.size]

set_option maxRecDepth 100000 in
set_option maxHeartbeats 1000000 in
theorem parse_calls (s : List UInt8) (w : World) : Calls Try.prog 19 #[.string ⟨s.toArray⟩] w fun e w' =>
    ∃ p c, e = .returned (.tuple #[.slice p (rdParse s).1.length c, .int .i64 (rdParse s).2]) ∧
      w'.ownsRow w.heap.size 57 2 (.slice p (rdParse s).1.length c) (rdParse s).1.length ((rdParse s).1.flatMap partCells) ∧ Below w.heap.size w w' := by
  have hsz := size_str s
  by_cases hl : 512 < s.length
  · go_enter Try.func19, Try.ntmps19
    go_wp2_with fail
    go_ret2
    rw [rdParse, if_pos hl]
    exact ⟨none, 0, rfl, World.ownsRow_nil _ _ _ _, Below.refl _ _⟩
  · have hp : rdParse s = if (if skipB (rdOr (rdFactor 64) ⟨s, 0, [], 0⟩).s = [] then pk (rdOr (rdFactor 64) ⟨s, 0, [], 0⟩) else rdWrong 7 (pk (rdOr (rdFactor 64) ⟨s, 0, [], 0⟩))).bad = 0 then
        ((if skipB (rdOr (rdFactor 64) ⟨s, 0, [], 0⟩).s = [] then pk (rdOr (rdFactor 64) ⟨s, 0, [], 0⟩) else rdWrong 7 (pk (rdOr (rdFactor 64) ⟨s, 0, [], 0⟩))).out, 0)
        else ([], (if skipB (rdOr (rdFactor 64) ⟨s, 0, [], 0⟩).s = [] then pk (rdOr (rdFactor 64) ⟨s, 0, [], 0⟩) else rdWrong 7 (pk (rdOr (rdFactor 64) ⟨s, 0, [], 0⟩))).bad) := by
      rw [rdParse, if_neg hl]
    have hr0 : Rd (w.alloc (.cells #[.string ⟨s.toArray⟩, .int .i64 0, .slice none 0 0, .int .i64 0] 102)) w.heap.size w.heap.size ⟨s, 0, [], 0⟩ :=
      ⟨none, 0, Blk.new w _ _, World.ownsRow_nil _ _ _ _, by simp [Value.ownBlock], Nat.le_refl _, by simp; omega, by simp⟩
    have hF := factor_fc w.heap.size w.heap.size 64 0 (by omega) (by omega)
    have hi0 : Iv 0 ⟨s, 0, [], 0⟩ := ⟨fun _ => rfl, by simp, by simp⟩
    have hb0 : Below w.heap.size w (w.alloc (.cells #[.string ⟨s.toArray⟩, .int .i64 0, .slice none 0 0, .int .i64 0] 102)) := (Below.refl _ w).alloc (Nat.le_refl _) _
    have hor := or_calls w.heap.size w.heap.size _ 0 hF ⟨s, 0, [], 0⟩ _ hr0 rfl hi0
    generalize rdOr (rdFactor 64) ⟨s, 0, [], 0⟩ = r1 at *
    generalize rdParse s = res at *
    have hp := Lib.hid hp
    go_enter Try.func19, Try.ntmps19
    go_wp2_with fail
    refine hor.mono ?_
    rintro e w1 ⟨rfl, h1, hb1⟩
    have hb1 := hb0.trans hb1
    clear hor hr0 hb0
    go_wp2_with fail
    refine (peek_calls _ _ r1 w1 h1).mono ?_
    rintro e w2 ⟨rfl, h2, hb2⟩
    have hb2 := hb1.trans hb2
    by_cases hk : skipB r1.s = []
    · have e1 := hp.out
      rw [if_pos hk] at e1
      rw [hk]
      obtain ⟨p, c, hb, ho, hne, hB, hs5, ho64⟩ := h2
      have hc := hb.cell
      have hf := hb.frozen
      by_cases hb0 : (pk r1).bad = 0
      · rw [if_pos hb0] at e1
        have e1 := Lib.hid e1
        rw [hb0] at hc
        go_wp2_with fail
        go_ret2
        rw [e1.out]
        exact ⟨p, c, rfl, ho, hb2⟩
      · rw [if_neg hb0] at e1
        have e1 := Lib.hid e1
        go_wp2_with fail
        refine undraw ?hB ?_
        case hB => kernel_rfl
        intro K hK
        simp only [Undraw.withAsks, Undraw.asksOf, Undraw.intsOf, Undraw.strsOf, List.contains, List.elem, Nat.reduceBEq, if_true, List.map_nil, List.map_cons, List.nil_append, List.append_nil, List.cons_append]
        go_wp2_with fail
        go_ret2
        rw [e1.out]
        exact ⟨none, 0, rfl, World.ownsRow_nil _ _ _ _, hb2.drew⟩
    · have e1 := hp.out
      rw [if_neg hk] at e1
      go_wp2_with fail
      refine (wrong_calls _ _ (pk r1) 7 w2 h2).mono ?_
      rintro e w3 ⟨rfl, h3, hu3⟩
      have hb3 := hb2.trans (hu3.below h2.hB fun k hk e => by omega)
      obtain ⟨p, c, hb, ho, hne, hB, hs5, ho64⟩ := h3
      have hc := hb.cell
      have hf := hb.frozen
      by_cases hb0 : (rdWrong 7 (pk r1)).bad = 0
      · rw [if_pos hb0] at e1
        have e1 := Lib.hid e1
        rw [hb0] at hc
        go_wp2_with fail
        go_ret2
        rw [e1.out]
        exact ⟨p, c, rfl, ho, hb3⟩
      · rw [if_neg hb0] at e1
        have e1 := Lib.hid e1
        go_wp2_with fail
        refine undraw ?hB ?_
        case hB => kernel_rfl
        intro K hK
        simp only [Undraw.withAsks, Undraw.asksOf, Undraw.intsOf, Undraw.strsOf, List.contains, List.elem, Nat.reduceBEq, if_true, List.map_nil, List.map_cons, List.nil_append, List.append_nil, List.cons_append]
        go_wp2_with fail
        go_ret2
        rw [e1.out]
        exact ⟨none, 0, rfl, World.ownsRow_nil _ _ _ _, hb3.drew⟩
end Go.Proofs.Ytpobpijjpbggoaa
