/- package query: Right, Text, Terms. -/
import Derived.Test.YtpobpijjpbggoaaQuery3
set_option linter.unusedSimpArgs false
set_option linter.unusedVariables false
namespace Go.Proofs.Ytpobpijjpbggoaa
open Go.RowKit Go.Ten Go.Ten.Qy

theorem idx_list (l : List UInt8) (k : Nat) (h : k < (ByteArray.mk l.toArray).size) : (ByteArray.mk l.toArray)[k]'h = l[k]'(by simpa [ByteArray.size] using h) := rfl

def goodB (c : UInt8) : Bool := letter c == c && c != 0

set_option maxRecDepth 100000 in
set_option maxHeartbeats 1000000 in
theorem isTerm_calls (s : List UInt8) (hl : s.length ≤ 9223372036854775807) (w : World) : Calls Try.prog 84 #[.string ⟨s.toArray⟩] w fun e w' =>
    e = .returned (.bool (isTerm s)) ∧ ∃ n, w' = w.drewN n := by
  have hsz := size_str s
  have hdec : isTerm s = (s.all goodB && decide (s ≠ []) && decide (s.length ≤ 12)) := by
    rw [isTerm]
    congr 1
    congr 1
    rcases s <;> rfl
  go_enter Try.func84, Try.ntmps84
  go_wp2_with fail
  go_loopw [6] (fun v wr => ∃ (k m : Nat), v = .int .i64 k ∧ k ≤ s.length ∧ wr = w.drewN m ∧ (s.take k).all goodB = true) (fun v _ => s.length - (intOf v).toNat)
  case atStart => exact ⟨0, 0, rfl, by omega, rfl, by simp⟩
  case round =>
    obtain ⟨k, m, rfl, hk, rfl, hall⟩ := hrel
    by_cases hlt : k < s.length
    · have hcast : (k : Int) < (s.length : Int) := by omega
      obtain ⟨x, hxs⟩ : ∃ x, s[k] = x := ⟨_, rfl⟩
      have hi : (ByteArray.mk s.toArray)[k]'(by simpa [ByteArray.size] using hlt) = x := hxs
      have htake : s.take (k + 1) = s.take k ++ [x] := by rw [List.take_succ_eq_append_getElem hlt, hxs]
      have hmem : goodB x = false → isTerm s = false := by
        intro hg
        rw [hdec]
        have : s.all goodB = false := by
          rw [List.all_eq_false]
          exact ⟨x, hxs ▸ List.getElem_mem hlt, by simp [hg]⟩
        rw [this]; rfl
      have hall := Lib.hid hall
      have hdec := Lib.hid hdec
      clear hxs
      by_cases hz : x = 0
      · have hret := hmem (by rw [hz]; rfl)
        rw [hz] at hi
        clear hmem htake hz
        go_wp2_with fail
        refine undraw ?hB ?_
        case hB => kernel_rfl
        intro K hK
        simp only [Undraw.withAsks, Undraw.asksOf, Undraw.intsOf, Undraw.strsOf, List.contains, List.elem, Nat.reduceBEq, if_true, List.map_nil, List.map_cons, List.nil_append, List.append_nil, List.cons_append]
        go_wp2_with fail
        refine (calls_at (letter_calls 0 _) rfl).mono ?_
        rintro e w5 ⟨rfl, rfl⟩
        have e0 : ((letter 0).toNat : Int) = 0 := by decide
        rw [e0]
        go_wp2_with fail
        go_ret
        exact ⟨by rw [hret]; rfl, _, rfl⟩
      · by_cases hx : letter x = x
        · have hz1 := u8_zero hz
          have hgood : goodB x = true := by simp [goodB, hx, hz]
          clear hmem
          have hx := Lib.hid hx
          go_wp2_with fail
          refine undraw ?hB ?_
          case hB => kernel_rfl
          intro K hK
          simp only [Undraw.withAsks, Undraw.asksOf, Undraw.intsOf, Undraw.strsOf, List.contains, List.elem, Nat.reduceBEq, if_true, List.map_nil, List.map_cons, List.nil_append, List.append_nil, List.cons_append]
          go_wp2_with fail
          refine (letter_calls x _).mono ?_
          rintro e w5 ⟨rfl, rfl⟩
          rw [hx.out]
          go_wp2_with fail
          go_roundw
          case rel => exact ⟨k + 1, m + 1, by simp, by omega, rfl, by rw [htake, List.all_append, hall.out]; simp [hgood]⟩
          case measure => simp [intOf]; omega
        · have hret := hmem (by simp [goodB, hx])
          clear hmem
          have hx1 : (((letter x).toNat : Int) == (x.toNat : Int)) = false := by
            simp only [beq_eq_false_iff_ne, ne_eq]
            exact fun e => hx (UInt8.toNat_inj.1 (by omega))
          go_wp2_with fail
          refine undraw ?hB ?_
          case hB => kernel_rfl
          intro K hK
          simp only [Undraw.withAsks, Undraw.asksOf, Undraw.intsOf, Undraw.strsOf, List.contains, List.elem, Nat.reduceBEq, if_true, List.map_nil, List.map_cons, List.nil_append, List.append_nil, List.cons_append]
          go_wp2_with fail
          refine (letter_calls x _).mono ?_
          rintro e w5 ⟨rfl, rfl⟩
          go_wp2_with fail
          go_ret
          exact ⟨by rw [hret]; rfl, _, rfl⟩
    · have hkl : k = s.length := by omega
      subst hkl
      rw [List.take_length] at hall
      have hret : isTerm s = (decide (s ≠ []) && decide (s.length ≤ 12)) := by rw [hdec, hall]; rfl
      clear hdec hall
      rcases s with _ | ⟨x, t⟩
      · go_wp2_with fail
        go_ret
        exact ⟨by rw [hret]; rfl, _, rfl⟩
      · have hret := Lib.hid hret
        go_wp2_with fail
        go_ret
        refine ⟨?_, _, rfl⟩
        rw [hret.out]
        simp
        omega

def pv (p : Part) : Value := .agg #[.int .i64 p.kind, .string ⟨p.term.toArray⟩]

set_option maxRecDepth 100000 in
set_option maxHeartbeats 1000000 in
theorem takes_calls (p : Part) (hl : p.term.length ≤ 9223372036854775807) (w : World) : Calls Try.prog 54 #[.agg #[.int .i64 p.kind, .string ⟨p.term.toArray⟩]] w fun e w' =>
    e = .returned (.int .i64 (takesQ p)) ∧ Below w.heap.size w w' := by
  obtain ⟨k, t⟩ := p
  simp only at hl ⊢
  have hb := (Below.refl w.heap.size w).alloc (Nat.le_refl _) (.cells #[.int .i64 k, .string ⟨t.toArray⟩] 57)
  have hte : (t = [] → isTerm t = false) := by rintro rfl; rfl
  go_enter Try.func54, Try.ntmps54
  by_cases h1 : k = 1
  · subst h1
    go_wp2_with fail
    refine (isTerm_calls t hl _).mono ?_
    rintro e w1 ⟨rfl, n, rfl⟩
    by_cases ht : isTerm t = true
    · rw [ht]
      go_wp2_with fail
      go_ret
      refine ⟨by simp [takesQ, ht], hb.trans (below_dN _ _)⟩
    · rw [Bool.not_eq_true] at ht
      rw [ht]
      go_wp2_with fail
      go_ret
      refine ⟨by simp [takesQ, ht], hb.trans (below_dN _ _)⟩
  · have g1 : (k == 1) = false := by simpa using h1
    rcases t with _ | ⟨x, t⟩
    · by_cases h4 : k = 4
      · subst h4
        go_wp2_with fail
        go_ret
        exact ⟨rfl, hb⟩
      · have g4 : (k == 4) = false := by simpa using h4
        by_cases h2 : k = 2
        · subst h2
          go_wp2_with fail
          go_ret
          exact ⟨rfl, hb⟩
        · have g2 : (k == 2) = false := by simpa using h2
          by_cases h3 : k = 3
          · subst h3
            go_wp2_with fail
            go_ret
            exact ⟨rfl, hb⟩
          · have g3 : (k == 3) = false := by simpa using h3
            go_wp2_with fail
            go_ret
            refine ⟨by simp [takesQ, h1, h2, h3, h4], hb⟩
    · by_cases h4 : k = 4
      · subst h4
        go_wp2_with fail
        go_ret
        exact ⟨rfl, hb⟩
      · have g4 : (k == 4) = false := by simpa using h4
        by_cases h2 : k = 2
        · subst h2
          go_wp2_with fail
          go_ret
          exact ⟨rfl, hb⟩
        · have g2 : (k == 2) = false := by simpa using h2
          by_cases h3 : k = 3
          · subst h3
            go_wp2_with fail
            go_ret
            exact ⟨rfl, hb⟩
          · have g3 : (k == 3) = false := by simpa using h3
            go_wp2_with fail
            go_ret
            refine ⟨by simp [takesQ, h1, h2, h3, h4], hb⟩

theorem takesQ_range (x : Part) : -1 ≤ takesQ x ∧ takesQ x ≤ 2 := by
  unfold takesQ
  split
  · omega
  · split
    · omega
    · split <;> omega

/-- The slice v reads as these parts. -/
def PartsAt (w : World) (v : Value) (q : List Part) : Prop := ∃ p c, v = .slice p q.length c ∧ q.length ≤ 9223372036854775807 ∧ (∀ x ∈ q, x.term.length ≤ 9223372036854775807) ∧
  ∀ (i : Nat) (h : i < q.length), ∃ blk off, p = some ⟨blk, off, none⟩ ∧ w.cell? ⟨blk, off + i * 2, none⟩ = some (.int .i64 q[i].kind) ∧ w.cell? ⟨blk, off + i * 2 + 1, none⟩ = some (.string ⟨q[i].term.toArray⟩)

theorem PartsAt.upd {S : Nat → Prop} {w w' : World} {v : Value} {q : List Part} (h : PartsAt w v q) (hu : Upd S w w') (hs : ∀ k, k < w.heap.size → v.ownBlock = some k → ¬ S k) : PartsAt w' v q := by
  obtain ⟨p, c, rfl, hl, ht, hc⟩ := h
  refine ⟨p, c, rfl, hl, ht, fun i hi => ?_⟩
  obtain ⟨blk, off, rfl, h1, h2⟩ := hc i hi
  have hb : ¬ S blk := hs blk (cell_lt h1) rfl
  exact ⟨blk, off, rfl, hu.cell hb h1, hu.cell hb h2⟩
theorem PartsAt.below {w w' : World} {v : Value} {q : List Part} {B : Nat} (h : PartsAt w v q) (hb : Below B w w') (hB : ∀ k, v.ownBlock = some k → k < B) : PartsAt w' v q := by
  obtain ⟨p, c, rfl, hl, ht, hc⟩ := h
  refine ⟨p, c, rfl, hl, ht, fun i hi => ?_⟩
  obtain ⟨blk, off, rfl, h1, h2⟩ := hc i hi
  have hblk := hB blk rfl
  refine ⟨blk, off, rfl, ?_, ?_⟩
  · rw [← h1]; exact World.cell?_of_block (w := w) (hb.block blk hblk)
  · rw [← h2]; exact World.cell?_of_block (w := w) (hb.block blk hblk)
theorem PartsAt.grew {w w' : World} {v : Value} {q : List Part} (h : PartsAt w v q) (hb : Below w.heap.size w w') : PartsAt w' v q :=
  h.upd (S := fun _ => False) ⟨hb.os, hb.tape, hb.output, hb.size, fun k hk _ => hb.block k hk⟩ fun _ _ _ h => h

set_option maxRecDepth 100000 in
set_option maxHeartbeats 1000000 in
theorem right_calls (v : Value) (q : List Part) (w : World) (h : PartsAt w v q) : Calls Try.prog 22 #[v] w fun e w' =>
    e = .returned (.bool (rightQ q)) ∧ Below w.heap.size w w' := by
  obtain ⟨p, c, rfl, hql, htl, hc⟩ := h
  go_enter Try.func22, Try.ntmps22
  go_wp2_with fail
  go_loopw [3, 9] (fun vn v wr => ∃ (k : Nat) (n : Int), v = .int .i64 k ∧ vn = .int .i64 n ∧ k ≤ q.length ∧ 0 ≤ n ∧ n ≤ k ∧ Below w.heap.size w wr ∧ depthOf q 0 = depthOf (q.drop k) n) (fun _ v _ => q.length - (intOf v).toNat)
  case atStart => exact ⟨0, 0, rfl, rfl, by omega, by omega, by omega, Below.refl _ _, rfl⟩
  case round =>
    obtain ⟨k, n, rfl, rfl, hk, hn0, hnk, hbw, hd⟩ := hrel
    have hd := Lib.hid hd
    by_cases hlt : k < q.length
    · obtain ⟨blk, off, rfl, h1, h2⟩ := hc k hlt
      have hdrop : q.drop k = q[k] :: q.drop (k + 1) := List.drop_eq_getElem_cons hlt
      have htk : q[k].term.length ≤ 9223372036854775807 := htl _ (List.getElem_mem hlt)
      generalize q[k] = x at *
      have g1 : wr.cell? ⟨blk, off + k * 2, none⟩ = some (.int .i64 x.kind) := by rw [← h1]; exact World.cell?_of_block (w := w) (hbw.block blk (cell_lt h1))
      have g2 : wr.cell? ⟨blk, off + k * 2 + 1, none⟩ = some (.string ⟨x.term.toArray⟩) := by rw [← h2]; exact World.cell?_of_block (w := w) (hbw.block blk (cell_lt h2))
      have hcast : (k : Int) < (q.length : Int) := by omega
      go_wp2_with fail
      refine (takes_calls x (by omega) _).mono ?_
      rintro e w1 ⟨rfl, hb1⟩
      have hbw1 : Below w.heap.size w w1 := (hbw.alloc hbw.size _).trans (hb1.mono (by simp; have := hbw.size; omega))
      have hstep := hd.out
      rw [hdrop, depthOf] at hstep
      have ht := takesQ_range x
      generalize takesQ x = t at *
      clear hd hc
      by_cases ht0 : t < 0
      · have hr : rightQ q = false := by rw [rightQ, hstep, if_pos (.inl ht0)]; rfl
        clear hstep
        go_wp2_with fail
        go_ret
        exact ⟨by rw [hr]; rfl, hbw1⟩
      · by_cases hnt : n < t
        · have hr : rightQ q = false := by rw [rightQ, hstep, if_pos (.inr hnt)]; rfl
          clear hstep
          go_wp2_with fail
          go_ret
          exact ⟨by rw [hr]; rfl, hbw1⟩
        · rw [if_neg (by omega)] at hstep
          have hstep := Lib.hid hstep
          go_wp2_with fail
          go_roundw
          case rel => exact ⟨k + 1, n + (1 - t), by simp, rfl, by omega, by omega, by omega, hbw1, hstep.out⟩
          case measure => simp [intOf]; omega
    · have hkl : k = q.length := by omega
      subst hkl
      have hd := hd.out
      rw [List.drop_length, depthOf] at hd
      have hr : rightQ q = (decide (n = 1) && decide (q.length ≤ 64)) := by
        rw [rightQ, hd]
        congr 1
      have hr := Lib.hid hr
      clear hd hc
      by_cases h1 : n = 1
      · subst h1
        go_wp2_with fail
        go_ret
        exact ⟨by simp <;> omega, hbw⟩
      · have g1 : (n == 1) = false := by simpa using h1
        go_wp2_with fail
        go_ret
        exact ⟨by simp [h1] <;> rw [hr.out] <;> simp [h1], hbw⟩
end Go.Proofs.Ytpobpijjpbggoaa
