/- tendrillaw23.QueryRuns: the closed sentence of chapter 23. -/
import Derived.Test.YtpobpijjpbggoaaEval
import Derived.Test.YtpobpijjpbggoaaSameP
import Derived.Test.YtpobpijjpbggoaaSame
import Derived.Test.YtpobpijjpbggoaaBackLaw
set_option linter.unusedSimpArgs false
set_option linter.unusedVariables false
namespace Go.Ten.Mg
open Go.Ten.Qy
def q0 : List Part := [⟨1,[97]⟩,⟨1,[98]⟩,⟨4,[]⟩,⟨2,[]⟩,⟨1,[99]⟩,⟨3,[]⟩]
theorem p1 : rdParse [97, 32, 33, 98, 32, 124, 32, 99] = (q0, 0) := by decide +kernel
theorem p2 : rdParse [97, 32, 38] = ([], 7) := by decide +kernel
theorem p3 : rdParse [41] = ([], 7) := by decide +kernel
theorem p4 : text q0 = [40, 40, 97, 38, 33, 98, 41, 124, 99, 41] := by decide +kernel
theorem setL_id {l : List Int} (h : l.Pairwise (· < ·)) : setL l = l := rise_ext (set_sorted l) h fun x => mem_set l x
theorem p5 : eval q0 [[1,2],[2],[5]] [1,2,3,5] = [1,5] := by
  have u : setL [1,2,3,5] = [1,2,3,5] := setL_id (by decide)
  have a1 : setL [1,2] = [1,2] := setL_id (by decide)
  have a2 : setL [2] = [2] := setL_id (by decide)
  have a3 : setL [5] = [5] := setL_id (by decide)
  have i1 : inter [1,2,3,5] [1,2] = [1,2] := by decide
  have i2 : inter [1,2,3,5] [2] = [2] := by decide
  have i3 : minus [1,2,3,5] [2] = [1,3,5] := by decide
  have i4 : inter [1,2] [1,3,5] = [1] := by decide
  have i5 : inter [1,2,3,5] [5] = [5] := by decide
  have i6 : union2 [1] [5] = [1,5] := setL_id (l := [1] ++ [5]) (by decide)
  have r : rightQ q0 = true := by decide
  rw [eval, if_pos r]
  simp [q0, evalGo, evalStep, u, a1, a2, a3, i1, i2, i3, i4, i5, i6]
end Go.Ten.Mg

namespace Go.Proofs.Ytpobpijjpbggoaa
open Go.RowKit Go.Ten Go.Ten.Qy Go.Ten.Mg

theorem flat_get : ∀ (q : List Part) (i : Nat) (h : i < q.length), (q.flatMap partCells)[i * 2]? = some (.int .i64 q[i].kind) ∧ (q.flatMap partCells)[i * 2 + 1]? = some (.string ⟨q[i].term.toArray⟩)
  | [], i, h => by simp at h
  | x :: q, 0, _ => by simp [partCells]
  | x :: q, i + 1, h => by
    have := flat_get q i (by simpa using h)
    have e : (x :: q).flatMap partCells = Value.int .i64 x.kind :: Value.string ⟨x.term.toArray⟩ :: q.flatMap partCells := by simp [partCells]
    rw [e, show (i + 1) * 2 = i * 2 + 1 + 1 by omega]
    simpa using this
theorem PartsAt.of_owns {w : World} {B : Nat} {p : Option Addr} {c : Nat} {q : List Part} (h : w.ownsRow B 57 2 (.slice p q.length c) q.length (q.flatMap partCells)) (hl : q.length ≤ 4294967296) (ht : ∀ x ∈ q, x.term.length ≤ 4294967296) : PartsAt w (.slice p q.length c) q := by
  obtain ⟨p', cap', hv, hp0, hp1⟩ := own_form h
  simp only [Value.slice.injEq] at hv
  obtain ⟨rfl, _, rfl⟩ := hv
  refine ⟨p, c, rfl, Nat.le_trans hl (by decide), fun x hx => Nat.le_trans (ht x hx) (by decide), fun i hi => ?_⟩
  rcases p with _ | a
  · have := hp0 rfl; omega
  · have ea := hp1 a rfl
    rw [ea] at h ⊢
    obtain ⟨h1, h2⟩ := flat_get q i hi
    exact ⟨a.block, 0, rfl, by rw [Nat.zero_add, h.cellAt (i * 2) (by omega), h1], by rw [Nat.zero_add, h.cellAt (i * 2 + 1) (by omega), h2]⟩

/-- The terms of a right query are short. -/
theorem depth_terms : ∀ (q : List Part) (n m : Int), depthOf q n = some m → ∀ x ∈ q, x.term.length ≤ 12
  | [], _, _, _, x, hx => by simp at hx
  | y :: q, n, m, h, x, hx => by
    rw [depthOf] at h
    by_cases hh : takesQ y < 0 ∨ n < takesQ y
    · rw [if_pos hh] at h; simp at h
    · rw [if_neg hh] at h
      rcases List.mem_cons.1 hx with rfl | hx
      · unfold takesQ at hh
        by_cases k1 : x.kind = 1 ∧ isTerm x.term = true
        · exact ((isTerm_iff _).1 k1.2).2.2
        · rw [if_neg k1] at hh
          by_cases k2 : x.kind = 4 ∧ x.term = []
          · rw [k2.2]; simp
          · rw [if_neg k2] at hh
            by_cases k3 : (x.kind = 2 ∨ x.kind = 3) ∧ x.term = []
            · rw [k3.2]; simp
            · rw [if_neg k3] at hh; omega
      · exact depth_terms q _ m h x hx
theorem right_terms {q : List Part} (h : rightQ q = true) : q.length ≤ 64 ∧ ∀ x ∈ q, x.term.length ≤ 12 := by
  rw [rightQ] at h
  simp only [Bool.and_eq_true, beq_iff_eq, decide_eq_true_eq] at h
  exact ⟨h.2, depth_terms q 0 1 h.1⟩
theorem PartsAt.of_right {w : World} {B : Nat} {p : Option Addr} {c : Nat} {q : List Part} (h : w.ownsRow B 57 2 (.slice p q.length c) q.length (q.flatMap partCells)) (hr : rightQ q = true) : PartsAt w (.slice p q.length c) q := by
  obtain ⟨h1, h2⟩ := right_terms hr
  exact PartsAt.of_owns h (by omega) fun x hx => by have := h2 x hx; omega

theorem Blk.new' (w : World) (xs : List Value) (T : TypeId) {b : Nat} (h : b = w.heap.size) : Blk (w.alloc (.cells xs.toArray T)) b xs T := h ▸ Blk.new w xs T
theorem IntsR.lit {w : World} {b : Nat} {xs : List Int} {T : TypeId} (h : Blk w b (ints xs) T) (hl : xs.length ≤ 4294967296) {n : Nat} (hn : xs.length = n) : IntsR w (.slice (some ⟨b, 0, none⟩) n n) xs := by
  subst hn
  refine ⟨some ⟨b, 0, none⟩, xs.length, rfl, ⟨⟨hl, Nat.le_refl _⟩, fun a e _ => by cases e; rfl⟩, fun i hi => ⟨b, 0, rfl, ?_⟩⟩
  rw [Nat.zero_add, h.cell]
  simp [ints, hi]
theorem LsC.lit {w : World} {b : Nat} {vs : List Value} {ls : List (List Int)} {T : TypeId} (h : Blk w b vs T) (hv : vs.length = ls.length) {n : Nat} (hn : ls.length = n) (hr : ∀ i (h : i < ls.length) (h' : i < vs.length), IntsR w vs[i] ls[i]) : LsC w (.slice (some ⟨b, 0, none⟩) n n) ls := by
  subst hn
  refine ⟨⟨_, _, rfl, fun i hi => ⟨b, 0, vs[i]'(by omega), rfl, ?_, hr i hi (by omega)⟩⟩, _, _, rfl, Nat.le_refl _⟩
  rw [Nat.zero_add, h.cell]
  simp [show i < vs.length by omega]

set_option maxRecDepth 100000 in
set_option maxHeartbeats 2000000 in
theorem runs_calls (w : World) : Calls Try.prog 20 #[] w fun e w' => e = .returned (.bool true) ∧ Below w.heap.size w w' := by
  have h1 := parse_calls [97, 32, 33, 98, 32, 124, 32, 99] w
  rw [p1] at h1
  go_enter Try.func20, Try.ntmps20
  go_wp2_with fail
  refine h1.mono ?_
  rintro e w1 ⟨pq, cq, rfl, ho1, hb1⟩
  clear h1
  have hP1 := PartsAt.of_right ho1 (by decide)
  have e6 : q0.length = 6 := rfl
  simp only [e6] at hP1 ⊢
  clear ho1
  have h2 := parse_calls [97, 32, 38] w1
  rw [p2] at h2
  go_wp2_with fail
  refine h2.mono ?_
  rintro e w2 ⟨p2, c2, rfl, _, hb2⟩
  clear h2
  simp only [List.length_nil]
  have h3 := parse_calls [41] w2
  rw [p3] at h3
  go_wp2_with fail
  refine h3.mono ?_
  rintro e w3 ⟨p3, c3, rfl, _, hb3⟩
  clear h3
  simp only [List.length_nil]
  have hsz1 := hb1.size
  have hsz2 := hb2.size
  have hsz3 := hb3.size
  have hbw : Below w.heap.size w w3 := (hb1.trans (hb2.mono hsz1)).trans (hb3.mono (by omega))
  have hP3 := (hP1.grew hb2).grew hb3
  clear hP1
  have hev := fun (wE : World) (hE : wE = ((((w3.alloc (.cells #[.int .i64 1, .int .i64 2] 3)).alloc (.cells #[.int .i64 2] 3)).alloc (.cells #[.int .i64 5] 3)).alloc
      (.cells #[.slice (some ⟨w3.heap.size, 0, none⟩) 2 2, .slice (some ⟨w3.heap.size + 1, 0, none⟩) 1 1, .slice (some ⟨w3.heap.size + 1 + 1, 0, none⟩) 1 1] 64)).alloc
      (.cells #[.int .i64 1, .int .i64 2, .int .i64 3, .int .i64 5] 3)) =>
    eval_calls (.slice pq 6 cq) (.slice (some ⟨w3.heap.size + 1 + 1 + 1, 0, none⟩) 3 3) (.slice (some ⟨w3.heap.size + 1 + 1 + 1 + 1, 0, none⟩) 4 4) q0 [[1,2],[2],[5]] [1,2,3,5] wE
      (hP3.grew (by rw [hE]; exact ((((((Below.refl _ _).alloc (Nat.le_refl _) _).alloc (by simp) _).alloc (by simp; omega) _).alloc (by simp; omega) _).alloc (by simp; omega) _)))
      (LsC.lit (T := 64) (vs := [.slice (some ⟨w3.heap.size, 0, none⟩) 2 2, .slice (some ⟨w3.heap.size + 1, 0, none⟩) 1 1, .slice (some ⟨w3.heap.size + 1 + 1, 0, none⟩) 1 1]) (by rw [hE]; exact (Blk.new' _ _ _ (by simp)).alloc _) rfl rfl (fun i h h' => by
        rw [hE]
        match i, h with
        | 0, _ => exact IntsR.lit (xs := [1, 2]) (T := 3) (((((Blk.new' _ _ _ (by simp)).alloc _).alloc _).alloc _).alloc _) (by simp) rfl
        | 1, _ => exact IntsR.lit (xs := [2]) (T := 3) ((((Blk.new' _ _ _ (by simp)).alloc _).alloc _).alloc _) (by simp) rfl
        | 2, _ => exact IntsR.lit (xs := [5]) (T := 3) (((Blk.new' _ _ _ (by simp)).alloc _).alloc _) (by simp) rfl))
      (IntsR.lit (xs := [1, 2, 3, 5]) (T := 3) (by rw [hE]; exact Blk.new' _ _ _ (by simp)) (by simp) rfl) (by simp)
  rw [p5] at hev
  go_wp2_with fail
  refine (hev _ rfl).mono ?_
  unfold NewInts
  rintro e w4 ⟨pe, c4, rfl, ho4, hb4⟩
  clear hev
  simp at hb4
  have hb4' : Below w.heap.size w w4 := hbw.trans (((((((Below.refl _ _).alloc (Nat.le_refl _) _).alloc (by simp) _).alloc (by simp; omega) _).alloc (by simp; omega) _).alloc (by simp; omega) _).trans (hb4.mono (by omega)) |>.mono (by omega))
  have hP4 : PartsAt w4 (.slice pq 6 cq) q0 := hP3.grew ((((((Below.refl _ _).alloc (Nat.le_refl _) _).alloc (by simp) _).alloc (by simp; omega) _).alloc (by simp; omega) _).alloc (by simp; omega) _ |>.trans (hb4.mono (by omega)))
  have hszE := hb4.size
  simp at hszE
  have hR4 : IntsR w4 (.slice pe 2 c4) [1, 5] := IntsR.of_owns (xs := [1, 5]) ho4 (by simp)
  clear ho4 hP3
  have htx := text_calls _ _ w4 hP4
  rw [p4] at htx
  simp only [List.length_cons, List.length_nil]
  go_wp2_with fail
  refine htx.mono ?_
  rintro e w5 ⟨rfl, hb5⟩
  have hsz5 := hb5.size
  have hsm := same_int (.slice pe 2 c4) (.slice (some ⟨w5.heap.size, 0, none⟩) 2 2) [1, 5] [1, 5] (w5.alloc (.cells #[.int .i64 1, .int .i64 5] 3))
    ((hR4.grew hb5).grew ((Below.refl _ _).alloc (Nat.le_refl _) _)) (IntsR.lit (T := 3) (Blk.new' _ (ints [1, 5]) _ rfl) (by simp) rfl)
  clear htx
  go_wp2_with fail
  refine hsm.mono ?_
  rintro e w6 ⟨rfl, n, rfl⟩
  go_wp2_with fail
  go_ret
  exact ⟨by simp, (hb4'.trans (hb5.mono (by omega))).alloc (by omega) _ |>.trans (below_dN _ _)⟩
end Go.Proofs.Ytpobpijjpbggoaa
