/- Within, and the configuration at zero. -/
import Derived.Test.YtpobpijjpbggoaaTickRun
import Derived.StillTailTactics
set_option linter.unusedSimpArgs false
set_option linter.unusedVariables false
namespace Go.Proofs.Ytpobpijjpbggoaa
open Go.RowKit Go.Ten

theorem wrap64 {x y : Int} (h : x = y) (h1 : -1000000 ≤ y ∧ y ≤ 1000000) : IntKind.wrap .i64 x = y := by
  subst h
  rw [IntKind.wrap_i64]; omega
set_option maxRecDepth 100000 in
set_option maxHeartbeats 400000 in
/-- Within: n brought between 0 and hi. -/
theorem within_calls (n hi : Int) (h0 : 0 ≤ hi) (h1 : hi ≤ 1000) (w : World) :
    Calls Try.prog 8 #[.int .i64 n, .int .i64 0, .int .i64 hi] w fun e w' => ∃ r : Int, e = .returned (.int .i64 r) ∧ w' = w ∧ 0 ≤ r ∧ r ≤ hi ∧ (n = 0 → r = 0) := by
  have hd : IntKind.wrap .i64 (hi - 0) = hi := wrap64 (by omega) (by omega)
  have hd1 : IntKind.wrap .i64 (hi + 1) = hi + 1 := wrap64 (by omega) (by omega)
  have hne : ¬ hi + 1 = 0 := by omega
  obtain ⟨m, hm⟩ : ∃ m, n.tmod (hi + 1) = m := ⟨_, rfl⟩
  have hm1 : m < hi + 1 := by rw [← hm]; exact Int.tmod_lt_of_pos _ (by omega)
  have hm2 : -(hi + 1) < m := by
    have := Int.lt_tmod_of_pos n (show (0 : Int) < hi + 1 by omega)
    omega
  have hz : n = 0 → m = 0 := fun e => by rw [← hm, e]; exact Int.zero_tmod _
  replace hz := Lib.hid hz
  by_cases hlt : m < 0
  · have e1 : IntKind.wrap .i64 (m + hi) = m + hi := wrap64 (by omega) (by omega)
    have e2 : IntKind.wrap .i64 (m + hi - 0) = m + hi := wrap64 (by omega) (by omega)
    have e3 : IntKind.wrap .i64 (m + hi + 1) = m + hi + 1 := wrap64 (by omega) (by omega)
    have e4 : IntKind.wrap .i64 (0 + (m + hi + 1)) = m + hi + 1 := wrap64 (by omega) (by omega)
    have e5 : IntKind.wrap .i64 (m + hi + 1 + 0) = m + hi + 1 := wrap64 (by omega) (by omega)
    go_enter Try.func8, Try.ntmps8
    go_wp2_with fail
    go_ret
    exact ⟨_, rfl, rfl, by omega, by omega, fun e => by have := hz.out e; omega⟩
  · have e4 : IntKind.wrap .i64 (0 + m) = m := wrap64 (by omega) (by omega)
    have e5 : IntKind.wrap .i64 m = m := wrap64 (by omega) (by omega)
    go_enter Try.func8, Try.ntmps8
    go_wp2_with fail
    go_ret
    exact ⟨_, rfl, rfl, by omega, by omega, hz.out⟩
theorem within0_calls (hi : Int) (h0 : 0 ≤ hi) (h1 : hi ≤ 1000) (w : World) :
    Calls Try.prog 8 #[.int .i64 0, .int .i64 0, .int .i64 hi] w fun e w' => e = .returned (.int .i64 0) ∧ w' = w :=
  (within_calls 0 hi h0 h1 w).mono fun _ _ ⟨r, he, hw, _, _, hz⟩ => ⟨by rw [he, hz rfl], hw⟩

set_option maxRecDepth 100000 in
set_option maxHeartbeats 2000000 in
/-- The configuration at zero. -/
theorem config0_calls (w : World) :
    Calls Try.prog 7 #[.agg #[.int .i64 0, .int .i64 0, .int .i64 0, .int .i64 0, .int .i64 0, .int .i64 0, .int .i64 0, .int .i64 0]] w fun e w' => e = .returned (.agg #[.int .i64 40, .int .i64 24, .int .i64 8, .int .i64 4, .int .i64 2, .int .i64 1, .int .i64 8, .int .i64 1]) ∧ Below w.heap.size w w' := by
  go_enter Try.func7, Try.ntmps7
  go_wp2_with fail
  go_still_tail 27, (by kernel_rfl)
  change wpStill _ _ ((((w.alloc (.cells #[.int .i64 0, .int .i64 0, .int .i64 0, .int .i64 0, .int .i64 0, .int .i64 0, .int .i64 0, .int .i64 0] 24)).alloc (.cells #[.int .i64 0, .int .i64 0, .int .i64 0, .int .i64 0, .int .i64 0, .int .i64 0, .int .i64 0, .int .i64 0] 24)).alloc (.cells #[.int .i64 0, .int .i64 0, .int .i64 0, .int .i64 0, .int .i64 0, .int .i64 0, .int .i64 0, .int .i64 0] 24)).drew) _ _ _
  obtain ⟨w2, hw2⟩ : ∃ w2, (((w.alloc (.cells #[.int .i64 0, .int .i64 0, .int .i64 0, .int .i64 0, .int .i64 0, .int .i64 0, .int .i64 0, .int .i64 0] 24)).alloc (.cells #[.int .i64 0, .int .i64 0, .int .i64 0, .int .i64 0, .int .i64 0, .int .i64 0, .int .i64 0, .int .i64 0] 24)).alloc (.cells #[.int .i64 0, .int .i64 0, .int .i64 0, .int .i64 0, .int .i64 0, .int .i64 0, .int .i64 0, .int .i64 0] 24)).drew = w2 := ⟨_, rfl⟩
  rw [hw2]
  have hc : ∀ i, i < 8 → w2.cell? ⟨w.heap.size, i, none⟩ = some (.int .i64 0) := by
    intro i hi
    rw [← hw2]
    match i, hi with
    | 0, _ | 1, _ | 2, _ | 3, _ | 4, _ | 5, _ | 6, _ | 7, _ => simp [go_sem]
  have c0 := hc 0 (by omega)
  have c1 := hc 1 (by omega)
  have c2 := hc 2 (by omega)
  have c3 := hc 3 (by omega)
  have c4 := hc 4 (by omega)
  repeat still_step
  still_call (within0_calls 20 (by omega) (by omega) _)
  repeat still_step
  still_call (within0_calls 20 (by omega) (by omega) _)
  repeat still_step
  still_call (within0_calls 8 (by omega) (by omega) _)
  repeat still_step
  still_call (within0_calls 4 (by omega) (by omega) _)
  repeat still_step
  still_call (within0_calls 2 (by omega) (by omega) _)
  repeat still_step
  refine wpStill_nil ?_
  subst hw2
  change wpList _ _ _ _ _ ((((w.alloc (.cells #[.int .i64 0, .int .i64 0, .int .i64 0, .int .i64 0, .int .i64 0, .int .i64 0, .int .i64 0, .int .i64 0] 24)).alloc (.cells #[.int .i64 0, .int .i64 0, .int .i64 0, .int .i64 0, .int .i64 0, .int .i64 0, .int .i64 0, .int .i64 0] 24)).alloc (.cells #[.int .i64 0, .int .i64 0, .int .i64 0, .int .i64 0, .int .i64 0, .int .i64 0, .int .i64 0, .int .i64 0] 24)).drew)
  clear hc c0 c1 c2 c3 c4
  go_wp2_with fail
  refine (within0_calls 3 (by omega) (by omega) _).mono ?_
  rintro e w1 ⟨rfl, rfl⟩
  go_wp2_with fail
  refine (within0_calls 56 (by omega) (by omega) _).mono ?_
  rintro e w1 ⟨rfl, rfl⟩
  go_wp2_with fail
  refine (within0_calls 5 (by omega) (by omega) _).mono ?_
  rintro e w1 ⟨rfl, rfl⟩
  go_wp2_with fail
  refine bodyPost_ret (v := .agg #[.int .i64 40, .int .i64 24, .int .i64 8, .int .i64 4, .int .i64 2, .int .i64 1, .int .i64 8, .int .i64 1]) (by simp [results, Try.results7, go_sem]) rfl ⟨rfl, ?_⟩
  exact ((((Below.refl _ w).alloc (Nat.le_refl _) _).alloc (by simp) _).alloc (by simp; omega) _).drew

/-! ### What a memory and a tick tell -/
set_option maxRecDepth 100000 in
theorem mem_now_calls (m : Nat) (M : MemF.Mem) (W : MW) (w : World) (h : MemX w m M W) :
    Calls Try.prog 15 #[.pointer (some ⟨m, 0, none⟩)] w fun e w' => e = .returned (.int .i64 M.ep.now) ∧ w' = w := by
  have hc := h.blk.cell
  have hn := ep_now_calls _ _ _ _ h.ep
  clear h
  go_enter Try.func15, Try.ntmps15
  go_wp2_with fail
  refine hn.mono ?_
  rintro e w1 ⟨rfl, rfl⟩
  go_wp2_with fail
  go_ret
  exact ⟨rfl, rfl⟩
set_option maxRecDepth 100000 in
theorem mem_live_calls (m : Nat) (M : MemF.Mem) (W : MW) (w : World) (h : MemX w m M W) (hA : MemF.ArOk M.ar) :
    Calls Try.prog 16 #[.pointer (some ⟨m, 0, none⟩)] w fun e w' => e = .returned (.int .i64 M.ar.liveN) ∧ w' = w := by
  have hc := h.blk.cell
  have hn := live_calls _ _ _ _ h.ar hA
  clear h hA
  go_enter Try.func16, Try.ntmps16
  go_wp2_with fail
  refine hn.mono ?_
  rintro e w1 ⟨rfl, rfl⟩
  go_wp2_with fail
  go_ret
  exact ⟨rfl, rfl⟩
set_option maxRecDepth 100000 in
theorem mem_limbo_calls (m : Nat) (M : MemF.Mem) (W : MW) (c : Int) (w : World) (h : MemX w m M W) :
    Calls Try.prog 17 #[.pointer (some ⟨m, 0, none⟩), .int .i64 c] w fun e w' => e = .returned (.int .i64 (M.ep.limboN c)) ∧ w' = w := by
  have hc := h.blk.cell
  have hn := ep_limbo_calls _ _ _ c _ h.ep
  clear h
  go_enter Try.func17, Try.ntmps17
  go_wp2_with fail
  refine hn.mono ?_
  rintro e w1 ⟨rfl, rfl⟩
  go_wp2_with fail
  go_ret
  exact ⟨rfl, rfl⟩
set_option maxRecDepth 100000 in
theorem tk_took_calls (b : Nat) (T : MemF.Tk) (w : World) (h : TkAt w b T) :
    Calls Try.prog 50 #[.pointer (some ⟨b, 0, none⟩)] w fun e w' => e = .returned (.bool T.took) ∧ w' = w := by
  have hc := h.cell
  have hlt := h.lt
  unfold tkC at hc
  clear h
  go_enter Try.func50, Try.ntmps50
  go_wp2_with fail
  go_ret
  exact ⟨rfl, rfl⟩
set_option maxRecDepth 100000 in
/-- Answer of a tick that is over. -/
theorem tk_answer_calls (b : Nat) (T : MemF.Tk) (w : World) (h : TkAt w b T) (h0 : T.next = 0) :
    Calls Try.prog 49 #[.pointer (some ⟨b, 0, none⟩)] w fun e w' => e = .returned (.tuple #[.agg #[.int .i64 0, .bool false, .int .i64 0, .slice none 0 0], .bool true]) ∧ Below w.heap.size w w' := by
  have hc := h.cell
  have hlt := h.lt
  unfold tkC at hc
  rw [h0] at hc
  simp only [tkF] at hc
  have q2 := fun (w : World) => run_eql_nilfunc (P := Try.prog) (t := 85) w Try.underlying85
  clear h
  go_enter Try.func49, Try.ntmps49
  go_wp2_with fail
  go_region
  go_wp2_with fail
  exact bodyPost_ret (v := .tuple #[.agg #[.int .i64 0, .bool false, .int .i64 0, .slice none 0 0], .bool true]) (by simp [results, Try.results49, go_sem]) rfl ⟨rfl, ((Below.refl _ w).alloc (Nat.le_refl _) _).drew⟩
end Go.Proofs.Ytpobpijjpbggoaa
