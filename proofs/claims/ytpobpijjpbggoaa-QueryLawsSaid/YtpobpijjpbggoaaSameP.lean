/- package tendrilbook: Same at api.Part; package query: Terms. -/
import Derived.Test.YtpobpijjpbggoaaQuery5
import Derived.Laws.StructEq
set_option linter.unusedSimpArgs false
set_option linter.unusedVariables false
namespace Go.Proofs.Ytpobpijjpbggoaa
open Go.RowKit Go.Ten Go.Ten.Qy

theorem bytes_inj {s t : List UInt8} : (ByteArray.mk s.toArray = ByteArray.mk t.toArray) ↔ s = t :=
  ⟨fun h => by injection h with h; simpa using congrArg Array.toList h, fun h => by rw [h]⟩

theorem fields_part : (Try.prog.fieldsOf 57).toList = [{ name := "Kind", type := 3, offset := 0, embedded := false, tag := "", pkgPath := "", byteOffset := 0 }, { name := "Term", type := 9, offset := 1, embedded := false, tag := "", pkgPath := "", byteOffset := 8 }] := by kernel_rfl
theorem struct_part : Try.prog.underlying 57 = some (.struct (Try.prog.fieldsOf 57)) := by kernel_rfl
theorem held_part : Try.prog.stoodInHeld 57 = false := by kernel_rfl
theorem eqg_part : Try.prog.eqGuardType Try.prog.depth 57 = false := by kernel_rfl
theorem run_neq_part (w : World) (k k' : Int) (s t : List UInt8) :
    (binOp .neq 57 (.agg #[.int .i64 k, .string ⟨s.toArray⟩]) (.agg #[.int .i64 k', .string ⟨t.toArray⟩])).run Try.prog w = .ok (.bool (!decide (k = k' ∧ s = t))) w := by
  rw [run_neq_struct, run_equalIn_struct w 9999 _ _ _ struct_part held_part, fields_part]
  by_cases h1 : k = k'
  · by_cases h2 : s = t
    · subst h1 h2
      simp [go_sem, run_equalIn_int _ _ _ _ _ _ _ Try.underlying3, run_equalIn_string _ _ _ _ _ Try.underlying9]
    · simp [go_sem, h1, h2, run_equalIn_int _ _ _ _ _ _ _ Try.underlying3, run_equalIn_string _ _ _ _ _ Try.underlying9]
  · simp [go_sem, h1, run_equalIn_int _ _ _ _ _ _ _ Try.underlying3]

set_option maxRecDepth 100000 in
set_option maxHeartbeats 1000000 in
theorem same_part (va vb : Value) (xs ys : List Part) (w : World) (h : PartsAt w va xs) (hy : PartsAt w vb ys) : Calls Try.prog 23 #[va, vb] w fun e w' => e = .returned (.bool (decide (xs = ys))) ∧ ∃ n, w' = w.drewN n := by
  obtain ⟨p, c, rfl, hl, htl, hc⟩ := h
  obtain ⟨p', c', rfl, hl', htl', hc'⟩ := hy
  by_cases hlen : xs.length = ys.length
  · go_enter Try.func23, Try.ntmps23
    obtain ⟨N, hN⟩ : ∃ N, xs.length = N := ⟨_, rfl⟩
    have hN' : ys.length = N := by omega
    rw [hN, hN']
    simp only [hN] at hc
    simp only [hN'] at hc'
    replace hN := Lib.hid hN
    replace hN' := Lib.hid hN'
    clear hlen htl htl'
    go_wp2_with fail
    go_loopw [5] (fun v wr => ∃ (k m : Nat), v = .int .i64 k ∧ k ≤ N ∧ wr = w.drewN m ∧ xs.take k = ys.take k) (fun v _ => N - (intOf v).toNat)
    case atStart => exact ⟨0, 0, rfl, by omega, rfl, rfl⟩
    case round =>
      obtain ⟨k, m, rfl, hk, rfl, ht⟩ := hrel
      replace ht := Lib.hid ht
      by_cases hlt : k < N
      · obtain ⟨b1, o1, rfl, h1, h1b⟩ := hc k hlt
        obtain ⟨b2, o2, rfl, h2, h2b⟩ := hc' k hlt
        have hx : xs.take (k + 1) = xs.take k ++ [xs[k]'(by have := hN.out; omega)] := List.take_succ_eq_append_getElem _
        have hy : ys.take (k + 1) = ys.take k ++ [ys[k]'(by have := hN'.out; omega)] := List.take_succ_eq_append_getElem _
        generalize xs[k]'(by have := hN.out; omega) = x at *
        generalize ys[k]'(by have := hN'.out; omega) = y at *
        replace hx := Lib.hid hx
        replace hy := Lib.hid hy
        clear hc hc'
        have hcast : (k : Int) < (N : Int) := by omega
        obtain ⟨xk, xt⟩ := x
        obtain ⟨yk, yt⟩ := y
        have hneq := fun w => run_neq_part w xk yk xt yt
        by_cases hxy : xk = yk ∧ xt = yt
        · obtain ⟨rfl, rfl⟩ := hxy
          simp only [and_self, decide_true, Bool.not_true] at hneq
          go_wp2_with fail
          refine undraw ?hB ?_
          case hB => kernel_rfl
          intro K hK
          simp only [Undraw.withAsks, Undraw.asksOf, Undraw.intsOf, Undraw.strsOf, List.contains, List.elem, Nat.reduceBEq, if_true, List.map_nil, List.map_cons, List.nil_append, List.append_nil, List.cons_append]
          go_wp2_with fail
          go_roundw
          case rel => exact ⟨k + 1, m + 1, by simp, by omega, rfl, by rw [hx.out, hy.out, ht.out]⟩
          case measure => simp [intOf]; omega
        · have hxb : (decide (xk = yk ∧ xt = yt)) = false := by simpa using hxy
          simp only [hxb, Bool.not_false] at hneq
          go_wp2_with fail
          refine undraw ?hB ?_
          case hB => kernel_rfl
          intro K hK
          simp only [Undraw.withAsks, Undraw.asksOf, Undraw.intsOf, Undraw.strsOf, List.contains, List.elem, Nat.reduceBEq, if_true, List.map_nil, List.map_cons, List.nil_append, List.append_nil, List.cons_append]
          go_wp2_with fail
          go_ret
          have hne : ¬ xs = ys := by
            intro e
            have h3 := hx.out
            have h4 := hy.out
            rw [e] at h3
            rw [h3] at h4
            have := List.append_cancel_left h4
            simp at this
            exact hxy this
          exact ⟨by simp [hne], _, rfl⟩
      · have hkl : k = N := by omega
        subst hkl
        have e : xs = ys := by
          have := ht.out
          rwa [List.take_of_length_le (by have := hN.out; omega), List.take_of_length_le (by have := hN'.out; omega)] at this
        go_wp2_with fail
        go_ret
        exact ⟨by simp [e], _, rfl⟩
  · have hne : ¬ xs = ys := fun e => hlen (by rw [e])
    have hcast : ((xs.length : Int) == (ys.length : Int)) = false := by simp; omega
    go_enter Try.func23, Try.ntmps23
    go_wp2_with fail
    go_ret
    exact ⟨by simp [hne], 0, rfl⟩
end Go.Proofs.Ytpobpijjpbggoaa
