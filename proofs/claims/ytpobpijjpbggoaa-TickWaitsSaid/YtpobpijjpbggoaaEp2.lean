/- package epoch: Pin, Unpin, PinOf, Limbo, Retire, Collect. -/
import Derived.Test.YtpobpijjpbggoaaEp
set_option linter.unusedSimpArgs false
set_option linter.unusedVariables false
namespace Go.Proofs.Ytpobpijjpbggoaa
open Go.RowKit Go.Ten

theorem ofP_bad {E : MemF.Ep} {X : EW} {c : Int} (h : c < 0 ∨ E.clients.length ≤ c.toNat) : ofP E X c = none := by unfold ofP; rw [if_pos h]
theorem ofP_ok {E : MemF.Ep} {X : EW} {i : Nat} (h : i < E.clients.length) : ofP E X i = some ⟨X.gs, i * 2, none⟩ := by unfold ofP; rw [if_neg (by omega), Int.toNat_natCast]
theorem cl_cases {E : MemF.Ep} (c : Int) : (c < 0 ∨ E.clients.length ≤ c.toNat) ∨ ∃ i : Nat, c = i ∧ i < E.clients.length := by
  by_cases h : c < 0 ∨ E.clients.length ≤ c.toNat
  · exact .inl h
  · exact .inr ⟨c.toNat, by omega, by omega⟩

set_option maxRecDepth 100000 in
set_option maxHeartbeats 400000 in
theorem ep_unpin_calls (b : Nat) (E : MemF.Ep) (X : EW) (c : Int) (w : World) (h : EpX w b E X) :
    Calls Try.prog 42 #[.pointer (some ⟨b, 0, none⟩), .int .i64 c] w fun e w' => e = .returned (.bool (E.unpin c).2) ∧ EpStep w b X w' (E.unpin c).1 := by
  have hof := ep_of_calls b E X c w h
  have hX := Lib.hid h
  rcases cl_cases (E := E) c with hb | ⟨i, rfl, hi⟩
  · have hA : E.unpin c = (E, false) := by unfold MemF.Ep.unpin; rw [if_pos hb]
    rw [hA]
    rw [ofP_bad hb] at hof
    clear hA hb h
    go_enter Try.func42, Try.ntmps42
    go_wp2_with fail
    refine hof.mono ?_
    rintro e w1 ⟨rfl, rfl⟩
    go_wp2_with fail
    go_ret
    exact ⟨rfl, EpStep.same hX.out⟩
  · have hA : E.unpin i = (E.setC i { E.clients[i]! with pin := -1 }, true) := by unfold MemF.Ep.unpin; rw [if_neg (by omega)]; rfl
    have hst := Lib.hid (h.setPin i hi _ rfl (-1))
    rw [hA]
    rw [ofP_ok hi] at hof
    have c0 := h.cell i 0 hi (by omega)
    have hf := h.row.frozen
    simp only [clC, Nat.add_zero, List.getElem?_cons_zero] at c0
    generalize (E.clients[i]!).pin = z at c0
    clear hA h hi
    go_enter Try.func42, Try.ntmps42
    go_wp2_with fail
    refine hof.mono ?_
    rintro e w1 ⟨rfl, rfl⟩
    go_wp2_with fail
    go_ret
    exact ⟨rfl, hst.out⟩

set_option maxRecDepth 100000 in
set_option maxHeartbeats 400000 in
theorem ep_pinof_calls (b : Nat) (E : MemF.Ep) (X : EW) (c : Int) (w : World) (h : EpX w b E X) :
    Calls Try.prog 43 #[.pointer (some ⟨b, 0, none⟩), .int .i64 c] w fun e w' => e = .returned (.int .i64 (E.pinOf c)) ∧ w = w' := by
  have hof := ep_of_calls b E X c w h
  unfold MemF.Ep.pinOf
  rcases cl_cases (E := E) c with hb | ⟨i, rfl, hi⟩
  · rw [if_pos hb]
    rw [ofP_bad hb] at hof
    clear hb h
    go_enter Try.func43, Try.ntmps43
    go_wp2_with fail
    refine hof.mono ?_
    rintro e w1 ⟨rfl, rfl⟩
    go_wp2_with fail
    go_ret
    exact ⟨rfl, rfl⟩
  · rw [if_neg (by omega), Int.toNat_natCast]
    rw [ofP_ok hi] at hof
    have c0 := h.cell i 0 hi (by omega)
    simp only [clC, Nat.add_zero, List.getElem?_cons_zero] at c0
    generalize (E.clients[i]!).pin = z at *
    clear h hi
    go_enter Try.func43, Try.ntmps43
    go_wp2_with fail
    refine hof.mono ?_
    rintro e w1 ⟨rfl, rfl⟩
    go_wp2_with fail
    go_ret
    exact ⟨rfl, rfl⟩

set_option maxRecDepth 100000 in
set_option maxHeartbeats 400000 in
theorem ep_limbo_calls (b : Nat) (E : MemF.Ep) (X : EW) (c : Int) (w : World) (h : EpX w b E X) :
    Calls Try.prog 48 #[.pointer (some ⟨b, 0, none⟩), .int .i64 c] w fun e w' => e = .returned (.int .i64 (E.limboN c)) ∧ w = w' := by
  have hof := ep_of_calls b E X c w h
  unfold MemF.Ep.limboN
  rcases cl_cases (E := E) c with hb | ⟨i, rfl, hi⟩
  · rw [if_pos hb]
    rw [ofP_bad hb] at hof
    clear hb h
    go_enter Try.func48, Try.ntmps48
    go_wp2_with fail
    refine hof.mono ?_
    rintro e w1 ⟨rfl, rfl⟩
    go_wp2_with fail
    go_ret
    exact ⟨rfl, rfl⟩
  · rw [if_neg (by omega), Int.toNat_natCast]
    rw [ofP_ok hi] at hof
    have c1 := h.cell i 1 hi (by omega)
    simp only [clC, List.getElem?_cons_zero, List.getElem?_cons_succ] at c1
    obtain ⟨p, cp, h1, h2⟩ := h.limbo i hi
    rw [h1] at c1
    generalize (E.clients[i]!).limbo.length = z at *
    clear h hi h1 h2
    go_enter Try.func48, Try.ntmps48
    go_wp2_with fail
    refine hof.mono ?_
    rintro e w1 ⟨rfl, rfl⟩
    go_wp2_with fail
    go_ret
    exact ⟨rfl, rfl⟩

set_option maxRecDepth 100000 in
set_option maxHeartbeats 400000 in
theorem ep_pin_calls (b : Nat) (E : MemF.Ep) (X : EW) (c n : Int) (w : World) (h : EpX w b E X) :
    Calls Try.prog 41 #[.pointer (some ⟨b, 0, none⟩), .int .i64 c, .int .i64 n] w fun e w' => e = .returned (.bool (E.pin c n).2) ∧ EpStep w b X w' (E.pin c n).1 := by
  have hof := ep_of_calls b E X c w h
  have hX := Lib.hid h
  have hP : E.pin c n = if c < 0 ∨ E.clients.length ≤ c.toNat ∨ n < 0 ∨ E.now < n then (E, false) else (E.setC c { E.clients[c.toNat]! with pin := n }, true) := rfl
  rcases cl_cases (E := E) c with hb | ⟨i, rfl, hi⟩
  · rw [if_pos (by rcases hb with hb | hb; exact .inl hb; exact .inr (.inl hb))] at hP
    rw [hP]
    rw [ofP_bad hb] at hof
    clear hP hb h
    go_enter Try.func41, Try.ntmps41
    go_wp2_with fail
    refine hof.mono ?_
    rintro e w1 ⟨rfl, rfl⟩
    go_wp2_with fail
    go_ret
    exact ⟨rfl, EpStep.same hX.out⟩
  · rw [ofP_ok hi] at hof
    have hc := h.blk.cell
    by_cases h0 : n < 0
    · rw [if_pos (.inr (.inr (.inl h0)))] at hP
      rw [hP]
      clear hP h hi
      go_enter Try.func41, Try.ntmps41
      go_wp2_with fail
      refine hof.mono ?_
      rintro e w1 ⟨rfl, rfl⟩
      go_wp2_with fail
      go_ret
      exact ⟨rfl, EpStep.same hX.out⟩
    · by_cases h1 : E.now < n
      · rw [if_pos (.inr (.inr (.inr h1)))] at hP
        rw [hP]
        have h0' : 0 ≤ n := by omega
        clear hP h hi h0
        generalize E.now = m at *
        go_enter Try.func41, Try.ntmps41
        go_wp2_with fail
        refine hof.mono ?_
        rintro e w1 ⟨rfl, rfl⟩
        go_wp2_with fail
        go_ret
        exact ⟨rfl, EpStep.same hX.out⟩
      · rw [if_neg (by rw [Int.toNat_natCast]; omega)] at hP
        rw [hP, Int.toNat_natCast]
        have hst := Lib.hid (h.setPin i hi _ rfl n)
        have c0 := h.cell i 0 hi (by omega)
        have hf := h.row.frozen
        simp only [clC, Nat.add_zero, List.getElem?_cons_zero] at c0
        generalize (E.clients[i]!).pin = z at c0
        have h0' : 0 ≤ n := by omega
        have h1' : n ≤ E.now := by omega
        obtain ⟨m, hm⟩ : ∃ m, E.now = m := ⟨_, rfl⟩
        rw [hm] at h1' hc
        clear hP h hi h0 h1 hm
        go_enter Try.func41, Try.ntmps41
        go_wp2_with fail
        refine hof.mono ?_
        rintro e w1 ⟨rfl, rfl⟩
        go_wp2_with fail
        go_ret
        exact ⟨rfl, hst.out⟩
end Go.Proofs.Ytpobpijjpbggoaa
