/- container/heap: up, down over whatever interface value whose Less and Swap are known. -/
import Derived.Test.YtpobpijjpbggoaaProg
import Derived.Test.YtpobpijjpbggoaaBase
import Derived.Test.YtpobpijjpbggoaaHeapFns
import Derived.WalkKit
import Derived.WalkSpells
import Derived.WalkLawsBesides
import Derived.Lib.Hide
namespace Go.Proofs.Ytpobpijjpbggoaa
open Go.RowKit Go.Ten

/-- An interface value whose methods Less and Swap are known: 'I w xs': in the world w it holds the list xs. -/
structure HeapI (T : TypeId) (v : Value) {α : Type} [Inhabited α] (lt : α → α → Bool) (I : World → List α → Prop) where
  fless : FuncId
  fswap : FuncId
  callLess : ∀ args w, (callFunc fless args).run Try.prog w = .ok (.enter fless args) w
  callSwap : ∀ args w, (callFunc fswap args).run Try.prog w = .ok (.enter fswap args) w
  less : ∀ w xs, I w xs → ∃ r, (∀ n, (method (n + 1) T v "Less").run Try.prog w = .ok (fless, r) w) ∧
    ∀ i j : Nat, i < xs.length → j < xs.length → Calls Try.prog fless #[r, .int .i64 i, .int .i64 j] w fun e w' => e = .returned (.bool (lt xs[i]! xs[j]!)) ∧ I w' xs
  swap : ∀ w xs, I w xs → ∃ r, (∀ n, (method (n + 1) T v "Swap").run Try.prog w = .ok (fswap, r) w) ∧
    ∀ i j : Nat, i < xs.length → j < xs.length → Calls Try.prog fswap #[r, .int .i64 i, .int .i64 j] w fun e w' => e = .returned (.tuple #[]) ∧ I w' (HeapFns.sw xs i j)

set_option maxHeartbeats 400000 in
theorem heap_up {T : TypeId} {v : Value} {α : Type} [Inhabited α] {lt : α → α → Bool} {I : World → List α → Prop} (H : HeapI T v lt I)
    (w : World) (xs : List α) (j : Nat) (hI : I w xs) (hj : j < xs.length) (hn : xs.length ≤ 4294967296) :
    Calls Try.prog 106 #[.iface T v, .int .i64 j] w fun e w' => e = .returned (.tuple #[]) ∧ I w' (HeapFns.up lt (j + 1) xs j) := by
  go_enter Try.func106, Try.ntmps106
  go_wp2
  go_loopw [1] (fun s wr => ∃ (k : Nat) (ys : List α), s = .int .i64 k ∧ k ≤ j ∧ I wr ys ∧ ys.length = xs.length ∧ HeapFns.up lt (k + 1) ys k = HeapFns.up lt (j + 1) xs j) (fun s _ => (intOf s).toNat)
  case atStart => exact ⟨j, xs, rfl, Nat.le_refl _, hI, rfl, rfl⟩
  case round =>
    obtain ⟨k, ys, rfl, hk, hIk, hlen, hup⟩ := hrel
    have Hup := Lib.hid hup
    have Hlen := Lib.hid hlen
    clear hup hlen
    by_cases hk0 : k = 0
    · subst hk0
      go_wp2
      go_end0
      refine ⟨rfl, ?_⟩
      have := Hup.out
      simp only [HeapFns.up, if_true] at this
      rw [HeapFns.up, ← this]
      exact hIk
    · obtain ⟨i, rfl⟩ : ∃ i, k = i + 1 := ⟨k - 1, by omega⟩
      clear hk0
      obtain ⟨r, hm, hc⟩ := H.less wr ys hIk
      have hcl := H.callLess
      have e1 : ((((i + 1 : Nat) : Int) - 1) / 2) = ((i / 2 : Nat) : Int) := by omega
      go_wp2_with fail
      refine (calls_at (hc (i + 1) (i / 2) (by have := Hlen.out; omega) (by have := Hlen.out; omega)) (by simp <;> omega)).mono ?_
      rintro e w1 ⟨rfl, hI1⟩
      clear hc hm r
      obtain ⟨r, hm, hc⟩ := H.swap w1 ys hI1
      have hcs := H.callSwap
      by_cases hlt : lt ys[i + 1]! ys[i / 2]! = true
      · rw [hlt]
        go_wp2_with fail
        refine (calls_at (hc (i / 2) (i + 1) (by have := Hlen.out; omega) (by have := Hlen.out; omega)) (by simp <;> omega)).mono ?_
        rintro e w2 ⟨rfl, hI2⟩
        go_wp2_with fail
        go_roundw
        case rel =>
          refine ⟨i / 2, _, by simp, by omega, hI2, by rw [HeapFns.sw_length]; exact Hlen.out, ?_⟩
          rw [← Hup.out, HeapFns.up_step lt ys i hlt]
        case measure => simp [intOf]; omega
      · rw [Bool.not_eq_true] at hlt
        rw [hlt]
        go_wp2_with fail
        go_end0
        refine ⟨rfl, ?_⟩
        have h := Hup.out
        rw [HeapFns.up, if_neg (by omega), Nat.add_sub_cancel, hlt] at h
        simp at h
        rw [← h]; exact hI1

set_option maxHeartbeats 1000000 in
theorem heap_down {T : TypeId} {v : Value} {α : Type} [Inhabited α] {lt : α → α → Bool} {I : World → List α → Prop} (H : HeapI T v lt I)
    (w : World) (xs : List α) (i0 n : Nat) (hI : I w xs) (hi : i0 ≤ n) (hnx : n ≤ xs.length) (hn : xs.length ≤ 4294967296) :
    Calls Try.prog 107 #[.iface T v, .int .i64 i0, .int .i64 n] w fun e w' => e = .returned (.bool (decide (i0 < (HeapFns.down lt (n + 1) xs i0 n).2))) ∧ I w' (HeapFns.down lt (n + 1) xs i0 n).1 := by
  go_enter Try.func107, Try.ntmps107
  go_wp2
  go_loopw [7, 8, 9, 10] (fun s _ _ _ wr => ∃ (k : Nat) (ys : List α), s = .int .i64 k ∧ k ≤ n ∧ I wr ys ∧ ys.length = xs.length ∧ HeapFns.down lt (n + 1) ys k n = HeapFns.down lt (n + 1) xs i0 n) (fun s _ _ _ _ => n - (intOf s).toNat)
  case atStart => exact ⟨i0, xs, rfl, hi, hI, rfl, rfl⟩
  case round =>
    obtain ⟨k, ys, rfl, hk, hIk, hlen, hup⟩ := hrel
    have Hup := Lib.hid hup
    have Hlen := Lib.hid hlen
    clear hup hlen
    by_cases hj : n ≤ 2 * k + 1
    · go_wp2
      go_ret
      have h1 : HeapFns.down lt (n + 1) ys k n = (ys, k) := by rw [HeapFns.down, if_pos hj]
      have h2 := Hup.out
      rw [h1] at h2
      rw [← h2]
      exact ⟨by simp, hIk⟩
    · obtain ⟨r, hm, hc⟩ := H.less wr ys hIk
      have hcl := H.callLess
      by_cases hj2 : 2 * k + 2 < n
      · go_wp2_with fail
        refine (calls_at (hc (2 * k + 2) (2 * k + 1) (by have := Hlen.out; omega) (by have := Hlen.out; omega)) (by simp <;> omega)).mono ?_
        rintro e w2 ⟨rfl, hw2⟩
        clear hc hm r
        by_cases hb : lt ys[2 * k + 2]! ys[2 * k + 1]! = true
        · rw [hb]
          obtain ⟨r, hm, hc⟩ := H.less w2 ys hw2
          go_wp2_with fail
          refine (calls_at (hc (2 * k + 2) k (by have := Hlen.out; omega) (by have := Hlen.out; omega)) (by simp <;> omega)).mono ?_
          rintro e w3 ⟨rfl, hI3⟩
          clear hc hm r
          by_cases hlt : lt ys[2 * k + 2]! ys[k]! = true
          · rw [hlt]
            obtain ⟨r, hm, hc⟩ := H.swap w3 ys hI3
            have hcs := H.callSwap
            go_wp2_with fail
            refine (calls_at (hc k (2 * k + 2) (by have := Hlen.out; omega) (by have := Hlen.out; omega)) (by simp <;> omega)).mono ?_
            rintro e w4 ⟨rfl, hI4⟩
            go_wp2_with fail
            go_roundw
            case rel =>
              refine ⟨2 * k + 2, _, by simp <;> omega, by omega, hI4, by rw [HeapFns.sw_length]; exact Hlen.out, ?_⟩
              rw [← Hup.out, HeapFns.down_step lt ys k n hj _ (by rw [if_pos ⟨hj2, hb⟩]) hlt]
            case measure => simp [intOf]; omega
          · rw [Bool.not_eq_true] at hlt
            rw [hlt]
            go_wp2_with fail
            go_ret
            have h2 := Hup.out
            rw [HeapFns.down_stop lt ys k n hj _ (by rw [if_pos ⟨hj2, hb⟩]) hlt] at h2
            rw [← h2]
            exact ⟨by simp, hI3⟩
        · rw [Bool.not_eq_true] at hb
          rw [hb]
          obtain ⟨r, hm, hc⟩ := H.less w2 ys hw2
          go_wp2_with fail
          refine (calls_at (hc (2 * k + 1) k (by have := Hlen.out; omega) (by have := Hlen.out; omega)) (by simp <;> omega)).mono ?_
          rintro e w3 ⟨rfl, hI3⟩
          clear hc hm r
          by_cases hlt : lt ys[2 * k + 1]! ys[k]! = true
          · rw [hlt]
            obtain ⟨r, hm, hc⟩ := H.swap w3 ys hI3
            have hcs := H.callSwap
            go_wp2_with fail
            refine (calls_at (hc k (2 * k + 1) (by have := Hlen.out; omega) (by have := Hlen.out; omega)) (by simp <;> omega)).mono ?_
            rintro e w4 ⟨rfl, hI4⟩
            go_wp2_with fail
            go_roundw
            case rel =>
              refine ⟨2 * k + 1, _, by simp <;> omega, by omega, hI4, by rw [HeapFns.sw_length]; exact Hlen.out, ?_⟩
              rw [← Hup.out, HeapFns.down_step lt ys k n hj _ (by rw [if_neg (fun h => by rw [hb] at h; exact absurd h.2 (by simp))]) hlt]
            case measure => simp [intOf]; omega
          · rw [Bool.not_eq_true] at hlt
            rw [hlt]
            go_wp2_with fail
            go_ret
            have h2 := Hup.out
            rw [HeapFns.down_stop lt ys k n hj _ (by rw [if_neg (fun h => by rw [hb] at h; exact absurd h.2 (by simp))]) hlt] at h2
            rw [← h2]
            exact ⟨by simp, hI3⟩
      · have hwr := hIk
        clear hc hm r
        obtain ⟨r, hm, hc⟩ := H.less wr ys hwr
        go_wp2_with fail
        refine (calls_at (hc (2 * k + 1) k (by have := Hlen.out; omega) (by have := Hlen.out; omega)) (by simp <;> omega)).mono ?_
        rintro e w3 ⟨rfl, hI3⟩
        clear hc hm r
        by_cases hlt : lt ys[2 * k + 1]! ys[k]! = true
        · rw [hlt]
          obtain ⟨r, hm, hc⟩ := H.swap w3 ys hI3
          have hcs := H.callSwap
          go_wp2_with fail
          refine (calls_at (hc k (2 * k + 1) (by have := Hlen.out; omega) (by have := Hlen.out; omega)) (by simp <;> omega)).mono ?_
          rintro e w4 ⟨rfl, hI4⟩
          go_wp2_with fail
          go_roundw
          case rel =>
            refine ⟨2 * k + 1, _, by simp <;> omega, by omega, hI4, by rw [HeapFns.sw_length]; exact Hlen.out, ?_⟩
            rw [← Hup.out, HeapFns.down_step lt ys k n hj _ (by rw [if_neg (fun h => hj2 h.1)]) hlt]
          case measure => simp [intOf]; omega
        · rw [Bool.not_eq_true] at hlt
          rw [hlt]
          go_wp2_with fail
          go_ret
          have h2 := Hup.out
          rw [HeapFns.down_stop lt ys k n hj _ (by rw [if_neg (fun h => hj2 h.1)]) hlt] at h2
          rw [← h2]
          exact ⟨by simp, hI3⟩
end Go.Proofs.Ytpobpijjpbggoaa
