/- package word: refs of slots, and their parts. -/
import Derived.Test.YtpobpijjpbggoaaBase
import Derived.Test.YtpobpijjpbggoaaMemFns
import Derived.Laws.ShiftsVarLaws
set_option linter.unusedSimpArgs false
set_option linter.unusedVariables false
namespace Go.Ten
open Go
theorem results_tmp4 {fn : Func} {t u v x : Tmp} (h : fn.results = #[.tmp t, .tmp u, .tmp v, .tmp x]) (tmps : Array Value) (P : Program) (w : World) :
    (results fn tmps).run P w = .ok (.tuple #[tmps.getD t undef, tmps.getD u undef, tmps.getD v undef, tmps.getD x undef]) w := by
  simp [results, h]
theorem i64_mask (i : Nat) (hi : i < 63) (m : Int) (hm : m = 2 ^ i - 1) (n : Int) : bits .and .i64 n m = n % 2 ^ i := by
  subst hm
  have hp : 2 ^ i ≤ 2 ^ 62 := Nat.pow_le_pow_right (by decide) (by omega)
  have hpos : 0 < 2 ^ i := Nat.two_pow_pos i
  have hc : ((2 : Int) ^ i - 1) = ((2 ^ i - 1 : Nat) : Int) := by
    rw [Int.natCast_sub hpos]; simp
  have h1 : (BitVec.ofInt 64 ((2 : Int) ^ i - 1)).toNat = 2 ^ i - 1 := by
    rw [hc, BitVec.toNat_ofInt]
    have h5 : (2 ^ 62 : Nat) = 4611686018427387904 := by decide
    rw [h5] at hp
    have h6 : ((2 ^ 64 : Nat) : Int) = 18446744073709551616 := by decide
    rw [h6]
    generalize 2 ^ i = z at *
    omega
  have hdvd : ((2 : Int) ^ i) ∣ ((2 ^ 64 : Nat) : Int) := by
    have := Nat.pow_dvd_pow 2 (show i ≤ 64 by omega)
    exact_mod_cast this
  have key : (((BitVec.ofInt 64 n &&& BitVec.ofInt 64 ((2 : Int) ^ i - 1)).toNat : Nat) : Int) = n % 2 ^ i := by
    rw [BitVec.toNat_and, h1, Nat.and_two_pow_sub_one_eq_mod, BitVec.toNat_ofInt]
    rw [Int.natCast_emod, Int.toNat_of_nonneg (Int.emod_nonneg _ (by decide))]
    rw [Int.natCast_pow]
    exact Int.emod_emod_of_dvd n hdvd
  show IntKind.i64.wrap (((BitVec.ofInt 64 n &&& BitVec.ofInt 64 ((2 : Int) ^ i - 1)).toNat : Nat) : Int) = n % 2 ^ i
  rw [key, IntKind.wrap_i64]
  have hp2 : (2 : Int) ^ i ≤ 4611686018427387904 := by
    have h6 : ((2 ^ i : Nat) : Int) ≤ ((2 ^ 62 : Nat) : Int) := Int.ofNat_le.2 hp
    rw [Int.natCast_pow] at h6
    have h7 : ((2 ^ 62 : Nat) : Int) = 4611686018427387904 := by decide
    rw [h7] at h6
    exact h6
  have hp3 : (0 : Int) < 2 ^ i := by exact_mod_cast hpos
  have h4 := Int.emod_nonneg n (Int.ne_of_gt hp3)
  have h5 := Int.emod_lt_of_pos n hp3
  generalize n % 2 ^ i = z at *
  omega
theorem i64_bit48 (n : Int) : bits .and .i64 n 281474976710656 = n / 281474976710656 % 2 * 281474976710656 := by
  have h1 : (BitVec.ofInt 64 281474976710656).toNat = 2 ^ 48 := by decide
  have key : (((BitVec.ofInt 64 n &&& BitVec.ofInt 64 281474976710656).toNat : Nat) : Int) = n / 281474976710656 % 2 * 281474976710656 := by
    rw [BitVec.toNat_and, h1, BitVec.toNat_ofInt]
    have h2 := and_bit_var 64 (n % ((2 ^ 64 : Nat) : Int)).toNat 48 (by decide)
    have h3 : ((2 : Int) ^ min (48 : Int).toNat 64 % 2 ^ 64).toNat = 2 ^ 48 := by decide
    rw [h3, if_neg (by decide)] at h2
    have h4 : (48 : Int).toNat = 48 := rfl
    rw [h4] at h2
    rw [h2]
    omega
  show IntKind.i64.wrap (((BitVec.ofInt 64 n &&& BitVec.ofInt 64 281474976710656).toNat : Nat) : Int) = _
  rw [key, IntKind.wrap_i64]
  omega
theorem i64_bit48_ne (n : Int) : (bits .and .i64 n 281474976710656 != 0) = decide (n / 281474976710656 % 2 = 1) := by
  rw [i64_bit48, Bool.eq_iff_iff]
  simp only [bne_iff_ne, ne_eq, decide_eq_true_eq]
  omega
theorem i64_shl16 (g : Int) (h0 : 1 ≤ g) (h1 : g ≤ 1073741824) : IntKind.i64.wrap (g * 65536) = g * 65536 := by
  rw [IntKind.wrap_i64]; omega
theorem i64_or16 (g s : Int) (h0 : 1 ≤ g) (h1 : g ≤ 1073741824) (h2 : 0 ≤ s) (h3 : s < 1024) : bits .or .i64 (g * 65536) s = g * 65536 + s :=
  bits_join .i64 63 (by decide) (fun n h0 h1 => by rw [IntKind.wrap_i64]; omega) 16 _ _ (by omega) (by omega) (by omega) h2 (by omega) (by omega)
theorem i64_or48 (x : Int) (h0 : 0 ≤ x) (h1 : x < 281474976710656) : bits .or .i64 x 281474976710656 = x + 281474976710656 := by
  have hc : bits .or .i64 x 281474976710656 = bits .or .i64 281474976710656 x := by simp only [bits, BitVec.or_comm]
  rw [hc, bits_join .i64 63 (by decide) (fun n h0 h1 => by rw [IntKind.wrap_i64]; omega) 48 281474976710656 x (by omega) (by omega) (by omega) h0 (by omega) (by omega)]
  omega
end Go.Ten

namespace Go.Proofs.Ytpobpijjpbggoaa
open Go.RowKit Go.Ten

set_option maxRecDepth 100000 in
set_option maxHeartbeats 400000 in
theorem word_ref_calls (s g : Int) (l : Bool) (w : World) : Calls Try.prog 68 #[.int .i64 s, .int .i64 g, .bool l] w fun e w' => e = .returned (.int .i64 (MemF.ref s g l)) ∧ w = w' := by
  by_cases h : s < 0 ∨ 1024 ≤ s ∨ g < 1 ∨ 1073741824 < g
  · have e : MemF.ref s g l = 0 := by unfold MemF.ref; rw [if_pos h]
    rw [e]
    replace e := Lib.hid e
    have hh : ∀ (hs : s < 0 ∨ (0 ≤ s ∧ 1024 ≤ s) ∨ (0 ≤ s ∧ s < 1024 ∧ g < 1) ∨ (0 ≤ s ∧ s < 1024 ∧ 1 ≤ g ∧ 1073741824 < g)), Calls Try.prog 68 #[.int .i64 s, .int .i64 g, .bool l] w fun e w' => e = .returned (.int .i64 0) ∧ w = w' := by
      rintro (h1 | ⟨h1, h2⟩ | ⟨h1, h2, h3⟩ | ⟨h1, h2, h3, h4⟩) <;>
      · clear h
        go_enter Try.func68, Try.ntmps68
        go_wp2
        go_ret
        exact ⟨rfl, rfl⟩
    exact hh (by omega)
  · have e : MemF.ref s g l = g * 65536 + s + (if l then 281474976710656 else 0) := by unfold MemF.ref; rw [if_neg h]
    have h0 : 0 ≤ s := by omega
    have h1 : s < 1024 := by omega
    have h2 : 1 ≤ g := by omega
    have h3 : g ≤ 1073741824 := by omega
    clear h
    have hw := i64_shl16 g h2 h3
    have ho := i64_or16 g s h2 h3 h0 h1
    have h8 := i64_or48 (g * 65536 + s) (by omega) (by omega)
    cases l
    · have e' : MemF.ref s g false = g * 65536 + s := by rw [e]; simp
      clear e
      rw [e']
      clear e'
      go_enter Try.func68, Try.ntmps68
      go_wp2
      go_ret
      exact ⟨rfl, rfl⟩
    · have e' : MemF.ref s g true = g * 65536 + s + 281474976710656 := by rw [e]; simp
      clear e
      rw [e']
      clear e'
      go_enter Try.func68, Try.ntmps68
      go_wp2
      go_ret
      exact ⟨rfl, rfl⟩

def partsV (r : Int) : Value := .tuple #[.int .i64 (MemF.parts r).1, .int .i64 (MemF.parts r).2.1, .bool (MemF.parts r).2.2.1, .bool (MemF.parts r).2.2.2]
set_option maxRecDepth 100000 in
set_option maxHeartbeats 400000 in
theorem word_parts_calls (r : Int) (w : World) : Calls Try.prog 78 #[.int .i64 r] w fun e w' => e = .returned (partsV r) ∧ w = w' := by
  have ha := i64_mask 16 (by decide) 65535 (by decide) r
  have hb := i64_mask 32 (by decide) 4294967295 (by decide) (r / 65536)
  have hc := i64_bit48_ne r
  simp only [show (2 : Int) ^ 16 = 65536 by decide, show (2 : Int) ^ 32 = 4294967296 by decide] at ha hb
  obtain ⟨s, hs⟩ : ∃ s, r % 65536 = s := ⟨_, rfl⟩
  obtain ⟨g, hg⟩ : ∃ g, r / 65536 % 4294967296 = g := ⟨_, rfl⟩
  obtain ⟨l, hl⟩ : ∃ l, decide (r / 281474976710656 % 2 = 1) = l := ⟨_, rfl⟩
  have hp : MemF.parts r = if r = 0 ∨ MemF.ref s g l ≠ r then (0, 0, false, false) else (s, g, l, true) := by
    unfold MemF.parts; simp only [hs, hg, hl]
  rw [hs] at ha
  rw [hg] at hb
  rw [hl] at hc
  replace hs := Lib.hid hs
  replace hg := Lib.hid hg
  replace hl := Lib.hid hl
  have hcall := word_ref_calls s g l w
  generalize MemF.ref s g l = z at *
  by_cases h0 : r = 0
  · subst h0
    have e : partsV 0 = .tuple #[.int .i64 0, .int .i64 0, .bool false, .bool false] := by unfold partsV; rw [hp]; simp
    rw [e]
    clear hp e hcall
    go_enter Try.func78, Try.ntmps78
    go_wp2
    (try simp only [Exit.inBlock, Exit.then]); refine bodyPost_ret (results_tmp4 rfl _ _ _) rfl ?_
    exact ⟨rfl, rfl⟩
  · have h0' : (r == 0) = false := by simpa using h0
    by_cases h1 : z = r
    · have e : partsV r = .tuple #[.int .i64 s, .int .i64 g, .bool l, .bool true] := by unfold partsV; rw [hp, if_neg (by omega)]
      rw [e]
      clear hp e h0
      have h1' : (z != r) = false := by simpa using h1
      clear h1
      go_enter Try.func78, Try.ntmps78
      go_wp2_with fail
      refine hcall.mono ?_
      rintro e w' ⟨rfl, rfl⟩
      clear hcall
      go_wp2_with fail
      (try simp only [Exit.inBlock, Exit.then]); refine bodyPost_ret (results_tmp4 rfl _ _ _) rfl ?_
      exact ⟨rfl, rfl⟩
    · have e : partsV r = .tuple #[.int .i64 0, .int .i64 0, .bool false, .bool false] := by unfold partsV; rw [hp, if_pos (.inr h1)]
      rw [e]
      clear hp e h0
      have h1' : (z != r) = true := by simpa using h1
      clear h1
      go_enter Try.func78, Try.ntmps78
      go_wp2_with fail
      refine hcall.mono ?_
      rintro e w' ⟨rfl, rfl⟩
      clear hcall
      go_wp2_with fail
      (try simp only [Exit.inBlock, Exit.then]); refine bodyPost_ret (results_tmp4 rfl _ _ _) rfl ?_
      exact ⟨rfl, rfl⟩
end Go.Proofs.Ytpobpijjpbggoaa
