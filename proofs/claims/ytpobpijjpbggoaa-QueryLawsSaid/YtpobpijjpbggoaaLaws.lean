/- tendrillaw23.QueryLaws answers true, whatever the queries and the sets. -/
import Derived.Test.YtpobpijjpbggoaaEvalLaws
import Derived.Test.YtpobpijjpbggoaaJoin
set_option linter.unusedSimpArgs false
set_option linter.unusedVariables false
namespace Go.Proofs.Ytpobpijjpbggoaa
open Go.RowKit Go.Ten Go.Ten.Qy Go.Ten.Mg

/-- A slice of slices, only their lengths known. -/
def LsL (w : World) (v : Value) (ns : List Nat) : Prop := ∃ p c, v = .slice p ns.length c ∧
  ∀ (i : Nat) (h : i < ns.length), ∃ blk off pi ci, p = some ⟨blk, off, none⟩ ∧ w.cell? ⟨blk, off + i, none⟩ = some (.slice pi ns[i] ci)

set_option maxRecDepth 100000 in
set_option maxHeartbeats 2000000 in
/-- One of the guards holds: the closed sentence alone is asked. -/
theorem laws_early (va vb vs : Value) (a b : List Part) (pall : Option Addr) (nall call : Nat) (ps : Option Addr) (ns cs : Nat) (w : World) (ha : PartsAt w va a) (hb : PartsAt w vb b) (hm : nall ≤ 9223372036854775807) (hm2 : ns ≤ 9223372036854775807)
    (hno : ¬ (rightQ a = true ∧ rightQ b = true ∧ a.length + b.length ≤ 40 ∧ nall ≤ 40 ∧ ns ≤ 40)) :
    Calls Try.prog 6 #[va, vb, .slice ps ns cs, .slice pall nall call] w fun e w' => e = .returned (.bool true) ∧ Below w.heap.size w w' := by
  have hra := right_calls va a w ha
  have hrb := fun (w' : World) (h : Below w.heap.size w w') => right_calls vb b w' (hb.grew h)
  have hrun := fun w => runs_calls w
  obtain ⟨pa, ca, rfl, _, _, _⟩ := id ha
  obtain ⟨pb, cb, rfl, _, _, _⟩ := id hb
  by_cases h1 : rightQ a = true
  · rw [h1] at hra
    by_cases h2 : rightQ b = true
    · rw [h2] at hrb
      have hor : 40 < a.length + b.length ∨ (a.length + b.length ≤ 40 ∧ 40 < nall) ∨ (a.length + b.length ≤ 40 ∧ nall ≤ 40 ∧ 40 < ns) := by
        by_cases g1 : a.length + b.length ≤ 40
        · by_cases g2 : nall ≤ 40
          · by_cases g3 : ns ≤ 40
            · exact absurd ⟨h1, h2, g1, g2, g3⟩ hno
            · exact .inr (.inr ⟨g1, g2, by omega⟩)
          · exact .inr (.inl ⟨g1, by omega⟩)
        · exact .inl (by omega)
      have ha2 := (right_terms h1).1
      have hb2 := (right_terms h2).1
      clear hno h1 h2
      obtain ⟨A, hA⟩ : ∃ A, a.length = A := ⟨_, rfl⟩
      obtain ⟨B, hB⟩ : ∃ B, b.length = B := ⟨_, rfl⟩
      rw [hA] at hra ha2
      rw [hB] at hb2
      simp only [hB] at hrb
      rw [hA, hB] at hor ⊢
      clear hA hB
      rcases hor with g1 | ⟨g1, g2⟩ | ⟨g1, g2, g3⟩
      all_goals
        go_enter Try.func6, Try.ntmps6
        go_wp2_with fail
        refine hra.mono ?_
        rintro e w1 ⟨rfl, hb1⟩
        clear hra
        go_wp2_with fail
        refine (hrb w1 hb1).mono ?_
        rintro e w2 ⟨rfl, hb2'⟩
        have hsz1 := hb1.size
        have hbw := hb1.trans (hb2'.mono hsz1)
        have hszw := hbw.size
        clear hrb
        go_wp2_with fail
        refine (hrun _).mono ?_
        rintro e w3 ⟨rfl, hb3⟩
        go_wp2_with fail
        go_ret
        exact ⟨rfl, hbw.trans (hb3.mono hszw)⟩
    · rw [Bool.not_eq_true] at h2
      rw [h2] at hrb
      go_enter Try.func6, Try.ntmps6
      go_wp2_with fail
      refine hra.mono ?_
      rintro e w1 ⟨rfl, hb1⟩
      clear hra
      go_wp2_with fail
      refine (hrb w1 hb1).mono ?_
      rintro e w2 ⟨rfl, hb2'⟩
      have hsz1 := hb1.size
      have hbw := hb1.trans (hb2'.mono hsz1)
      have hszw := hbw.size
      clear hrb
      go_wp2_with fail
      refine (hrun _).mono ?_
      rintro e w3 ⟨rfl, hb3⟩
      go_wp2_with fail
      go_ret
      exact ⟨rfl, hbw.trans (hb3.mono hszw)⟩
  · rw [Bool.not_eq_true] at h1
    rw [h1] at hra
    go_enter Try.func6, Try.ntmps6
    go_wp2_with fail
    refine hra.mono ?_
    rintro e w1 ⟨rfl, hb1⟩
    have hsz1 := hb1.size
    clear hra
    go_wp2_with fail
    refine (hrun _).mono ?_
    rintro e w3 ⟨rfl, hb3⟩
    go_wp2_with fail
    go_ret
    exact ⟨rfl, hb1.trans (hb3.mono hsz1)⟩

set_option maxRecDepth 100000 in
set_option maxHeartbeats 2000000 in
/-- One of the sets is too long: the closed sentence alone is asked. -/
theorem laws_mid (va vb vs : Value) (a b : List Part) (pall : Option Addr) (nall call : Nat) (ns : List Nat) (w : World) (ha : PartsAt w va a) (hb : PartsAt w vb b) (hs : LsL w vs ns) (hns : ∀ n ∈ ns, n ≤ 9223372036854775807)
    (h1 : rightQ a = true) (h2 : rightQ b = true) (h3 : a.length + b.length ≤ 40) (h4 : nall ≤ 40) (h5 : ns.length ≤ 40) (hex : ∃ n ∈ ns, 40 < n) :
    Calls Try.prog 6 #[va, vb, vs, .slice pall nall call] w fun e w' => e = .returned (.bool true) ∧ Below w.heap.size w w' := by
  have hra := right_calls va a w ha
  have hrb := fun (w' : World) (h : Below w.heap.size w w') => right_calls vb b w' (hb.grew h)
  have hrun := fun w => runs_calls w
  obtain ⟨pa, ca, rfl, _, _, _⟩ := id ha
  obtain ⟨pb, cb, rfl, _, _, _⟩ := id hb
  obtain ⟨ps, cs, rfl, hc⟩ := hs
  rw [h1] at hra
  rw [h2] at hrb
  clear h1 h2
  obtain ⟨A, hA⟩ : ∃ A, a.length = A := ⟨_, rfl⟩
  obtain ⟨B, hB⟩ : ∃ B, b.length = B := ⟨_, rfl⟩
  rw [hA] at hra
  simp only [hB] at hrb
  rw [hA, hB] at h3 ⊢
  clear hA hB
  go_enter Try.func6, Try.ntmps6
  go_wp2_with fail
  refine hra.mono ?_
  rintro e w1 ⟨rfl, hb1⟩
  clear hra
  go_wp2_with fail
  refine (hrb w1 hb1).mono ?_
  rintro e w2 ⟨rfl, hb2'⟩
  have hsz1 := hb1.size
  have hbw := hb1.trans (hb2'.mono hsz1)
  have hszw := hbw.size
  clear hrb
  go_wp2_with fail
  go_loopw [54] (fun v wr => ∃ k : Nat, v = .int .i64 k ∧ k ≤ ns.length ∧ wr = w2 ∧ ∀ i, i < k → ∀ (h : i < ns.length), ns[i] ≤ 40) (fun v _ => ns.length - (intOf v).toNat)
  case atStart => exact ⟨0, rfl, by omega, rfl, fun i h => by omega⟩
  case round =>
    obtain ⟨k, rfl, hk, rfl, hall⟩ := hrel
    replace hall := Lib.hid hall
    by_cases hlt : k < ns.length
    · obtain ⟨blk, off, pi, ci, rfl, hcell⟩ := hc k hlt
      have hnk := hns _ (List.getElem_mem hlt)
      have hcell2 := cell_grew hbw hcell
      have hcast : (k : Int) < (ns.length : Int) := by omega
      obtain ⟨n, hn⟩ : ∃ n, ns[k] = n := ⟨_, rfl⟩
      rw [hn] at hcell2 hnk
      replace hn := Lib.hid hn
      clear hcell hc
      by_cases hn40 : 40 < n
      · go_wp2_with fail
        refine (hrun _).mono ?_
        rintro e w3 ⟨rfl, hb3⟩
        go_wp2_with fail
        go_ret
        exact ⟨rfl, hbw.trans (hb3.mono hszw)⟩
      · go_wp2_with fail
        go_roundw
        case rel =>
          refine ⟨k + 1, by simp, by omega, by first | rfl | trivial, fun i hi h => ?_⟩
          by_cases hik : i < k
          · exact hall.out i hik h
          · obtain rfl : i = k := by omega
            have := hn.out
            omega
        case measure => simp [intOf]; omega
    · exfalso
      obtain ⟨n, hn, h40⟩ := hex
      obtain ⟨i, hi, rfl⟩ := List.getElem_of_mem hn
      have := hall.out i (by omega) hi
      omega
end Go.Proofs.Ytpobpijjpbggoaa
