/- tendrillaw14.TickWaits: the walk, all but TickRuns. -/
import Derived.Test.YtpobpijjpbggoaaStage
import Derived.Deep.RegionHeld3
set_option linter.unusedSimpArgs false
set_option linter.unusedVariables false
namespace Go.Proofs.Ytpobpijjpbggoaa
open Go.RowKit Go.Ten

theorem facts' : ∃ arA arB arC leafR rootR, MemF.Facts arA arB arC leafR rootR ∧ ∀ n k, MemF.Mem.new MemF.cfgN n 8 root0 = MemF.mk rootR arA 0 (MemF.clP n k (-1) []) n :=
  ⟨_, _, _, _, _, MemF.facts, fun n k => MemF.new_mk n k⟩
theorem new24 (n : Nat) (w : World) (h1 : 1 ≤ n) (h8 : n ≤ 8) :
    Calls Try.prog 9 #[.agg #[.int .i64 40, .int .i64 24, .int .i64 8, .int .i64 4, .int .i64 2, .int .i64 n, .int .i64 8, .int .i64 1]] w (NewMem MemF.cfgN n 8 w) :=
  mem_new_calls MemF.cfgN n 8 1 w (by decide) (by decide) (by decide) h1 h8 (by omega) (by omega) (by omega) (by omega)

set_option maxRecDepth 100000 in
set_option maxHeartbeats 4000000 in
theorem waits_calls (hruns : ∀ w, Calls Try.prog 18 #[] w fun e w' => e = .returned (.bool true) ∧ Below w.heap.size w w') (a0 a1 a2 : Int) (u : World) :
    Calls Try.prog 3 #[.int .i64 a0, .int .i64 a1, .int .i64 a2] u fun e w' => e = .returned (.bool true) ∧ Below u.heap.size u w' := by
  obtain ⟨arA, arB, arC, leafR, rootR, F, hnew⟩ := facts'
  have hF := Lib.hid F
  have hnw := Lib.hid hnew
  replace hruns := Lib.hid hruns
  clear F hnew
  go_enter Try.func3, Try.ntmps3
  go_wp2_with fail
  refine (config0_calls _).mono ?_
  rintro e w1 ⟨rfl, hB1⟩
  replace hB1 := Lib.hid hB1
  go_wp2_with fail
  refine (within_calls a0 7 (by omega) (by omega) _).mono ?_
  rintro e w2 ⟨r, rfl, rfl, hr0, hr7, -⟩
  obtain ⟨n, hn⟩ : ∃ n : Nat, 1 + r = n := ⟨(1 + r).toNat, by omega⟩
  have en : IntKind.wrap .i64 (1 + r) = n := by rw [hn]; exact wrap64 rfl (by omega)
  have hn1 : 1 ≤ n := by omega
  have hn8 : n ≤ 8 := by omega
  go_wp2_with fail
  refine (new24 n _ hn1 hn8).mono ?_
  rintro e w4 ⟨m, W, rfl, hX, hge, hB4⟩
  have hc4 := (Upd.of_below' (S := fun _ => False) hB4).cell (p := ⟨w1.heap.size, 5, none⟩) (v := .int .i64 n) (fun h => h) (by simp [go_sem])
  have hsz := hB4.size
  have hlt : w1.heap.size < w4.heap.size := by simp at hsz; omega
  have hne : ¬ w4.heap.size = w1.heap.size := by omega
  have hne' : ¬ w1.heap.size = w4.heap.size := by omega
  have hS : Stg u (w4.alloc (.cells #[.pointer (some ⟨m, 0, none⟩)] 27)) w1.heap.size w4.heap.size m n (MemF.Mem.new MemF.cfgN n 8 root0) := by
    refine stg_new hX ?_ ?_ hn1 hn8 (fun hh => ?_) hc4 ?_ ?_
    · rw [hnw.out n 0]; exact MemF.mk_ok hF.out.okA 0 n 0 (-1) [] (by omega) (by omega) (by omega) (by simp) (by simp)
    · rw [hnw.out n 0]; rfl
    · have := hge _ hh
      simp at this
      omega
    · exact (hB1.out.alloc hB1.out.size _).trans (hB4.mono (by simp; have := hB1.out.size; omega))
    · intro k hk
      have := hge _ hk
      have := hB1.out.size
      simp at *
      omega
  replace hS := Lib.hid hS
  have ek : IntKind.wrap .i64 ((n : Int) - 1) = (n : Int) - 1 := wrap64 rfl (by omega)
  clear hX hge hB4
  go_wp2_with fail
  refine (within_calls a1 ((n : Int) - 1) (by omega) (by omega) _).mono ?_
  rintro e w5 ⟨k', rfl, rfl, hk0, hk1, -⟩
  obtain ⟨k, rfl⟩ : ∃ k : Nat, k' = k := ⟨k'.toNat, by omega⟩
  have hk : k < n := by omega
  have hp := hS.out.ptr
  have hcf := hS.out.cfg
  clear ek en hc4 hsz hlt hne hne'
  obtain ⟨w6, hw6⟩ : ∃ w6, w4.alloc (.cells #[.pointer (some ⟨m, 0, none⟩)] 27) = w6 := ⟨_, rfl⟩
  obtain ⟨c, hc⟩ : ∃ c, w1.heap.size = c := ⟨_, rfl⟩
  obtain ⟨mb, hmb⟩ : ∃ mb, w4.heap.size = mb := ⟨_, rfl⟩
  rw [hw6, hc, hmb] at hS
  rw [hw6, hmb] at hp
  rw [hw6, hc] at hcf
  rw [hw6, hc, hmb]
  clear hw6 hc hmb
  have hn' := Lib.hid (⟨hn1, hn8⟩ : 1 ≤ n ∧ n ≤ 8)
  have hrun1 : ∀ w, Stg u w c mb m n (MemF.Mem.new MemF.cfgN n 8 root0) → Calls Try.prog 10 #[.pointer (some ⟨c, 0, none⟩), .pointer (some ⟨mb, 0, none⟩)] w fun e w' => e = .returned (.bool true) ∧ Stg u w' c mb m n (MemF.mk rootR arA 1 (MemF.clP n k (-1) []) n) :=
    fun w h => stg_run h (by rw [hnw.out n k]; exact MemF.law_on hn'.out hF.out.okA 0 (-1) (by omega) (.inl rfl)) rfl
  have hpin1 : ∀ w, Stg u w c mb m n (MemF.mk rootR arA 1 (MemF.clP n k (-1) []) n) → Calls Try.prog 14 #[.pointer (some ⟨m, 0, none⟩), .int .i64 k, .agg #[.int .i64 8, .int .i64 0, .int .i64 0, .int .i64 1, .int .u64 0, .slice none 0 0]] w fun e w' => (∃ p l cp, e = .returned (.agg #[.int .i64 0, .int .i64 0, .bool true, .slice p l cp])) ∧ Stg u w' c mb m n (MemF.mk rootR arA 1 (MemF.clP n k 1 []) n) :=
    fun w h => stg_do k { kind := 8, n := 1 } h (MemF.law_pin hk) rfl rfl
  have hnow1 : ∀ w, Stg u w c mb m n (MemF.mk rootR arA 1 (MemF.clP n k (-1) []) n) → Calls Try.prog 15 #[.pointer (some ⟨m, 0, none⟩)] w fun e w' => e = .returned (.int .i64 1) ∧ w' = w :=
    fun w h => stg_now h
  have hfld := res_ok
  replace hrun1 := Lib.hid hrun1
  replace hpin1 := Lib.hid hpin1
  replace hnow1 := Lib.hid hnow1
  go_wp2_with fail
  go_region_held3 (fun w' => w'.cell? ⟨mb, 0, none⟩ = some (.pointer (some ⟨m, 0, none⟩))) (go_keep)
    (first
      | (go_at_call 10; refine (hrun1.out _ hS.out.drew).mono ?_; rintro e w7 ⟨rfl, hS7⟩; have hp7 := hS7.ptr; replace hS7 := Lib.hid hS7)
      | (go_at_call 15; refine (hnow1.out _ hS7.out).mono ?_; rintro e w8 ⟨rfl, rfl⟩)
      | (go_at_call 14; refine (hpin1.out _ hS7.out).mono ?_; rintro e w8 ⟨⟨p8, l8, c8, rfl⟩, hS8⟩; have hp8 := hS8.ptr; replace hS8 := Lib.hid hS8))
  clear hp hcf
  replace hfld := Lib.hid hfld
  replace hS8 := Lib.hid hS8.out
  clear hS7 hp7 hrun1 hpin1 hnow1 hS
  have hal : ∀ w, Stg u w c mb m n (MemF.mk rootR arA 1 (MemF.clP n k 1 []) n) → Calls Try.prog 14 #[.pointer (some ⟨m, 0, none⟩), .int .i64 0, .agg #[.int .i64 4, .int .i64 0, .int .i64 0, .int .i64 0, .int .u64 0, .slice none 0 0]] w fun e w' => (∃ p l cp, e = .returned (.agg #[.int .i64 0, .int .i64 leafR, .bool false, .slice p l cp])) ∧ Stg u w' c mb m n (MemF.mk rootR arB 1 (MemF.clP n k 1 []) n) :=
    fun w h => stg_do 0 { kind := 4, cls := 0 } h (MemF.law_alloc hn'.out hF.out) rfl rfl
  have hret : ∀ w, Stg u w c mb m n (MemF.mk rootR arB 1 (MemF.clP n k 1 []) n) → Calls Try.prog 14 #[.pointer (some ⟨m, 0, none⟩), .int .i64 0, .agg #[.int .i64 6, .int .i64 leafR, .int .i64 0, .int .i64 0, .int .u64 0, .slice none 0 0]] w fun e w' => (∃ p l cp, e = .returned (.agg #[.int .i64 0, .int .i64 0, .bool false, .slice p l cp])) ∧ Stg u w' c mb m n (MemF.mk rootR arB 1 (MemF.clP n k 1 [(leafR, 1)]) n) :=
    fun w h => stg_do 0 { kind := 6, ref := leafR } h (MemF.law_retire hn'.out hF.out) rfl rfl
  replace hal := Lib.hid hal
  replace hret := Lib.hid hret
  go_wp2_with fail
  refine (hal.out _ hS8.out).mono ?_
  rintro e w9 ⟨⟨p9, l9, c9, rfl⟩, hS9⟩
  have hS10 := hS9.alloc (.cells #[.int .i64 0, .int .i64 leafR, .bool false, .slice p9 l9 c9] 44)
  have hp9 := hS9.ptr
  have hmlt : mb < w9.heap.size := cell_lt hp9
  have hmbne : ¬ mb = w9.heap.size := by omega
  have hmbne' : ¬ w9.heap.size = mb := by omega
  replace hS9 := Lib.hid hS9
  replace hS10 := Lib.hid hS10
  go_wp2_with fail
  refine (hret.out _ hS10.out).mono ?_
  rintro e w10 ⟨⟨p10, l10, c10, rfl⟩, hS11⟩
  have hp10 := hS11.ptr
  replace hS11 := Lib.hid hS11
  have hfld' := hfld.out
  clear hp9 hmlt hmbne hmbne' hp8 hS9 hS10
  have hres : ∀ w, Sem.run Try.prog (Instr.field 44 (.agg #[.int .i64 0, .int .i64 0, .bool false, .slice p10 l10 c10]) 0) w = .ok (.int .i64 0) w := fun w => res_err _ _ _ _ w
  go_wp2_with fail
  clear hfld' hres
  refine (within_calls a2 9 (by omega) (by omega) _).mono ?_
  rintro e w11 ⟨q, rfl, rfl, hq0, hq9, -⟩
  have hL : Stg2 u w11 c mb m n (MemF.mk rootR arB 1 (MemF.clP n k 1 [(leafR, 1)]) n) (MemF.mk rootR arB 2 (MemF.clP n k 1 [(leafR, 1)]) n) := .inl hS11.out
  replace hL := Lib.hid hL
  have hrunL : ∀ w, Stg2 u w c mb m n (MemF.mk rootR arB 1 (MemF.clP n k 1 [(leafR, 1)]) n) (MemF.mk rootR arB 2 (MemF.clP n k 1 [(leafR, 1)]) n) → Calls Try.prog 10 #[.pointer (some ⟨c, 0, none⟩), .pointer (some ⟨mb, 0, none⟩)] w fun e w' => e = .returned (.bool true) ∧ Stg2 u w' c mb m n (MemF.mk rootR arB 2 (MemF.clP n k 1 [(leafR, 1)]) n) (MemF.mk rootR arB 2 (MemF.clP n k 1 [(leafR, 1)]) n) :=
    fun w h => stg2_run h (MemF.law_one hn'.out hF.out 1 (.inr rfl)) (MemF.law_stay hn'.out hk hF.out) rfl rfl
  have hnowL : ∀ w, Stg2 u w c mb m n (MemF.mk rootR arB 2 (MemF.clP n k 1 [(leafR, 1)]) n) (MemF.mk rootR arB 2 (MemF.clP n k 1 [(leafR, 1)]) n) → Calls Try.prog 15 #[.pointer (some ⟨m, 0, none⟩)] w fun e w' => e = .returned (.int .i64 2) ∧ w' = w :=
    fun w h => stg2_now h rfl rfl
  have hliveL : ∀ w, Stg2 u w c mb m n (MemF.mk rootR arB 2 (MemF.clP n k 1 [(leafR, 1)]) n) (MemF.mk rootR arB 2 (MemF.clP n k 1 [(leafR, 1)]) n) → Calls Try.prog 16 #[.pointer (some ⟨m, 0, none⟩)] w fun e w' => e = .returned (.int .i64 2) ∧ w' = w :=
    fun w h => stg2_live h hF.out.liveB hF.out.liveB
  have hlimL : ∀ w, Stg2 u w c mb m n (MemF.mk rootR arB 2 (MemF.clP n k 1 [(leafR, 1)]) n) (MemF.mk rootR arB 2 (MemF.clP n k 1 [(leafR, 1)]) n) → Calls Try.prog 17 #[.pointer (some ⟨m, 0, none⟩), .int .i64 0] w fun e w' => e = .returned (.int .i64 1) ∧ w' = w :=
    fun w h => stg2_limbo h (mk_limbo _ _ _ _ _ _ _ hn'.out.1) (mk_limbo _ _ _ _ _ _ _ hn'.out.1)
  replace hrunL := Lib.hid hrunL
  replace hnowL := Lib.hid hnowL
  replace hliveL := Lib.hid hliveL
  replace hlimL := Lib.hid hlimL
  go_wp2_with fail
  go_loopw [13] (fun vi wr => ∃ I : Int, vi = .int .i64 I ∧ 0 ≤ I ∧ I ≤ 9 ∧ Hid (Stg2 u wr c mb m n (MemF.mk rootR arB 1 (MemF.clP n k 1 [(leafR, 1)]) n) (MemF.mk rootR arB 2 (MemF.clP n k 1 [(leafR, 1)]) n))) (fun v _ => (intOf v).toNat)
  case atStart => exact ⟨q, rfl, hq0, hq9, hL⟩
  case round =>
    clear hL hS11 hp10
    obtain ⟨I, rfl, hI0, hI9, hh⟩ := hrel
    by_cases hI : 0 < I
    · have eI : IntKind.wrap .i64 (I - 1) = I - 1 := wrap64 rfl (by omega)
      have hnI : 0 ≤ I - 1 ∧ I - 1 ≤ 9 := by omega
      go_wp2_with fail
      refine (hrunL.out _ hh.out).mono ?_
      rintro e w12 ⟨rfl, hS12⟩
      have hp12 := hS12.ptr
      replace hS12 := Lib.hid hS12
      go_wp2_with fail
      refine (hnowL.out _ hS12.out).mono ?_
      rintro e w13 ⟨rfl, rfl⟩
      go_wp2_with fail
      refine (hliveL.out _ hS12.out).mono ?_
      rintro e w13 ⟨rfl, rfl⟩
      go_wp2_with fail
      refine (hlimL.out _ hS12.out).mono ?_
      rintro e w13 ⟨rfl, rfl⟩
      go_wp2_with fail
      go_roundw
      case rel => exact ⟨I - 1, rfl, hnI.1, hnI.2, Lib.hid (.inr (hS12.out.elim id id))⟩
      case measure => simp [intOf]; omega
    · clear hrunL hnowL hliveL hlimL
      have hpL := hh.out.ptr
      have hun : ∀ w, Stg2 u w c mb m n (MemF.mk rootR arB 1 (MemF.clP n k 1 [(leafR, 1)]) n) (MemF.mk rootR arB 2 (MemF.clP n k 1 [(leafR, 1)]) n) → Calls Try.prog 14 #[.pointer (some ⟨m, 0, none⟩), .int .i64 k, .agg #[.int .i64 9, .int .i64 0, .int .i64 0, .int .i64 0, .int .u64 0, .slice none 0 0]] w fun e w' => (∃ p l cp, e = .returned (.agg #[.int .i64 0, .int .i64 0, .bool true, .slice p l cp])) ∧ Stg2 u w' c mb m n (MemF.mk rootR arB 1 (MemF.clP n k (-1) [(leafR, 1)]) n) (MemF.mk rootR arB 2 (MemF.clP n k (-1) [(leafR, 1)]) n) :=
        fun w h => stg2_do k { kind := 9 } h (MemF.law_unpin hk 1) (MemF.law_unpin hk 2) rfl rfl rfl
      have hr1 : ∀ w, Stg2 u w c mb m n (MemF.mk rootR arB 1 (MemF.clP n k (-1) [(leafR, 1)]) n) (MemF.mk rootR arB 2 (MemF.clP n k (-1) [(leafR, 1)]) n) → Calls Try.prog 10 #[.pointer (some ⟨c, 0, none⟩), .pointer (some ⟨mb, 0, none⟩)] w fun e w' => e = .returned (.bool true) ∧ Stg2 u w' c mb m n (MemF.mk rootR arB 2 (MemF.clP n k (-1) [(leafR, 1)]) n) (MemF.mk rootR arC 3 (MemF.clP n k (-1) []) n) :=
        fun w h => stg2_run h (MemF.law_one hn'.out hF.out (-1) (.inl rfl)) (MemF.law_free hn'.out hF.out) rfl rfl
      have hr2 : ∀ w, Stg2 u w c mb m n (MemF.mk rootR arB 2 (MemF.clP n k (-1) [(leafR, 1)]) n) (MemF.mk rootR arC 3 (MemF.clP n k (-1) []) n) → Calls Try.prog 10 #[.pointer (some ⟨c, 0, none⟩), .pointer (some ⟨mb, 0, none⟩)] w fun e w' => e = .returned (.bool true) ∧ Stg2 u w' c mb m n (MemF.mk rootR arC 3 (MemF.clP n k (-1) []) n) (MemF.mk rootR arC 4 (MemF.clP n k (-1) []) n) :=
        fun w h => stg2_run h (MemF.law_free hn'.out hF.out) (MemF.law_on hn'.out hF.out.okC 3 (-1) (by omega) (.inl rfl)) rfl rfl
      have hr3 : ∀ w, Stg2 u w c mb m n (MemF.mk rootR arC 3 (MemF.clP n k (-1) []) n) (MemF.mk rootR arC 4 (MemF.clP n k (-1) []) n) → Calls Try.prog 10 #[.pointer (some ⟨c, 0, none⟩), .pointer (some ⟨mb, 0, none⟩)] w fun e w' => e = .returned (.bool true) ∧ Stg2 u w' c mb m n (MemF.mk rootR arC 4 (MemF.clP n k (-1) []) n) (MemF.mk rootR arC 5 (MemF.clP n k (-1) []) n) :=
        fun w h => stg2_run h (MemF.law_on hn'.out hF.out.okC 3 (-1) (by omega) (.inl rfl)) (MemF.law_on hn'.out hF.out.okC 4 (-1) (by omega) (.inl rfl)) rfl rfl
      have hlv : ∀ w, Stg2 u w c mb m n (MemF.mk rootR arC 4 (MemF.clP n k (-1) []) n) (MemF.mk rootR arC 5 (MemF.clP n k (-1) []) n) → Calls Try.prog 16 #[.pointer (some ⟨m, 0, none⟩)] w fun e w' => e = .returned (.int .i64 1) ∧ w' = w :=
        fun w h => stg2_live h hF.out.liveC hF.out.liveC
      have hlb : ∀ w, Stg2 u w c mb m n (MemF.mk rootR arC 4 (MemF.clP n k (-1) []) n) (MemF.mk rootR arC 5 (MemF.clP n k (-1) []) n) → Calls Try.prog 17 #[.pointer (some ⟨m, 0, none⟩), .int .i64 0] w fun e w' => e = .returned (.int .i64 0) ∧ w' = w :=
        fun w h => stg2_limbo h (mk_limbo _ _ _ _ _ _ _ hn'.out.1) (mk_limbo _ _ _ _ _ _ _ hn'.out.1)
      replace hun := Lib.hid hun
      replace hr1 := Lib.hid hr1
      replace hr2 := Lib.hid hr2
      replace hr3 := Lib.hid hr3
      replace hlv := Lib.hid hlv
      replace hlb := Lib.hid hlb
      go_wp2_with fail
      refine (hun.out _ hh.out).mono ?_
      rintro e w12 ⟨⟨p12, l12, c12, rfl⟩, hS12⟩
      replace hS12 := Lib.hid hS12
      clear hpL hh
      go_wp2_with fail
      refine (hr1.out _ hS12.out).mono ?_
      rintro e w13 ⟨rfl, hS13⟩
      replace hS13 := Lib.hid hS13
      go_wp2_with fail
      refine (hr2.out _ hS13.out).mono ?_
      rintro e w14 ⟨rfl, hS14⟩
      replace hS14 := Lib.hid hS14
      go_wp2_with fail
      refine (hr3.out _ hS14.out).mono ?_
      rintro e w15 ⟨rfl, hS15⟩
      have hp15 := hS15.ptr
      replace hS15 := Lib.hid hS15
      go_wp2_with fail
      refine (hlv.out _ hS15.out).mono ?_
      rintro e w16 ⟨rfl, rfl⟩
      go_wp2_with fail
      refine (hlb.out _ hS15.out).mono ?_
      rintro e w16 ⟨rfl, rfl⟩
      go_wp2_with fail
      refine (hruns.out _).mono ?_
      rintro e w17 ⟨rfl, hB17⟩
      have hBz := hS15.out.baseOf.trans (hB17.mono hS15.out.baseOf.size)
      replace hBz := Lib.hid hBz
      clear hB17
      go_wp2_with fail
      go_ret
      exact ⟨rfl, hBz.out⟩
end Go.Proofs.Ytpobpijjpbggoaa
