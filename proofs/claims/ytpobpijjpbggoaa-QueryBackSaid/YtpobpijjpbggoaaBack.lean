/- tendrillaw23.QueryBack answers true, whatever the text. -/
import Derived.Test.YtpobpijjpbggoaaRuns
set_option linter.unusedSimpArgs false
set_option linter.unusedVariables false
namespace Go.Proofs.Ytpobpijjpbggoaa
open Go.RowKit Go.Ten Go.Ten.Qy Go.Ten.Mg

theorem ext_take (l : List UInt8) (k : Nat) : (ByteArray.mk l.toArray).extract 0 k = ⟨(l.take k).toArray⟩ := by
  rw [ByteArray.extract_mk]; simp

set_option maxRecDepth 100000 in
set_option maxHeartbeats 2000000 in
theorem back_calls (l : List UInt8) (hl : l.length ≤ 9223372036854775807) (w : World) : Calls Try.prog 4 #[.string ⟨l.toArray⟩] w fun e w' => e = .returned (.bool true) ∧ Below w.heap.size w w' := by
  have hsz := size_str l
  have hlaw := back_law (if 200 < l.length then l.take 200 else l)
  obtain ⟨s, hs⟩ : ∃ s, (if 200 < l.length then l.take 200 else l) = s := ⟨_, rfl⟩
  rw [hs] at hlaw
  have hpc := parse_calls s w
  rcases hp : rdParse s with ⟨q, e⟩
  rw [hp] at hlaw hpc
  simp only at hlaw hpc
  obtain ⟨L, hL⟩ : ∃ L, l.length = L := ⟨_, rfl⟩
  by_cases hlt : 200 < l.length
  · rw [if_pos hlt] at hs
    have hext := ext_take l 200
    rw [hs] at hext
    have hlI : (200 : Int) < (L : Int) := by omega
    clear hs hp
    rw [hL] at hsz hlt
    replace hL := Lib.hid hL
    by_cases he : e = 0
    · subst he
      obtain ⟨hr, hb⟩ := hlaw.2 rfl
      clear hlaw
      go_enter Try.func4, Try.ntmps4
      go_wp2_with fail
      refine hpc.mono ?_
      rintro e w1 ⟨p1, c1, rfl, ho1, hb1⟩
      clear hpc
      have hP1 := PartsAt.of_right ho1 hr
      clear ho1
      have hrun := fun w => runs_calls w
      have htx := text_calls _ _ w1 hP1
      obtain ⟨N, hN⟩ : ∃ N, q.length = N := ⟨_, rfl⟩
      have hsz1 := hb1.size
      rw [hN] at hP1 htx ⊢
      replace hN := Lib.hid hN
      go_wp2_with fail
      refine htx.mono ?_
      rintro e w2 ⟨rfl, hb2⟩
      clear htx
      have hsz2 := hb2.size
      have hpc2 := parse_calls (text q) w2
      rcases hp2 : rdParse (text q) with ⟨r, f⟩
      rw [hp2] at hpc2 hb
      clear hp2
      simp only at hb hpc2
      go_wp2_with fail
      refine hpc2.mono ?_
      rintro e w3 ⟨p3, c3, rfl, ho3, hb3⟩
      clear hpc2
      have hsz3 := hb3.size
      have hP3 := (hP1.grew hb2).grew hb3
      have hrc := right_calls _ _ w3 hP3
      rw [hr] at hrc
      obtain ⟨M, hM⟩ : ∃ M, r.length = M := ⟨_, rfl⟩
      rw [hM]
      replace hM := Lib.hid hM
      rcases hb with rfl | hb
      · go_wp2_with fail
        refine hrc.mono ?_
        rintro e w4 ⟨rfl, hb4⟩
        clear hrc
        have hsz4 := hb4.size
        go_wp2_with fail
        refine (hrun _).mono ?_
        rintro e w5 ⟨rfl, hb5⟩
        go_wp2_with fail
        go_ret
        exact ⟨rfl, (((hb1.trans (hb2.mono hsz1)).trans (hb3.mono (by omega))).trans (hb4.mono (by omega))).trans (hb5.mono (by omega))⟩
      · have hrq : r = q := congrArg Prod.fst hb
        have hf : f = 0 := congrArg Prod.snd hb
        clear hb
        subst hrq hf
        have hP3b := PartsAt.of_right ho3 hr
        rw [hM.out] at hP3b
        clear ho3
        go_wp2_with fail
        refine hrc.mono ?_
        rintro e w4 ⟨rfl, hb4⟩
        clear hrc
        have hsz4 := hb4.size
        have hsm := same_part _ _ r r w4 (hP3b.grew hb4) (hP3.grew hb4)
        rw [decide_eq_true rfl] at hsm
        go_wp2_with fail
        refine hsm.mono ?_
        rintro e w5 ⟨rfl, n, rfl⟩
        clear hsm
        go_wp2_with fail
        refine (hrun _).mono ?_
        rintro e w5 ⟨rfl, hb5⟩
        go_wp2_with fail
        go_ret
        refine ⟨rfl, ((((hb1.trans (hb2.mono hsz1)).trans (hb3.mono (by omega))).trans (hb4.mono (by omega))).trans (below_dN _ n)).trans (hb5.mono ?_)⟩
        have : (w4.drewN n).heap.size = w4.heap.size := rfl
        omega
    · obtain ⟨rfl, he3⟩ := hlaw.1 he
      have he0 : (e == 0) = false := by simpa using he
      clear hlaw
      go_enter Try.func4, Try.ntmps4
      go_wp2_with fail
      refine hpc.mono ?_
      rintro e w1 ⟨p1, c1, rfl, ho1, hb1⟩
      clear hpc ho1
      have hsz1 := hb1.size
      have hrun := fun w => runs_calls w
      simp only [List.length_nil]
      rcases he3 with rfl | rfl | rfl
      all_goals
        go_wp2_with fail
        refine (hrun _).mono ?_
        rintro e w5 ⟨rfl, hb5⟩
        go_wp2_with fail
        go_ret
        exact ⟨rfl, hb1.trans (hb5.mono hsz1)⟩
  · rw [if_neg hlt] at hs
    subst hs
    have hlI : (L : Int) ≤ 200 := by omega
    clear hp
    rw [hL] at hsz hlt
    replace hL := Lib.hid hL
    by_cases he : e = 0
    · subst he
      obtain ⟨hr, hb⟩ := hlaw.2 rfl
      clear hlaw
      go_enter Try.func4, Try.ntmps4
      go_wp2_with fail
      refine hpc.mono ?_
      rintro e w1 ⟨p1, c1, rfl, ho1, hb1⟩
      clear hpc
      have hP1 := PartsAt.of_right ho1 hr
      clear ho1
      have hrun := fun w => runs_calls w
      have htx := text_calls _ _ w1 hP1
      obtain ⟨N, hN⟩ : ∃ N, q.length = N := ⟨_, rfl⟩
      have hsz1 := hb1.size
      rw [hN] at hP1 htx ⊢
      replace hN := Lib.hid hN
      go_wp2_with fail
      refine htx.mono ?_
      rintro e w2 ⟨rfl, hb2⟩
      clear htx
      have hsz2 := hb2.size
      have hpc2 := parse_calls (text q) w2
      rcases hp2 : rdParse (text q) with ⟨r, f⟩
      rw [hp2] at hpc2 hb
      clear hp2
      simp only at hb hpc2
      go_wp2_with fail
      refine hpc2.mono ?_
      rintro e w3 ⟨p3, c3, rfl, ho3, hb3⟩
      clear hpc2
      have hsz3 := hb3.size
      have hP3 := (hP1.grew hb2).grew hb3
      have hrc := right_calls _ _ w3 hP3
      rw [hr] at hrc
      obtain ⟨M, hM⟩ : ∃ M, r.length = M := ⟨_, rfl⟩
      rw [hM]
      replace hM := Lib.hid hM
      rcases hb with rfl | hb
      · go_wp2_with fail
        refine hrc.mono ?_
        rintro e w4 ⟨rfl, hb4⟩
        clear hrc
        have hsz4 := hb4.size
        go_wp2_with fail
        refine (hrun _).mono ?_
        rintro e w5 ⟨rfl, hb5⟩
        go_wp2_with fail
        go_ret
        exact ⟨rfl, (((hb1.trans (hb2.mono hsz1)).trans (hb3.mono (by omega))).trans (hb4.mono (by omega))).trans (hb5.mono (by omega))⟩
      · have hrq : r = q := congrArg Prod.fst hb
        have hf : f = 0 := congrArg Prod.snd hb
        clear hb
        subst hrq hf
        have hP3b := PartsAt.of_right ho3 hr
        rw [hM.out] at hP3b
        clear ho3
        go_wp2_with fail
        refine hrc.mono ?_
        rintro e w4 ⟨rfl, hb4⟩
        clear hrc
        have hsz4 := hb4.size
        have hsm := same_part _ _ r r w4 (hP3b.grew hb4) (hP3.grew hb4)
        rw [decide_eq_true rfl] at hsm
        go_wp2_with fail
        refine hsm.mono ?_
        rintro e w5 ⟨rfl, n, rfl⟩
        clear hsm
        go_wp2_with fail
        refine (hrun _).mono ?_
        rintro e w5 ⟨rfl, hb5⟩
        go_wp2_with fail
        go_ret
        refine ⟨rfl, ((((hb1.trans (hb2.mono hsz1)).trans (hb3.mono (by omega))).trans (hb4.mono (by omega))).trans (below_dN _ n)).trans (hb5.mono ?_)⟩
        have : (w4.drewN n).heap.size = w4.heap.size := rfl
        omega
    · obtain ⟨rfl, he3⟩ := hlaw.1 he
      have he0 : (e == 0) = false := by simpa using he
      clear hlaw
      go_enter Try.func4, Try.ntmps4
      go_wp2_with fail
      refine hpc.mono ?_
      rintro e w1 ⟨p1, c1, rfl, ho1, hb1⟩
      clear hpc ho1
      have hsz1 := hb1.size
      have hrun := fun w => runs_calls w
      simp only [List.length_nil]
      rcases he3 with rfl | rfl | rfl
      all_goals
        go_wp2_with fail
        refine (hrun _).mono ?_
        rintro e w5 ⟨rfl, hb5⟩
        go_wp2_with fail
        go_ret
        exact ⟨rfl, hb1.trans (hb5.mono hsz1)⟩
end Go.Proofs.Ytpobpijjpbggoaa
