/- tendrillaw14.TickWaits: its inner function, a tick's run. -/
import Derived.Test.YtpobpijjpbggoaaTickLaw
set_option linter.unusedSimpArgs false
set_option linter.unusedVariables false
namespace Go.Proofs.Ytpobpijjpbggoaa
open Go.RowKit Go.Ten

/-- Next's answer as an access. -/
theorem tk_next_calls' (b : Nat) (T : MemF.Tk) (w : World) (h : TkAt w b T) (hn : T.next ≤ 4) (hn0 : T.next ≠ 0) :
    Calls Try.prog 12 #[.pointer (some ⟨b, 0, none⟩)] w fun e w' => e = .returned (.tuple #[.agg #[.int .i64 T.kind, .int .i64 0, .int .i64 0, .int .i64 T.n, .int .u64 0, .slice none 0 0], .bool true]) ∧ Below w.heap.size w w' := by
  have := tk_next_calls b T w h hn
  rw [if_neg hn0, if_neg hn0] at this
  have e : decide (T.next ≠ 0) = true := by simp [hn0]
  rw [e] at this
  exact this
theorem tk_next_calls0 (b : Nat) (T : MemF.Tk) (w : World) (h : TkAt w b T) (hn0 : T.next = 0) :
    Calls Try.prog 12 #[.pointer (some ⟨b, 0, none⟩)] w fun e w' => e = .returned (.tuple #[.agg #[.int .i64 0, .int .i64 0, .int .i64 0, .int .i64 0, .int .u64 0, .slice none 0 0], .bool false]) ∧ Below w.heap.size w w' := by
  have := tk_next_calls b T w h (by omega)
  rw [if_pos hn0, if_pos hn0] at this
  have e : decide (T.next ≠ 0) = false := by simp [hn0]
  rw [e] at this
  exact this
/-- What a run leaves. -/
def TickRun (w : World) (m : Nat) (W : MW) (R : MemF.Mem × Bool) (e : Ending) (w' : World) : Prop := e = .returned (.bool R.2) ∧ MemStep w m W w' R.1 ∧ MemF.MemOk R.1
/-- At the loop's head. -/
def TickHead (w : World) (m b : Nat) (W : MW) (C : Int) (R : MemF.Mem × Bool) (i : Nat) (wr : World) : Prop :=
  ∃ T M W1, TkAt wr b T ∧ MemF.TkOk T ∧ T.clients = C ∧ MemX wr m M W1 ∧ ¬ MF m W1 b ∧ (∀ k, MF m W1 k → MF m W k ∨ w.heap.size ≤ k) ∧ Upd (MF m W) w wr ∧ MemF.MemOk M ∧ M.clients = C ∧ MemF.Tk.loop (60 - i) T M = R
theorem do_clients (M : MemF.Mem) (c : Int) (a : MemF.Acc) : (M.do_ c a).1.clients = M.clients := by
  unfold MemF.Mem.do_
  split; rfl
  split
  · unfold MemF.Mem.slots
    split; rfl
    split; rfl
    split; rfl
    split; rfl
    split
    · split <;> rfl
    · rfl
  split
  · split <;> rfl
  split; rfl
  split; rfl
  split; rfl
  split; rfl
  split; rfl
  split
  · unfold MemF.Mem.collect
    dsimp only
    split; rfl
    split <;> rfl
  split
  · unfold MemF.Mem.turn
    split; rfl
    split; rfl
    split <;> rfl
  · rfl

set_option maxRecDepth 100000 in
set_option maxHeartbeats 2000000 in
theorem tickrun_calls (cfgb mb m : Nat) (C : Int) (M : MemF.Mem) (W : MW) (w : World) (hcfg : w.cell? ⟨cfgb, 5, none⟩ = some (.int .i64 C)) (hmp : w.cell? ⟨mb, 0, none⟩ = some (.pointer (some ⟨m, 0, none⟩))) (h : MemX w m M W) (hM : MemF.MemOk M) (hC : M.clients = C) (h1 : 1 ≤ C) (h8 : C ≤ 8) (hn1 : ¬ MF m W cfgb) (hn2 : ¬ MF m W mb) :
    Calls Try.prog 10 #[.pointer (some ⟨cfgb, 0, none⟩), .pointer (some ⟨mb, 0, none⟩)] w (TickRun w m W (MemF.Tk.loop 60 (MemF.Tk.new C) M)) := by
  have hX := Lib.hid h
  obtain ⟨R, hR⟩ : ∃ R, MemF.Tk.loop 60 (MemF.Tk.new C) M = R := ⟨_, rfl⟩
  rw [hR]
  have hlt := Lib.hid h.lt
  have hMh := Lib.hid hM
  have hR' := Lib.hid hR
  have hC' := Lib.hid hC
  have hn1' := Lib.hid hn1
  have hn2' := Lib.hid hn2
  have hcl := cell_lt hcfg
  have hml := cell_lt hmp
  clear h hM hR hC hn1 hn2
  go_enter Try.func10, Try.ntmps10
  go_wp2_with fail
  refine (tk_new_calls C _ h1 h8).mono ?_
  rintro e w1 ⟨b, rfl, hT1, hb1, hB1⟩
  have hhead : TickHead w m b W C R 0 w1 := ⟨MemF.Tk.new C, M, W, hT1, ⟨h8, by show (1 : Nat) ≤ 4; omega, fun e => by cases e⟩, rfl, hX.out.upd (S := fun _ => False) (Upd.of_below' hB1) (fun _ _ h => h), fun hh => by have := hlt.out b hh; omega, fun _ h => .inl h, Upd.of_below' hB1, hMh.out, hC'.out, hR'.out⟩
  replace hhead := Lib.hid hhead
  replace hT1 := Lib.hid hT1
  replace hB1 := Lib.hid hB1
  go_wp2_with fail
  go_loopw [5] (fun vi wr => ∃ i : Nat, vi = .int .i64 i ∧ i ≤ 60 ∧ Hid (TickHead w m b W C R i wr)) (fun v _ => 60 - (intOf v).toNat)
  case atStart => exact ⟨0, rfl, by omega, hhead⟩
  case round =>
    clear hhead hT1 hB1
    obtain ⟨i, rfl, hi, hh⟩ := hrel
    by_cases hlt60 : i < 60
    · have hltI : (i : Int) < 60 := by omega
      obtain ⟨T, M1, W1, hT, hTok, hTC, hX1, hbb, hF1, hu1, hM1, hM1C, hloop⟩ := hh.out
      have hst : MemStep w m W wr M1 := ⟨W1, hX1, hF1, hu1⟩
      by_cases h0 : T.next = 0
      · have hnx := tk_next_calls0 b T wr hT h0
        have hRR : R = (M1, true) := by
          rw [← hloop]
          obtain ⟨f, hf⟩ : ∃ f, 60 - i = f + 1 := ⟨59 - i, by omega⟩
          rw [hf]
          unfold MemF.Tk.loop
          rw [if_pos h0]
        have hgrow : ∀ w2, Below wr.heap.size wr w2 → MemStep w m W w2 M1 := fun w2 hB => hst.trans fun W' h' => ⟨W', h'.upd (S := fun _ => False) (Upd.of_below' hB) (fun _ _ h => h), fun _ h => .inl h, Upd.of_below' hB⟩
        replace hst := Lib.hid hst
        replace hgrow := Lib.hid hgrow
        replace hM1 := Lib.hid hM1
        replace hRR := Lib.hid hRR
        clear hT hTok hTC hM1C hloop h0 hX1 hbb hF1 hu1
        go_wp2_with fail
        refine hnx.mono ?_
        rintro e w2 ⟨rfl, hB2⟩
        replace hB2 := Lib.hid hB2
        clear hnx
        go_wp2_with fail
        go_ret
        exact ⟨(congrArg (fun r : MemF.Mem × Bool => Ending.returned (.bool r.2)) hRR.out).symm, by rw [hRR.out]; exact (hgrow.out _ hB2.out).alloc _, by rw [hRR.out]; exact hM1.out⟩
      · have hnx := tk_next_calls' b T wr hT hTok.2.1 h0
        go_wp2_with fail
        refine hnx.mono ?_
        rintro e w2 ⟨rfl, hB2⟩
        have hBa : Below wr.heap.size wr (w2.alloc (.cells #[.int .i64 T.kind, .int .i64 0, .int .i64 0, .int .i64 T.n, .int .u64 0, .slice none 0 0] 39)) := hB2.alloc hB2.size _
        have hX2 : MemX (w2.alloc (.cells #[.int .i64 T.kind, .int .i64 0, .int .i64 0, .int .i64 T.n, .int .u64 0, .slice none 0 0] 39)) m M1 W1 := hX1.upd (S := fun _ => False) (Upd.of_below' hBa) (fun _ _ h => h)
        have hdo := do_calls m M1 W1 0 { kind := T.kind, n := T.n } (.slice none 0 0) _ hX2 hM1 (CellsR.nil _) (fun k hk => by simp [Value.ownBlock] at hk)
        have hMok := hM1.do_ 0 { kind := T.kind, n := T.n } (by simp)
        have hMC := do_clients M1 0 { kind := T.kind, n := T.n }
        have hloop2 : MemF.Tk.loop (60 - (i + 1)) (T.got (M1.do_ 0 { kind := T.kind, n := T.n }).2.n (M1.do_ 0 { kind := T.kind, n := T.n }).2.ok) (M1.do_ 0 { kind := T.kind, n := T.n }).1 = R := by
          rw [← hloop]
          obtain ⟨f, hf⟩ : ∃ f, 60 - i = f + 1 := ⟨59 - i, by omega⟩
          have hf2 : 60 - (i + 1) = f := by omega
          rw [hf, hf2, MemF.Tk.loop, if_neg h0]
        unfold accV at hdo
        simp only at hdo
        generalize (M1.do_ 0 { kind := T.kind, n := T.n }) = D at hdo hMok hMC hloop2
        obtain ⟨M2, r⟩ := D
        simp only at hdo hMok hMC hloop2
        have hmp2 : (w2.alloc (.cells #[.int .i64 T.kind, .int .i64 0, .int .i64 0, .int .i64 T.n, .int .u64 0, .slice none 0 0] 39)).cell? ⟨mb, 0, none⟩ = some (.pointer (some ⟨m, 0, none⟩)) := by
          have h9 := hu1.cell (p := ⟨mb, 0, none⟩) hn2'.out hmp
          exact (Upd.of_below' (S := fun _ => False) hBa).cell (p := ⟨mb, 0, none⟩) (fun h => h) h9
        have hT2 : TkAt (w2.alloc (.cells #[.int .i64 T.kind, .int .i64 0, .int .i64 0, .int .i64 T.n, .int .u64 0, .slice none 0 0] 39)) b T := (Upd.of_below' (S := fun _ => False) hBa).blk (fun h => h) hT
        have hTb := hT.lt
        have hszw := hu1.size
        replace hBa := Lib.hid hBa
        replace hX2 := Lib.hid hX2
        replace hX1 := Lib.hid hX1
        replace hMok := Lib.hid hMok
        replace hMC := Lib.hid hMC
        replace hloop2 := Lib.hid hloop2
        replace hT2 := Lib.hid hT2
        replace hT := Lib.hid hT
        replace hB2 := Lib.hid hB2
        replace hst := Lib.hid hst
        replace hM1 := Lib.hid hM1
        replace hTok := Lib.hid hTok
        replace hTC := Lib.hid hTC
        replace hM1C := Lib.hid hM1C
        replace hbb := Lib.hid hbb
        replace hF1 := Lib.hid hF1
        replace hu1 := Lib.hid hu1
        clear hnx hloop
        go_wp2_with fail
        refine hdo.mono ?_
        rintro e w3 ⟨⟨v, rfl, hcr, hvo⟩, hst3⟩
        obtain ⟨p, cp, rfl, -⟩ := id hcr
        obtain ⟨W3, hX3, hF3, hu3⟩ := hst3
        have hT3 : TkAt w3 b T := hu3.blk hbb.out hT2.out
        have hgot := tk_got_calls b T r.err r.n r.ok p r.words.length cp w3 hT3 hTok.out.2.1 (fun e => by have := hTok.out.2.2 e; have := hTok.out.1; omega)
        have hTok3 := hTok.out.got (by rw [hTC.out]; exact h1) r.n r.ok
        have hb3 : ¬ MF m W3 b := fun hh => by
          rcases hF3 b hh with h | h
          · exact hbb.out h
          · have := hBa.out.size; omega
        have hF3' : ∀ k, MF m W3 k → MF m W k ∨ w.heap.size ≤ k := fun k hk => by
          rcases hF3 k hk with h | h
          · exact hF1.out k h
          · have := hBa.out.size; exact .inr (by omega)
        have hu3' : Upd (MF m W) w w3 := ((hu1.out.trans (Upd.of_below' hBa.out) (fun k _ h => h)).trans hu3 fun k hk e => by
          rcases hF1.out k e with h | h
          · exact h
          · omega)
        have hmbb : m ≠ b := fun e => hb3 (.inl e.symm)
        obtain ⟨N, hN⟩ : ∃ N, r.words.length = N := ⟨_, rfl⟩
        rw [hN] at hgot ⊢
        replace hN := Lib.hid hN
        replace hcr := Lib.hid hcr
        replace hvo := Lib.hid hvo
        replace hX3 := Lib.hid hX3
        replace hF3 := Lib.hid hF3
        replace hF3' := Lib.hid hF3'
        replace hu3 := Lib.hid hu3
        replace hu3' := Lib.hid hu3'
        replace hT3 := Lib.hid hT3
        replace hTok3 := Lib.hid hTok3
        replace hb3 := Lib.hid hb3
        clear hdo hmp2
        go_wp2_with fail
        refine hgot.mono ?_
        rintro e w4 ⟨rfl, hT4, hu4⟩
        have hX4 : MemX w4 m M2 W3 := hX3.out.upd hu4 (fun k hk e => hb3.out (e ▸ hk))
        have hh4 : TickHead w m b W C R (i + 1) w4 := ⟨_, M2, W3, hT4, hTok3.out.1, by rw [hTok3.out.2]; exact hTC.out, hX4, hb3.out, hF3'.out, hu3'.out.trans hu4 (fun k hk e => by omega), hMok.out, by rw [hMC.out]; exact hM1C.out, hloop2.out⟩
        replace hh4 := Lib.hid hh4
        replace hT4 := Lib.hid hT4
        replace hX4 := Lib.hid hX4
        replace hu4 := Lib.hid hu4
        clear hgot
        go_wp2_with fail
        go_roundw
        case rel => exact ⟨i + 1, by simp, by omega, hh4⟩
        case measure => simp [intOf]; omega
    · have hge : ¬ (i : Int) < 60 := by omega
      obtain ⟨T, M1, W1, hT, hTok, hTC, hX1, hbb, hF1, hu1, hM1, hM1C, hloop⟩ := hh.out
      have hst : MemStep w m W wr M1 := ⟨W1, hX1, hF1, hu1⟩
      have hRR : R = (M1, false) := by
        rw [← hloop]
        have : 60 - i = 0 := by omega
        rw [this]
        rfl
      replace hst := Lib.hid hst
      replace hM1 := Lib.hid hM1
      replace hRR := Lib.hid hRR
      clear hT hTok hTC hM1C hloop hX1 hbb hF1 hu1
      go_wp2_with fail
      go_ret
      exact ⟨(congrArg (fun r : MemF.Mem × Bool => Ending.returned (.bool r.2)) hRR.out).symm, by rw [hRR.out]; exact hst.out, by rw [hRR.out]; exact hM1.out⟩
end Go.Proofs.Ytpobpijjpbggoaa
