/- tendrillaw14.TickRuns: a tick over two clients makes five accesses. -/
import Derived.Test.YtpobpijjpbggoaaTickSeq
set_option linter.unusedSimpArgs false
set_option linter.unusedVariables false
namespace Go.Proofs.Ytpobpijjpbggoaa
open Go.RowKit Go.Ten

theorem new24b (w : World) :
    Calls Try.prog 9 #[.agg #[.int .i64 40, .int .i64 24, .int .i64 8, .int .i64 4, .int .i64 2, .int .i64 2, .int .i64 8, .int .i64 1]] w (NewMem MemF.cfgN 2 8 w) := new24 2 w (by omega) (by omega)
theorem info_intk : (Try.prog.info? 3).map (fun i => (i.zero.map (fun z => z.cells.size), i.size, i.bytes)) = some (some 1, 1, 8) := by kernel_rfl
theorem below_drewK {B : Nat} {w w' : World} (h : Below B w w') (n : Nat) : Below B w (w'.drewN n) := h.trans (below_dN _ _)
/-- The kinds so far. -/
def kindsV (i : Nat) : List Value := (MemF.kindsT i).map (Value.int .i64)
theorem kindsV_len (i : Nat) : (kindsV i).length = i := by simp [kindsV, MemF.kindsT_len]
/-- At the loop's head. -/
def RunHead (u wr : World) (m b i : Nat) (v : Value) : Prop := ∃ W p c, v = .slice p i c ∧ TkAt wr b (MemF.seqT i).1 ∧ MemX wr m (MemF.seqT i).2 W ∧ ¬ MF m W b ∧ wr.ownsRow u.heap.size 3 1 (.slice p i c) i (kindsV i) ∧ (∀ k, (Value.slice p i c).ownBlock = some k → ¬ MF m W k ∧ k ≠ b ∧ k < wr.heap.size) ∧ Below u.heap.size u wr ∧ (∀ k, MF m W k → u.heap.size ≤ k) ∧ u.heap.size ≤ b

set_option maxRecDepth 100000 in
set_option maxHeartbeats 4000000 in
theorem runs_calls (u : World) : Calls Try.prog 18 #[] u fun e w' => e = .returned (.bool true) ∧ Below u.heap.size u w' := by
  go_enter Try.func18, Try.ntmps18
  go_wp2_with fail
  refine (config0_calls _).mono ?_
  rintro e w1 ⟨rfl, hB1⟩
  replace hB1 := Lib.hid hB1
  go_wp2_with fail
  refine (new24b _).mono ?_
  rintro e w4 ⟨m, W, rfl, hX, hge, hB4⟩
  have hXh := Lib.hid hX
  have hgeh := Lib.hid hge
  have hB4h := Lib.hid hB4
  clear hX hge hB4
  go_wp2_with fail
  refine (tk_new_calls 2 _ (by omega) (by omega)).mono ?_
  rintro e w5 ⟨b, rfl, hT, hb, hB5⟩
  have hX5 := hXh.out.upd (S := fun _ => False) (Upd.of_below' hB5) (fun _ _ h => h)
  have hnb : ¬ MF m W b := fun hh => by have := hXh.out.lt _ hh; omega
  have hBu4 : Below u.heap.size u w4 := (hB1.out.alloc hB1.out.size _).trans (hB4h.out.mono (by simp; have := hB1.out.size; omega))
  have hfr4 : ∀ k, MF m W k → u.heap.size ≤ k := fun k hk => by
    have h9 := hgeh.out _ hk
    have := hB1.out.size
    simp at h9
    omega
  have hhead : RunHead u w5 m b 0 (.slice none 0 0) := ⟨W, none, 0, rfl, hT, hX5, hnb, ⟨rfl, .inl ⟨rfl, rfl⟩⟩, fun k hk => by simp [Value.ownBlock] at hk, hBu4.trans (hB5.mono hBu4.size), hfr4, by have := hBu4.size; omega⟩
  replace hhead := Lib.hid hhead
  clear hXh hX5 hnb hT hB5 hBu4 hfr4 hgeh hB4h hB1
  go_wp2_with fail
  go_loopw [6, 7] (fun vk vi wr => ∃ i : Nat, vi = .int .i64 i ∧ i ≤ 5 ∧ Hid (RunHead u wr m b i vk)) (fun _ v _ => 20 - (intOf v).toNat)
  case atStart => exact ⟨0, rfl, by omega, hhead⟩
  case round =>
    clear hhead
    obtain ⟨i, rfl, hi, hh⟩ := hrel
    obtain ⟨W1, p, c, rfl, hT, hX1, hbb, hown, hoff, hbu, hfr, hbB⟩ := hh.out
    replace hbu := Lib.hid hbu
    replace hfr := Lib.hid hfr
    replace hbB := Lib.hid hbB
    have hlt20 : (i : Int) < 20 := by omega
    obtain ⟨hM1, hTok, hTC, hMC⟩ := MemF.seqT_ok i
    by_cases h5 : i < 5
    · have h0 := MemF.seqT_next i h5
      have hnx := tk_next_calls' b _ wr hT hTok.2.1 h0
      have hS1 : (MemF.seqT (i + 1)).1 = (MemF.seqT i).1.got ((MemF.seqT i).2.do_ 0 { kind := (MemF.seqT i).1.kind, n := (MemF.seqT i).1.n }).2.n ((MemF.seqT i).2.do_ 0 { kind := (MemF.seqT i).1.kind, n := (MemF.seqT i).1.n }).2.ok := rfl
      have hS2 : (MemF.seqT (i + 1)).2 = ((MemF.seqT i).2.do_ 0 { kind := (MemF.seqT i).1.kind, n := (MemF.seqT i).1.n }).1 := rfl
      have hks : kindsV (i + 1) = kindsV i ++ [.int .i64 (MemF.seqT i).1.kind] := by simp [kindsV, MemF.kindsT]
      generalize (MemF.seqT i).1 = T at *
      generalize (MemF.seqT i).2 = M1 at *
      replace hM1 := Lib.hid hM1
      replace hTok := Lib.hid hTok
      replace hTC := Lib.hid hTC
      replace hMC := Lib.hid hMC
      replace hS1 := Lib.hid hS1
      replace hS2 := Lib.hid hS2
      replace hks := Lib.hid hks
      replace hT := Lib.hid hT
      replace hX1 := Lib.hid hX1
      replace hbb := Lib.hid hbb
      replace hown := Lib.hid hown
      replace hoff := Lib.hid hoff
      clear hh h0
      go_wp2_with fail
      refine hnx.mono ?_
      rintro e w2 ⟨rfl, hB2⟩
      have hBa : Below wr.heap.size wr (w2.alloc (.cells #[.int .i64 T.kind, .int .i64 0, .int .i64 0, .int .i64 T.n, .int .u64 0, .slice none 0 0] 39)) := hB2.alloc hB2.size _
      have hUa := Upd.of_below' (S := fun _ => False) hBa
      have hX2 := hX1.out.upd hUa (fun _ _ h => h)
      have hT2 := hUa.blk (fun h => h) hT.out
      have ho2 := hUa.owns hown.out (fun _ _ h => h)
      have hb2 : Blk (w2.alloc (.cells #[.int .i64 T.kind, .int .i64 0, .int .i64 0, .int .i64 T.n, .int .u64 0, .slice none 0 0] 39)) w2.heap.size [.int .i64 T.kind, .int .i64 0, .int .i64 0, .int .i64 T.n, .int .u64 0, .slice none 0 0] 39 := Blk.new w2 _ _
      have hs2 := hBa.size
      have hs2' : w2.heap.size < (w2.alloc (.cells #[.int .i64 T.kind, .int .i64 0, .int .i64 0, .int .i64 T.n, .int .u64 0, .slice none 0 0] 39)).heap.size := by simp
      have hsB := hB2.size
      have hTb := hT.out.lt
      have hXl := hX1.out.lt
      replace hX2 := Lib.hid hX2
      replace hT2 := Lib.hid hT2
      replace ho2 := Lib.hid ho2
      replace hB2 := Lib.hid hB2
      replace hBa := Lib.hid hBa
      replace hUa := Lib.hid hUa
      replace hb2 := Lib.hid hb2
      replace hs2 := Lib.hid hs2
      replace hs2' := Lib.hid hs2'
      replace hsB := Lib.hid hsB
      replace hXl := Lib.hid hXl
      clear hnx
      have hni : i < 4294967296 := by omega
      have hbase2 : u.heap.size ≤ ((w2.alloc (.cells #[.int .i64 T.kind, .int .i64 0, .int .i64 0, .int .i64 T.n, .int .u64 0, .slice none 0 0] 39)).alloc (.cells #[.int .i64 T.kind] 3)).heap.size := by
        have := hbu.out.size
        have := hsB.out
        simp
        omega
      go_wp2_with (refine wpl_appendk _ (.tmp 50) (.tmp 53) 64 3 rfl rfl 1 8 Try.underlying64 info_intk (by decide) (by decide) p i c (kindsV i) u.heap.size (w2.heap.size + 1) [.int .i64 T.kind] rfl rfl rfl ?g1 hbase2 ?g2 ?g2b hni ?g3)
      case g1 => exact ho2.out.alloc _
      case g2 =>
        intro j y hj
        have hj0 : j = 0 := by
          rcases j with _ | j
          · rfl
          · simp at hj
        subst hj0
        simp at hj
        subst hj
        simp
      case g2b => intro y hy; simp at hy; subst hy; rfl
      case g3 =>
        intro g c' w3 hown3 hupd3 hg3
        have hal3 := (Below.refl _ (w2.alloc (.cells #[.int .i64 T.kind, .int .i64 0, .int .i64 0, .int .i64 T.n, .int .u64 0, .slice none 0 0] 39))).alloc (Nat.le_refl _) (.cells #[.int .i64 T.kind] 3)
        have hU3 := Upd.of_below' (S := fun _ => False) hal3
        have hX3 := (hX2.out.upd hU3 (fun _ _ h => h)).upd hupd3 (fun k hk e => (hoff.out k e.symm).1 hk)
        have hT3 : TkAt w3 b T := hupd3.blk (fun e => (hoff.out b e.symm).2.1 rfl) (hU3.blk (fun h => h) hT2.out)
        have hb3 : Blk w3 w2.heap.size [.int .i64 T.kind, .int .i64 0, .int .i64 0, .int .i64 T.n, .int .u64 0, .slice none 0 0] 39 := hupd3.blk (fun e => by have := (hoff.out _ e.symm).2.2; have := hsB.out; omega) (hU3.blk (fun h => h) hb2.out)
        have hs3 : ((w2.alloc (.cells #[.int .i64 T.kind, .int .i64 0, .int .i64 0, .int .i64 T.n, .int .u64 0, .slice none 0 0] 39)).alloc (.cells #[.int .i64 T.kind] 3)).heap.size ≤ w3.heap.size := hupd3.size
        have hsz3 : ((w2.alloc (.cells #[.int .i64 T.kind, .int .i64 0, .int .i64 0, .int .i64 T.n, .int .u64 0, .slice none 0 0] 39)).alloc (.cells #[.int .i64 T.kind] 3)).heap.size = w2.heap.size + 1 + 1 := by simp
        have hg1 : ¬ MF m W1 g := fun hh => by
          rcases hg3 with e | e
          · exact (hoff.out g (by rw [e]; simp [Value.ownBlock])).1 hh
          · have := hXl.out _ hh; have := hsB.out; omega
        have hg2 : g ≠ b := fun hh => by
          rcases hg3 with e | e
          · exact (hoff.out g (by rw [e]; simp [Value.ownBlock])).2.1 hh
          · have := hsB.out; omega
        have hg4 : g < w3.heap.size := by
          have h9 := hown3.cellAt 0 (by omega)
          obtain ⟨u, hu⟩ : ∃ u, (kindsV i ++ [.int .i64 T.kind])[0]? = some u := ⟨_, List.getElem?_eq_getElem (by simp)⟩
          rw [hu] at h9
          exact cell_lt h9
        have hdo := do_calls m M1 W1 0 { kind := T.kind, n := T.n } (.slice none 0 0) w3 hX3 hM1.out (CellsR.nil _) (fun k hk => by simp [Value.ownBlock] at hk)
        have hS1' := hS1.out
        have hS2' := hS2.out
        unfold accV at hdo
        simp only at hdo
        generalize (M1.do_ 0 { kind := T.kind, n := T.n }) = D at hdo hS1' hS2'
        obtain ⟨M2, r⟩ := D
        simp only at hdo hS1' hS2'
        have hc3 := hb3.cell
        replace hS1' := Lib.hid hS1'
        replace hS2' := Lib.hid hS2'
        replace hX3 := Lib.hid hX3
        replace hT3 := Lib.hid hT3
        replace hown3 := Lib.hid hown3
        replace hupd3 := Lib.hid hupd3
        replace hU3 := Lib.hid hU3
        replace hal3 := Lib.hid hal3
        replace hb3 := Lib.hid hb3
        replace hg3 := Lib.hid hg3
        replace hg1 := Lib.hid hg1
        replace hs3 := Lib.hid hs3
        replace hsz3 := Lib.hid hsz3
        have ho2h := ho2
        clear hX2 hT2 ho2
        go_wp2_with fail
        refine hdo.mono ?_
        rintro e w6 ⟨⟨v, rfl, hcr, hvo⟩, hst6⟩
        obtain ⟨pv, cv, rfl, -⟩ := id hcr
        obtain ⟨W6, hX6, hF6, hu6⟩ := hst6
        have hT6 : TkAt w6 b T := hu6.blk hbb.out hT3.out
        have hgot := tk_got_calls b T r.err r.n r.ok pv r.words.length cv w6 hT6 hTok.out.2.1 (fun e => by have := hTok.out.2.2 e; have := hTok.out.1; omega)
        have hs6 := hu6.size
        have hTb3 : b < w3.heap.size := hT3.out.lt
        obtain ⟨N, hN⟩ : ∃ N, r.words.length = N := ⟨_, rfl⟩
        rw [hN] at hgot ⊢
        replace hN := Lib.hid hN
        replace hcr := Lib.hid hcr
        replace hvo := Lib.hid hvo
        replace hX6 := Lib.hid hX6
        replace hF6 := Lib.hid hF6
        replace hu6 := Lib.hid hu6
        replace hT6 := Lib.hid hT6
        clear hdo hc3
        go_wp2_with fail
        refine hgot.mono ?_
        rintro e w7 ⟨rfl, hT7, hu7⟩
        have hb7 : ¬ MF m W6 b := fun hh => by
          rcases hF6.out b hh with h | h
          · exact hbb.out h
          · omega
        have hX7 : MemX w7 m M2 W6 := hX6.out.upd hu7 (fun k hk e => hb7 (e ▸ hk))
        have hh7 : RunHead u w7 m b (i + 1) (.slice (some ⟨g, 0, none⟩) (i + 1) c') := by
          refine ⟨W6, some ⟨g, 0, none⟩, c', rfl, by rw [hS1'.out]; exact hT7, by rw [hS2'.out]; exact hX7, hb7, ?_, ?_, ?_, ?_, hbB.out⟩
          · rw [hks.out]
            refine hu7.owns (hu6.out.owns hown3.out fun k hk => ?_) fun k hk => ?_
            · obtain rfl : g = k := by simpa [Value.ownBlock] using hk
              exact hg1.out
            · obtain rfl : g = k := by simpa [Value.ownBlock] using hk
              exact hg2
          · intro k hk
            obtain rfl : g = k := by simpa [Value.ownBlock] using hk
            refine ⟨fun hh => ?_, hg2, by have := hu7.size; omega⟩
            rcases hF6.out g hh with h | h
            · exact hg1.out h
            · omega
          · have hz := hbu.out.size
            have hz1 := hsB.out
            have hz2 := hs3.out
            have hz3 := hsz3.out
            have b1 : Below u.heap.size u (w2.alloc (.cells #[.int .i64 T.kind, .int .i64 0, .int .i64 0, .int .i64 T.n, .int .u64 0, .slice none 0 0] 39)) := hbu.out.trans (hBa.out.mono hz)
            have b2 : Below u.heap.size u w3 := hupd3.out.below_own (ho2h.out.alloc _) (by omega) (b1.trans (hal3.out.mono b1.size))
            have b3 := b2.trans (hu6.out.below b2.size fun k hk e => by have := hfr.out k e; omega)
            exact b3.trans (hu7.below b3.size fun k hk e => by have := hbB.out; omega)
          · intro k hk
            rcases hF6.out k hk with h | h
            · exact hfr.out k h
            · have := hbu.out.size
              have := hsB.out
              have := hs3.out
              have := hsz3.out
              omega
        replace hh7 := Lib.hid hh7
        replace hT7 := Lib.hid hT7
        replace hX7 := Lib.hid hX7
        replace hu7 := Lib.hid hu7
        clear hgot
        go_wp2_with fail
        go_roundw
        case rel => exact ⟨i + 1, by simp, by omega, hh7⟩
        case measure => simp [intOf]; omega
    · have hi5 : i = 5 := by omega
      have h0 : (MemF.seqT i).1.next = 0 := by rw [hi5]; exact MemF.seqT_facts.2.1
      have htook : (MemF.seqT i).1.took = true := by rw [hi5]; exact MemF.seqT_facts.2.2.1
      have hnow : (MemF.seqT i).2.ep.now = 1 := by rw [hi5]; exact MemF.seqT_facts.2.2.2.1
      have hks : MemF.kindsT i = [7, 10, 10, 11, 12] := by rw [hi5]; exact MemF.seqT_facts.2.2.2.2
      have hkl := MemF.kindsT_len i
      have hnx := tk_next_calls0 b _ wr hT h0
      have hans := fun w h => tk_answer_calls b (MemF.seqT i).1 w h h0
      have htk := fun w h => tk_took_calls b (MemF.seqT i).1 w h
      have hnw := fun w h => mem_now_calls m (MemF.seqT i).2 W1 w h
      rw [htook] at htk
      rw [hnow] at hnw
      generalize (MemF.seqT i).1 = T at *
      generalize (MemF.seqT i).2 = M1 at *
      replace hans := Lib.hid hans
      replace htk := Lib.hid htk
      replace hnw := Lib.hid hnw
      replace hi5 := Lib.hid hi5
      replace hks := Lib.hid hks
      replace hkl := Lib.hid hkl
      replace hT := Lib.hid hT
      replace hX1 := Lib.hid hX1
      replace hown := Lib.hid hown
      clear hh h0 h5 hbb hoff hM1 hTok hTC hMC htook hnow
      go_wp2_with fail
      refine hnx.mono ?_
      rintro e w2 ⟨rfl, hB2⟩
      have hU2 := Upd.of_below' (S := fun _ => False) (hB2.alloc hB2.size (.cells #[.int .i64 0, .int .i64 0, .int .i64 0, .int .i64 0, .int .u64 0, .slice none 0 0] 39))
      have hT2 := hU2.blk (fun h => h) hT.out
      have hX2 := hX1.out.upd hU2 (fun _ _ h => h)
      have ho2 := hU2.owns hown.out (fun _ _ h => h)
      have hbu2 := hbu.out.trans ((hB2.alloc hB2.size (.cells #[.int .i64 0, .int .i64 0, .int .i64 0, .int .i64 0, .int .u64 0, .slice none 0 0] 39)).mono hbu.out.size)
      replace hbu2 := Lib.hid hbu2
      replace hT2 := Lib.hid hT2
      replace hX2 := Lib.hid hX2
      replace ho2 := Lib.hid ho2
      clear hnx hB2 hU2 hT hX1 hown
      go_wp2_with fail
      refine (hans.out _ hT2.out).mono ?_
      rintro e w3 ⟨rfl, hB3⟩
      have hU3 := Upd.of_below' (S := fun _ => False) (hB3.alloc hB3.size (.cells #[.int .i64 0, .bool false, .int .i64 0, .slice none 0 0] 97))
      have hT3 := hU3.blk (fun h => h) hT2.out
      have hX3 := hX2.out.upd hU3 (fun _ _ h => h)
      have ho3 := hU3.owns ho2.out (fun _ _ h => h)
      have hbu3 := hbu2.out.trans ((hB3.alloc hB3.size (.cells #[.int .i64 0, .bool false, .int .i64 0, .slice none 0 0] 97)).mono hbu2.out.size)
      replace hbu3 := Lib.hid hbu3
      replace hT3 := Lib.hid hT3
      replace hX3 := Lib.hid hX3
      replace ho3 := Lib.hid ho3
      clear hB3 hU3 hT2 hX2 ho2
      go_wp2_with fail
      refine (htk.out _ hT3.out).mono ?_
      rintro e w4 ⟨rfl, rfl⟩
      go_wp2_with fail
      refine (hnw.out _ hX3.out).mono ?_
      rintro e w4 ⟨rfl, rfl⟩
      go_wp2_with fail
      have hU4 := Upd.of_below' (S := fun _ => False) ((Below.refl _ (w3.alloc (.cells #[.int .i64 0, .bool false, .int .i64 0, .slice none 0 0] 97))).alloc (Nat.le_refl _) (.cells #[.int .i64 7, .int .i64 10, .int .i64 10, .int .i64 11, .int .i64 12] 3))
      have ho4 := hU4.owns ho3.out (fun _ _ h => h)
      have hA : IntsK ((w3.alloc (.cells #[.int .i64 0, .bool false, .int .i64 0, .slice none 0 0] 97)).alloc (.cells #[.int .i64 7, .int .i64 10, .int .i64 10, .int .i64 11, .int .i64 12] 3)) (.slice p i c) (MemF.kindsT i) := IntsK.of (by rw [hkl.out]; exact CellsR.of_owns ho4 (by have := hi5.out; omega))
      have hBk : Blk ((w3.alloc (.cells #[.int .i64 0, .bool false, .int .i64 0, .slice none 0 0] 97)).alloc (.cells #[.int .i64 7, .int .i64 10, .int .i64 10, .int .i64 11, .int .i64 12] 3)) (w3.alloc (.cells #[.int .i64 0, .bool false, .int .i64 0, .slice none 0 0] 97)).heap.size [.int .i64 7, .int .i64 10, .int .i64 10, .int .i64 11, .int .i64 12] 3 := Blk.new _ _ _
      rw [show (w3.alloc (.cells #[.int .i64 0, .bool false, .int .i64 0, .slice none 0 0] 97)).heap.size = w3.heap.size + 1 by simp] at hBk
      have hBB : IntsK ((w3.alloc (.cells #[.int .i64 0, .bool false, .int .i64 0, .slice none 0 0] 97)).alloc (.cells #[.int .i64 7, .int .i64 10, .int .i64 10, .int .i64 11, .int .i64 12] 3)) (.slice (some ⟨w3.heap.size + 1, 0, none⟩) 5 5) [7, 10, 10, 11, 12] := by
        refine ⟨_, 5, rfl, ⟨by decide, trivial⟩, fun j hj => ⟨_, 0, rfl, ?_⟩⟩
        rw [hBk.cell]
        match j, hj with
        | 0, _ | 1, _ | 2, _ | 3, _ | 4, _ => rfl
      have hsm := tick_same _ _ _ _ _ hA hBB
      rw [hks.out] at hsm
      refine hsm.mono ?_
      rintro e w5 ⟨rfl, nz, rfl⟩
      have hbu5 := below_drewK (hbu3.out.alloc hbu3.out.size (.cells #[.int .i64 7, .int .i64 10, .int .i64 10, .int .i64 11, .int .i64 12] 3)) nz
      replace hbu5 := Lib.hid hbu5
      clear hsm hA hBB hBk ho4 hU4
      go_wp2_with fail
      go_ret
      exact ⟨rfl, hbu5.out⟩
end Go.Proofs.Ytpobpijjpbggoaa
